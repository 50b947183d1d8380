/- The functions of the seat's program as plain ones over the layer 'Sh', written by a program of this session's own; no condition. -/
import Derived.Test.YtokpgallfmpmkaaProg
import Derived.Test.YtokpgallfmpmkaaShEq
import Derived.KernelRfl
namespace Go.Sh.Ytokpgallfmpmkaa
open Go Go.Proofs
set_option linter.unusedVariables false
set_option maxRecDepth 100000

/-- dailies/dailieslaw15.MediumPlays -/
def f6.ann : Ann := (.s .z (.s .z (.s .z (.s .z (.s .z (.s (.s .z (.c (.s .z .z) .z)) (.s .z (.s (.s .z (.b [4, 5, 6] (.l [0, 4, 5, 6, 7, 8] (.s (.s .z (.c .z .z)) (.s (.b [0, 4, 5, 6, 7, 8] (.s .z (.s (.s .z (.c (.s .z .z) .z)) (.s .z (.s (.s .z (.j [0, 4, 5, 6, 7, 8, 9] .z .z)) (.s .z (.s .z (.c (.s .z .z) .z)))))))) .z))))) (.s .z (.s .z (.s .z (.s .z (.s .z (.s .z .z))))))))))))))
noncomputable def f6.l0 (call : CallF) (vs : List Value) (W1 : World) : Option Res :=
  let script0_1 := nth vs 0
  let k4 := nth vs 1
  let x5 := nth vs 2
  let y6 := nth vs 3
  let size7 := nth vs 4
  let i8 := nth vs 5
  (prun Try.prog (Builtin.len_ #[53] 3 #[script0_1])).bind fun v45 =>
  (bin .lss i8 v45).bind fun v46 =>
  (asB v46).bind fun c46 =>
  if c46 then
    ((prun Try.prog (Instr.indexAt 53 script0_1 i8)).bind fun v52 =>
    (prun Try.prog (Instr.fieldAt 68 v52 4)).bind fun v53 =>
    (rrun Try.prog (Instr.loadAt 22 v53) W1).bind fun v54 =>
    (prun Try.prog (Builtin.len_ #[22] 3 #[v54])).bind fun v55 =>
    (bin .add size7 v55).bind fun v56 =>
    (bin .gtr v56 (Value.int IntKind.i64 268435456)).bind fun v58 =>
    (asB v58).bind fun c58 =>
    if c58 then
      some (Res.ret [(Value.bool true)] W1)
    else
    (prun Try.prog (Instr.indexAt 53 script0_1 i8)).bind fun v62 =>
    (prun Try.prog (Instr.fieldAt 68 v62 3)).bind fun v63 =>
    (rrun Try.prog (Instr.loadAt 4 v63) W1).bind fun v64 =>
    (asB v64).bind fun c64 =>
    (if c64 then
      some (Res.norm [script0_1, k4, x5, y6, v56, i8, y6] W1)
     else
      some (Res.norm [script0_1, k4, x5, y6, v56, i8, x5] W1)).bind fun (r : Res) => r.cont fun vs_1 W2 =>
    let script0_2 := nth vs_1 0
    let k4_1 := nth vs_1 1
    let x5_1 := nth vs_1 2
    let y6_1 := nth vs_1 3
    let size7_1 := nth vs_1 4
    let i8_1 := nth vs_1 5
    let p9 := nth vs_1 6
    (prun Try.prog (Instr.indexAt 53 script0_2 i8_1)).bind fun v70 =>
    (rrun Try.prog (Instr.loadAt 68 v70) W2).bind fun v71 =>
    (call 23 #[p9, k4_1, v71] W2).bind fun r72 =>
    (prun Try.prog (Op.unary .not r72.1)).bind fun v74 =>
    (asB v74).bind fun c74 =>
    if c74 then
      some (Res.ret [(Value.bool false)] r72.2)
    else
    some (Res.norm [script0_2, k4_1, x5_1, y6_1, size7_1, i8_1] r72.2)).bind fun (r : Res) => (r.unblock 1).cont fun vs_2 W3 =>
    let script0_3 := nth vs_2 0
    let k4_2 := nth vs_2 1
    let x5_2 := nth vs_2 2
    let y6_2 := nth vs_2 3
    let size7_2 := nth vs_2 4
    let i8_2 := nth vs_2 5
    (bin .add i8_2 (Value.int IntKind.i64 1)).bind fun v48 =>
    some (Res.norm [script0_3, k4_2, x5_2, y6_2, size7_2, v48] W3)
  else
  some (Res.exit 0 [k4, x5, y6] W1)
noncomputable def f6 (call : CallF) (script0 : Value) (W0 : World) : Option (Value × World) :=
  ((call 7 #[] W0).bind fun r16 =>
  (prun Try.prog (Instr.build 59 #[])).bind fun v17 =>
  (erun Try.prog (Instr.box 59 v17) r16.2).bind fun r18 =>
  (call 21 #[] r18.2).bind fun r19 =>
  (call 22 #[] r19.2).bind fun r20 =>
  (prun Try.prog (Instr.build 66 #[(0, r19.1), (1, r20.1)])).bind fun v21 =>
  (erun Try.prog (Instr.box 66 v21) r20.2).bind fun r22 =>
  (call 21 #[] r22.2).bind fun r23 =>
  (call 22 #[] r23.2).bind fun r24 =>
  (prun Try.prog (Instr.build 66 #[(0, r23.1), (1, r24.1)])).bind fun v25 =>
  (erun Try.prog (Instr.box 66 v25) r24.2).bind fun r26 =>
  (prun Try.prog (Op.unary .not r16.1)).bind fun v28 =>
  (asB v28).bind fun b29 =>
  (if b29 = false then (nilV Try.prog r22.1).bind fun v31 =>
    (prun Try.prog (Instr.fieldAt 66 v31 0)).bind fun v32 =>
    (rrun Try.prog (Instr.loadAt 24 v32) r26.2).bind fun v33 =>
    (rrun Try.prog (do eqGuard .eql 24 (Operand.tmp 33) (Operand.const (Value.pointer none)) v33 (Value.pointer none); binOp .eql 24 v33 (Value.pointer none)) r26.2).bind fun v34 =>
    some (v34, r26.2)
   else some ((Value.bool true), r26.2)).bind fun r35 =>
  (asB r35.1).bind fun b36 =>
  (if b36 = false then (nilV Try.prog r26.1).bind fun v38 =>
    (prun Try.prog (Instr.fieldAt 66 v38 0)).bind fun v39 =>
    (rrun Try.prog (Instr.loadAt 24 v39) r35.2).bind fun v40 =>
    (rrun Try.prog (do eqGuard .eql 24 (Operand.tmp 40) (Operand.const (Value.pointer none)) v40 (Value.pointer none); binOp .eql 24 v40 (Value.pointer none)) r35.2).bind fun v41 =>
    some (v41, r35.2)
   else some ((Value.bool true), r35.2)).bind fun r42 =>
  (asB r42.1).bind fun c42 =>
  if c42 then
    some (Res.ret [(Value.bool false)] r42.2)
  else
  (iter (f6.l0 call) [script0, r18.1, r22.1, r26.1, (Value.int IntKind.i64 0), (Value.int IntKind.i64 0)] r42.2).bind fun (r : Res) => (r.unblock 0).cont fun vs_3 W4 =>
  let k4_3 := nth vs_3 0
  let x5_3 := nth vs_3 1
  let y6_3 := nth vs_3 2
  (prun Try.prog (Instr.build 68 #[(0, (Value.int IntKind.i64 11))])).bind fun v77 =>
  (call 24 #[x5_3, k4_3, v77] W4).bind fun r78 =>
  (prun Try.prog (Instr.build 68 #[(0, (Value.int IntKind.i64 11))])).bind fun v81 =>
  (call 24 #[y6_3, k4_3, v81] r78.2).bind fun r82 =>
  (prun Try.prog (Instr.build 68 #[(0, (Value.int IntKind.i64 7))])).bind fun v85 =>
  (call 24 #[x5_3, k4_3, v85] r82.2).bind fun r86 =>
  (prun Try.prog (Instr.build 68 #[(0, (Value.int IntKind.i64 7))])).bind fun v89 =>
  (call 24 #[y6_3, k4_3, v89] r86.2).bind fun r90 =>
  (call 25 #[k4_3] r90.2).bind fun r92 =>
  (asB r78.1).bind fun b94 =>
  (if b94 = true then some (r82.1, r92.2)
   else some ((Value.bool false), r92.2)).bind fun r96 =>
  (asB r96.1).bind fun b97 =>
  (if b97 = true then some (r86.1, r96.2)
   else some ((Value.bool false), r96.2)).bind fun r99 =>
  (asB r99.1).bind fun b100 =>
  (if b100 = true then some (r90.1, r99.2)
   else some ((Value.bool false), r99.2)).bind fun r102 =>
  (asB r102.1).bind fun b103 =>
  (if b103 = true then some (r92.1, r102.2)
   else some ((Value.bool false), r102.2)).bind fun r105 =>
  some (Res.ret [r105.1] r105.2)).bind Res.done
theorem f6.eq (call dfr : CallF) (script0 : Value) (W0 : World) : aFun Try.prog call dfr Try.f6 f6.ann (ofArgs #[script0]) W0 = f6 call script0 W0 := by kernel_rfl

/-- dailies/dailieslaw15.shown -/
def f7.ann : Ann := (.s .z (.s .z (.s (.s .z (.c (.s .z .z) .z)) (.s .z (.s .z (.s .z (.s .z (.s .z .z))))))))
noncomputable def f7 (call : CallF)  (W0 : World) : Option (Value × World) :=
  ((call 21 #[] W0).bind fun r9 =>
  (rrun Try.prog (do eqGuard .eql 24 (Operand.tmp 10) (Operand.const (Value.pointer none)) r9.1 (Value.pointer none); binOp .eql 24 r9.1 (Value.pointer none)) r9.2).bind fun v11 =>
  (asB v11).bind fun c11 =>
  if c11 then
    some (Res.ret [(Value.bool false)] r9.2)
  else
  (erun Try.prog (Instr.buildSlice 22 3 #[(0, (Value.int IntKind.u8 97)), (1, (Value.int IntKind.u8 98)), (2, (Value.int IntKind.u8 99))]) r9.2).bind fun r14 =>
  (erun Try.prog (convert 22 22 r14.1) r14.2).bind fun r15 =>
  (call 10 #[r9.1, r15.1] r15.2).bind fun r16 =>
  (prun Try.prog (Instr.extract r16.1 0)).bind fun v17 =>
  (prun Try.prog (Instr.extract r16.1 1)).bind fun v18 =>
  (erun Try.prog (Instr.buildSlice 22 2 #[(0, (Value.int IntKind.u8 100)), (1, (Value.int IntKind.u8 101))]) r16.2).bind fun r21 =>
  (erun Try.prog (convert 22 22 r21.1) r21.2).bind fun r22 =>
  (call 10 #[r9.1, r22.1] r22.2).bind fun r23 =>
  (prun Try.prog (Instr.extract r23.1 0)).bind fun v24 =>
  (prun Try.prog (Instr.extract r23.1 1)).bind fun v25 =>
  (call 16 #[r9.1, (Value.int IntKind.i64 2), (Value.int IntKind.i64 2)] r23.2).bind fun r28 =>
  (prun Try.prog (Instr.extract r28.1 0)).bind fun v29 =>
  (prun Try.prog (Instr.extract r28.1 1)).bind fun v30 =>
  (call 18 #[r9.1] r28.2).bind fun r32 =>
  (bin .eql v17 (Value.int IntKind.i64 0)).bind fun v34 =>
  (asB v34).bind fun b35 =>
  (if b35 = true then (bin .eql v24 (Value.int IntKind.i64 3)).bind fun v37 =>
    some (v37, r32.2)
   else some ((Value.bool false), r32.2)).bind fun r38 =>
  (asB r38.1).bind fun b39 =>
  (if b39 = true then (bin .eql v18 (Value.int IntKind.i64 0)).bind fun v41 =>
    some (v41, r38.2)
   else some ((Value.bool false), r38.2)).bind fun r42 =>
  (asB r42.1).bind fun b43 =>
  (if b43 = true then (bin .eql v25 (Value.int IntKind.i64 0)).bind fun v45 =>
    some (v45, r42.2)
   else some ((Value.bool false), r42.2)).bind fun r46 =>
  (asB r46.1).bind fun b47 =>
  (if b47 = true then (bin .eql v30 (Value.int IntKind.i64 0)).bind fun v49 =>
    some (v49, r46.2)
   else some ((Value.bool false), r46.2)).bind fun r50 =>
  (asB r50.1).bind fun b51 =>
  (if b51 = true then (rrun Try.prog (convert 22 9 v29) r50.2).bind fun v53 =>
    (prun Try.prog (do eqGuard .eql 9 (Operand.tmp 53) (Operand.const (Value.string { data := #[99, 100] })) v53 (Value.string { data := #[99, 100] }); binOp .eql 9 v53 (Value.string { data := #[99, 100] }))).bind fun v54 =>
    some (v54, r50.2)
   else some ((Value.bool false), r50.2)).bind fun r55 =>
  (asB r55.1).bind fun b56 =>
  (if b56 = true then (prun Try.prog (Builtin.len_ #[41] 3 #[r32.1])).bind fun v58 =>
    (bin .eql v58 (Value.int IntKind.i64 1)).bind fun v59 =>
    some (v59, r55.2)
   else some ((Value.bool false), r55.2)).bind fun r60 =>
  (asB r60.1).bind fun b61 =>
  (if b61 = true then (prun Try.prog (Instr.indexAt 41 r32.1 (Value.int IntKind.i64 0))).bind fun v63 =>
    (rrun Try.prog (Instr.loadAt 40 v63) r60.2).bind fun v64 =>
    (prun Try.prog (Instr.build 40 #[(0, (Value.int IntKind.i64 2)), (1, (Value.int IntKind.i64 2))])).bind fun v65 =>
    (rrun Try.prog (do eqGuard .eql 40 (Operand.tmp 64) (Operand.tmp 65) v64 v65; binOp .eql 40 v64 v65) r60.2).bind fun v66 =>
    some (v66, r60.2)
   else some ((Value.bool false), r60.2)).bind fun r67 =>
  some (Res.ret [r67.1] r67.2)).bind Res.done
theorem f7.eq (call dfr : CallF)  (W0 : World) : aFun Try.prog call dfr Try.f7 f7.ann (ofArgs #[]) W0 = f7 call  W0 := by kernel_rfl

/-- dailies/medium.Load -/
def f8.ann : Ann := (.s .z (.s (.s .z (.c (.s .z .z) .z)) (.s .z .z)))
noncomputable def f8 (call : CallF) (b0 : Value) (W0 : World) : Option (Value × World) :=
  ((prun Try.prog (Builtin.len_ #[22] 3 #[b0])).bind fun v5 =>
  (bin .gtr v5 (Value.int IntKind.i64 268435456)).bind fun v6 =>
  (asB v6).bind fun c6 =>
  if c6 then
    some (Res.ret [(Value.pointer none), (Value.int IntKind.i64 153)] W0)
  else
  (call 26 #[b0] W0).bind fun r8 =>
  (prun Try.prog (Instr.build 80 #[(1, r8.1)])).bind fun v9 =>
  (erun Try.prog (Instr.box 80 v9) r8.2).bind fun r10 =>
  some (Res.ret [r10.1, (Value.int IntKind.i64 0)] r10.2)).bind Res.done
theorem f8.eq (call dfr : CallF) (b0 : Value) (W0 : World) : aFun Try.prog call dfr Try.f8 f8.ann (ofArgs #[b0]) W0 = f8 call b0 W0 := by kernel_rfl

/-- (*dailies/medium.Medium).Arm -/
def f9.ann : Ann := (.s .z (.s .z (.s .z (.s (.b [0, 1, 2] (.s .z (.c (.s .z .z) (.s .z (.c (.s .z .z) .z))))) (.s .z (.s .z .z))))))
noncomputable def f9 (call dfr : CallF) (m0 : Value) (n1 : Value) (keep2 : Value) (W0 : World) : Option (Value × World) :=
  ((nilV Try.prog m0).bind fun v8 =>
  (prun Try.prog (Instr.fieldAt 80 v8 0)).bind fun v9 =>
  (call 27 #[v9] W0).bind fun r10 =>
  (nilV Try.prog m0).bind fun v12 =>
  (prun Try.prog (Instr.fieldAt 80 v12 0)).bind fun v13 =>
  (((nilV Try.prog m0).bind fun v16 =>
  (prun Try.prog (Instr.fieldAt 80 v16 2)).bind fun v17 =>
  (rrun Try.prog (Instr.loadAt 4 v17) r10.2).bind fun v18 =>
  (asB v18).bind fun c14 =>
  if c14 then
    some (Res.ret [(Value.int IntKind.i64 152)] r10.2)
  else
  (bin .lss n1 (Value.int IntKind.i64 0)).bind fun v21 =>
  (asB v21).bind fun b22 =>
  (if b22 = false then (bin .lss keep2 (Value.int IntKind.i64 0)).bind fun v24 =>
    some (v24, r10.2)
   else some ((Value.bool true), r10.2)).bind fun r25 =>
  (asB r25.1).bind fun c19 =>
  if c19 then
    some (Res.ret [(Value.int IntKind.i64 1)] r25.2)
  else
  some (Res.norm [m0, n1, keep2] r25.2)).bind fun (r : Res) => (r.unblock 0).cont fun vs W1 =>
  let m0_1 := nth vs 0
  let n1_1 := nth vs 1
  let keep2_1 := nth vs 2
  (nilV Try.prog m0_1).bind fun v30 =>
  (prun Try.prog (Instr.fieldAt 80 v30 3)).bind fun v31 =>
  (erun Try.prog (Instr.storeAt 3 v31 n1_1) W1).bind fun r =>
  (nilV Try.prog m0_1).bind fun v32 =>
  (prun Try.prog (Instr.fieldAt 80 v32 4)).bind fun v33 =>
  (erun Try.prog (Instr.storeAt 3 v33 keep2_1) r.2).bind fun r_1 =>
  some (Res.ret [(Value.int IntKind.i64 0)] r_1.2)).bind fun (r : Res) => r.after dfr 28 #[v13]).bind Res.done
theorem f9.eq (call dfr : CallF) (m0 : Value) (n1 : Value) (keep2 : Value) (W0 : World) : aFun Try.prog call dfr Try.f9 f9.ann (ofArgs #[m0, n1, keep2]) W0 = f9 call dfr m0 n1 keep2 W0 := by kernel_rfl

/-- (*dailies/medium.Medium).Append -/
def f10.ann : Ann := (.s .z (.s .z (.s .z (.s (.b [0, 1] (.s .z (.c (.s .z .z) (.s .z (.c (.s .z .z) (.s .z (.c (.s .z (.s .z (.s .z .z))) (.s .z (.c .z .z))))))))) (.s .z (.s .z (.s .z .z)))))))
noncomputable def f10 (call dfr : CallF) (m0 : Value) (b1 : Value) (W0 : World) : Option (Value × World) :=
  ((nilV Try.prog m0).bind fun v8 =>
  (prun Try.prog (Instr.fieldAt 80 v8 0)).bind fun v9 =>
  (call 27 #[v9] W0).bind fun r10 =>
  (nilV Try.prog m0).bind fun v12 =>
  (prun Try.prog (Instr.fieldAt 80 v12 0)).bind fun v13 =>
  (((nilV Try.prog m0).bind fun v16 =>
  (prun Try.prog (Instr.fieldAt 80 v16 2)).bind fun v17 =>
  (rrun Try.prog (Instr.loadAt 4 v17) r10.2).bind fun v18 =>
  (asB v18).bind fun c14 =>
  if c14 then
    some (Res.ret [(Value.int IntKind.i64 0), (Value.int IntKind.i64 152)] r10.2)
  else
  (prun Try.prog (Builtin.len_ #[22] 3 #[b1])).bind fun v21 =>
  (nilV Try.prog m0).bind fun v23 =>
  (prun Try.prog (Instr.fieldAt 80 v23 1)).bind fun v24 =>
  (rrun Try.prog (Instr.loadAt 22 v24) r10.2).bind fun v25 =>
  (prun Try.prog (Builtin.len_ #[22] 3 #[v25])).bind fun v26 =>
  (bin .sub (Value.int IntKind.i64 268435456) v26).bind fun v27 =>
  (bin .gtr v21 v27).bind fun v28 =>
  (asB v28).bind fun c19 =>
  if c19 then
    some (Res.ret [(Value.int IntKind.i64 0), (Value.int IntKind.i64 153)] r10.2)
  else
  (nilV Try.prog m0).bind fun v31 =>
  (prun Try.prog (Instr.fieldAt 80 v31 3)).bind fun v32 =>
  (rrun Try.prog (Instr.loadAt 3 v32) r10.2).bind fun v33 =>
  (bin .eql v33 (Value.int IntKind.i64 1)).bind fun v34 =>
  (asB v34).bind fun c29 =>
  if c29 then
    ((nilV Try.prog m0).bind fun v37 =>
    some (v37, r10.2.drew)).bind fun r37 =>
    ((prun Try.prog (Instr.fieldAt 80 r37.1 1)).bind fun v38 =>
    some (v38, r37.2)).bind fun r38 =>
    ((rrun Try.prog (Instr.loadAt 22 r38.1) r38.2).bind fun v39 =>
    some (v39, r38.2)).bind fun r39 =>
    ((nilV Try.prog m0).bind fun v42 =>
    some (v42, r39.2)).bind fun r42 =>
    ((prun Try.prog (Instr.fieldAt 80 r42.1 4)).bind fun v43 =>
    some (v43, r42.2)).bind fun r43 =>
    ((rrun Try.prog (Instr.loadAt 3 r43.1) r43.2).bind fun v44 =>
    some (v44, r43.2)).bind fun r44 =>
    ((prun Try.prog (Builtin.len_ #[22] 3 #[b1])).bind fun v46 =>
    some (v46, r44.2)).bind fun r46 =>
    ((prun Try.prog (Builtin.min_ #[3, 3] 3 #[r44.1, r46.1])).bind fun v47 =>
    some (v47, r46.2)).bind fun r47 =>
    ((prun Try.prog (Instr.sliceAt 22 b1 none (some r47.1) none)).bind fun v48 =>
    some (v48, r47.2)).bind fun r48 =>
    ((erun Try.prog (Builtin.append_ #[22, 22] 22 #[r39.1, r48.1]) r48.2).bind fun r49_1 =>
    some (r49_1.1, r49_1.2)).bind fun r49 =>
    ((nilV Try.prog m0).bind fun v50 =>
    some (v50, r49.2)).bind fun r50 =>
    ((prun Try.prog (Instr.fieldAt 80 r50.1 1)).bind fun v51 =>
    some (v51, r50.2)).bind fun r51 =>
    ((erun Try.prog (Instr.storeAt 22 r51.1 r49.1) r51.2).bind fun r_1 =>
    some (undef, r_1.2)).bind fun r =>
    chkThen (True)
    ((nilV Try.prog m0).bind fun v54 =>
    (prun Try.prog (Instr.fieldAt 80 v54 2)).bind fun v55 =>
    (erun Try.prog (Instr.storeAt 4 v55 (Value.bool true)) r.2).bind fun r_2 =>
    (nilV Try.prog m0).bind fun v56 =>
    (prun Try.prog (Instr.fieldAt 80 v56 3)).bind fun v57 =>
    (erun Try.prog (Instr.storeAt 3 v57 (Value.int IntKind.i64 0)) r_2.2).bind fun r_3 =>
    some (Res.ret [(Value.int IntKind.i64 0), (Value.int IntKind.i64 152)] r_3.2))
  else
  (nilV Try.prog m0).bind fun v60 =>
  (prun Try.prog (Instr.fieldAt 80 v60 3)).bind fun v61 =>
  (rrun Try.prog (Instr.loadAt 3 v61) r10.2).bind fun v62 =>
  (bin .gtr v62 (Value.int IntKind.i64 1)).bind fun v63 =>
  (asB v63).bind fun c58 =>
  if c58 then
    (nilV Try.prog m0).bind fun v65 =>
    (prun Try.prog (Instr.fieldAt 80 v65 3)).bind fun v66 =>
    (rrun Try.prog (Instr.loadAt 3 v66) r10.2).bind fun v67 =>
    (bin .sub v67 (Value.int IntKind.i64 1)).bind fun v68 =>
    (nilV Try.prog m0).bind fun v69 =>
    (prun Try.prog (Instr.fieldAt 80 v69 3)).bind fun v70 =>
    (erun Try.prog (Instr.storeAt 3 v70 v68) r10.2).bind fun r_4 =>
    some (Res.norm [m0, b1] r_4.2)
  else
  some (Res.norm [m0, b1] r10.2)).bind fun (r : Res) => (r.unblock 0).cont fun vs W1 =>
  let m0_1 := nth vs 0
  let b1_1 := nth vs 1
  (nilV Try.prog m0_1).bind fun v72 =>
  (prun Try.prog (Instr.fieldAt 80 v72 1)).bind fun v73 =>
  (rrun Try.prog (Instr.loadAt 22 v73) W1).bind fun v74 =>
  (prun Try.prog (Builtin.len_ #[22] 3 #[v74])).bind fun v75 =>
  (nilV Try.prog m0_1).bind fun v78 =>
  (prun Try.prog (Instr.fieldAt 80 v78 1)).bind fun v79 =>
  (rrun Try.prog (Instr.loadAt 22 v79) W1).bind fun v80 =>
  (erun Try.prog (Builtin.append_ #[22, 22] 22 #[v80, b1_1]) W1).bind fun r82 =>
  (nilV Try.prog m0_1).bind fun v83 =>
  (prun Try.prog (Instr.fieldAt 80 v83 1)).bind fun v84 =>
  (erun Try.prog (Instr.storeAt 22 v84 r82.1) r82.2).bind fun r_5 =>
  some (Res.ret [v75, (Value.int IntKind.i64 0)] r_5.2)).bind fun (r : Res) => r.after dfr 28 #[v13]).bind Res.done
theorem f10.eq (call dfr : CallF) (m0 : Value) (b1 : Value) (W0 : World) : aFun Try.prog call dfr Try.f10 f10.ann (ofArgs #[m0, b1]) W0 = f10 call dfr m0 b1 W0 := by kernel_rfl

/-- (*dailies/medium.Medium).Size -/
def f11.ann : Ann := (.s .z (.s .z (.s .z (.s .z .z))))
noncomputable def f11 (call dfr : CallF) (m0 : Value) (W0 : World) : Option (Value × World) :=
  ((nilV Try.prog m0).bind fun v4 =>
  (prun Try.prog (Instr.fieldAt 80 v4 0)).bind fun v5 =>
  (call 27 #[v5] W0).bind fun r6 =>
  (nilV Try.prog m0).bind fun v8 =>
  (prun Try.prog (Instr.fieldAt 80 v8 0)).bind fun v9 =>
  ((nilV Try.prog m0).bind fun v11 =>
  (prun Try.prog (Instr.fieldAt 80 v11 1)).bind fun v12 =>
  (rrun Try.prog (Instr.loadAt 22 v12) r6.2).bind fun v13 =>
  (prun Try.prog (Builtin.len_ #[22] 3 #[v13])).bind fun v14 =>
  some (Res.ret [v14] r6.2)).bind fun (r : Res) => r.after dfr 28 #[v9]).bind Res.done
theorem f11.eq (call dfr : CallF) (m0 : Value) (W0 : World) : aFun Try.prog call dfr Try.f11 f11.ann (ofArgs #[m0]) W0 = f11 call dfr m0 W0 := by kernel_rfl

/-- (*dailies/medium.Medium).Dead -/
def f12.ann : Ann := (.s .z (.s .z (.s .z (.s .z .z))))
noncomputable def f12 (call dfr : CallF) (m0 : Value) (W0 : World) : Option (Value × World) :=
  ((nilV Try.prog m0).bind fun v4 =>
  (prun Try.prog (Instr.fieldAt 80 v4 0)).bind fun v5 =>
  (call 27 #[v5] W0).bind fun r6 =>
  (nilV Try.prog m0).bind fun v8 =>
  (prun Try.prog (Instr.fieldAt 80 v8 0)).bind fun v9 =>
  ((nilV Try.prog m0).bind fun v11 =>
  (prun Try.prog (Instr.fieldAt 80 v11 2)).bind fun v12 =>
  (rrun Try.prog (Instr.loadAt 4 v12) r6.2).bind fun v13 =>
  some (Res.ret [v13] r6.2)).bind fun (r : Res) => r.after dfr 28 #[v9]).bind Res.done
theorem f12.eq (call dfr : CallF) (m0 : Value) (W0 : World) : aFun Try.prog call dfr Try.f12 f12.ann (ofArgs #[m0]) W0 = f12 call dfr m0 W0 := by kernel_rfl

/-- (*dailies/medium.Medium).Revive -/
def f13.ann : Ann := (.s .z (.s .z .z))
noncomputable def f13 (call dfr : CallF) (m0 : Value) (W0 : World) : Option (Value × World) :=
  ((nilV Try.prog m0).bind fun v3 =>
  (prun Try.prog (Instr.fieldAt 80 v3 0)).bind fun v4 =>
  (call 27 #[v4] W0).bind fun r5 =>
  (nilV Try.prog m0).bind fun v7 =>
  (prun Try.prog (Instr.fieldAt 80 v7 0)).bind fun v8 =>
  ((nilV Try.prog m0).bind fun v11 =>
  (prun Try.prog (Instr.fieldAt 80 v11 2)).bind fun v12 =>
  (erun Try.prog (Instr.storeAt 4 v12 (Value.bool false)) r5.2).bind fun r =>
  (nilV Try.prog m0).bind fun v13 =>
  (prun Try.prog (Instr.fieldAt 80 v13 3)).bind fun v14 =>
  (erun Try.prog (Instr.storeAt 3 v14 (Value.int IntKind.i64 0)) r.2).bind fun r_1 =>
  some (Res.norm [] r_1.2)).bind fun (r : Res) => r.after dfr 28 #[v8]).bind Res.done
theorem f13.eq (call dfr : CallF) (m0 : Value) (W0 : World) : aFun Try.prog call dfr Try.f13 f13.ann (ofArgs #[m0]) W0 = f13 call dfr m0 W0 := by kernel_rfl

/-- dailies/dailieslaw15.place -/
def f14.ann : Ann := (.s .z (.s (.s .z (.j [0, 1] .z .z)) (.s .z .z)))
noncomputable def f14 (call : CallF) (c0 : Value) (n1 : Value) (W0 : World) : Option (Value × World) :=
  ((bin .lss c0 (Value.int IntKind.i64 0)).bind fun v6 =>
  (asB v6).bind fun c6 =>
  (if c6 then
    (bin .add c0 (Value.int IntKind.i64 1)).bind fun v8 =>
    (prun Try.prog (Op.unary .neg v8)).bind fun v9 =>
    some (Res.norm [v9, n1] W0)
   else
    some (Res.norm [c0, n1] W0)).bind fun (r : Res) => r.cont fun vs W1 =>
  let c0_1 := nth vs 0
  let n1_1 := nth vs 1
  (bin .rem c0_1 n1_1).bind fun v12 =>
  some (Res.ret [v12] W1)).bind Res.done
theorem f14.eq (call dfr : CallF) (c0 : Value) (n1 : Value) (W0 : World) : aFun Try.prog call dfr Try.f14 f14.ann (ofArgs #[c0, n1]) W0 = f14 call c0 n1 W0 := by kernel_rfl

/-- (*dailies/medium.Medium).Piece -/
def f15.ann : Ann := (.s .z (.s .z (.s .z (.s (.s .z (.c (.s .z .z) .z)) (.s .z .z)))))
noncomputable def f15 (call dfr : CallF) (m0 : Value) (s1 : Value) (W0 : World) : Option (Value × World) :=
  ((erun Try.prog (Instr.box 40 s1) W0).bind fun r3 =>
  (nilV Try.prog m0).bind fun v7 =>
  (prun Try.prog (Instr.fieldAt 80 v7 0)).bind fun v8 =>
  (call 27 #[v8] r3.2).bind fun r9 =>
  (nilV Try.prog m0).bind fun v11 =>
  (prun Try.prog (Instr.fieldAt 80 v11 0)).bind fun v12 =>
  ((prun Try.prog (Instr.fieldAt 40 r3.1 0)).bind fun v13 =>
  (rrun Try.prog (Instr.loadAt 3 v13) r9.2.drew).bind fun v14 =>
  (prun Try.prog (Instr.fieldAt 40 r3.1 1)).bind fun v15 =>
  (rrun Try.prog (Instr.loadAt 3 v15) r9.2.drew).bind fun v16 =>
  (nilV Try.prog m0).bind fun v18 =>
  (prun Try.prog (Instr.fieldAt 80 v18 1)).bind fun v19 =>
  (rrun Try.prog (Instr.loadAt 22 v19) r9.2.drew).bind fun v20 =>
  (prun Try.prog (Builtin.len_ #[22] 3 #[v20])).bind fun v21 =>
  (call 29 #[v14, v16, v21] r9.2.drew).bind fun r22 =>
  (prun Try.prog (Op.unary .not r22.1)).bind fun v23 =>
  (asB v23).bind fun c23 =>
  if c23 then
    some (Res.ret [Value.nilIface, (Value.int IntKind.i64 151)] r22.2)
  else
  (rrun Try.prog (Instr.loadAt 40 r3.1) r22.2).bind fun v25 =>
  (prun Try.prog (Instr.build 84 #[(0, m0), (1, v25)])).bind fun v26 =>
  (erun Try.prog (Instr.box 84 v26) r22.2).bind fun r27 =>
  (prun Try.prog (Instr.makeInterface 82 r27.1)).bind fun v28 =>
  some (Res.ret [v28, (Value.int IntKind.i64 0)] r27.2)).bind fun (r : Res) => r.after dfr 28 #[v12]).bind Res.done
theorem f15.eq (call dfr : CallF) (m0 : Value) (s1 : Value) (W0 : World) : aFun Try.prog call dfr Try.f15 f15.ann (ofArgs #[m0, s1]) W0 = f15 call dfr m0 s1 W0 := by kernel_rfl

/-- (*dailies/medium.Medium).Read -/
def f16.ann : Ann := (.s .z (.s .z (.s .z (.s .z .z))))
noncomputable def f16 (call dfr : CallF) (m0 : Value) (at1 : Value) (n2 : Value) (W0 : World) : Option (Value × World) :=
  ((nilV Try.prog m0).bind fun v9 =>
  (prun Try.prog (Instr.fieldAt 80 v9 0)).bind fun v10 =>
  (call 27 #[v10] W0).bind fun r11 =>
  (nilV Try.prog m0).bind fun v13 =>
  (prun Try.prog (Instr.fieldAt 80 v13 0)).bind fun v14 =>
  ((call 30 #[m0, at1, n2] r11.2).bind fun r18 =>
  (prun Try.prog (Instr.extract r18.1 0)).bind fun v19 =>
  (prun Try.prog (Instr.extract r18.1 1)).bind fun v20 =>
  some (Res.ret [v19, v20] r18.2)).bind fun (r : Res) => r.after dfr 28 #[v14]).bind Res.done
theorem f16.eq (call dfr : CallF) (m0 : Value) (at1 : Value) (n2 : Value) (W0 : World) : aFun Try.prog call dfr Try.f16 f16.ann (ofArgs #[m0, at1, n2]) W0 = f16 call dfr m0 at1 n2 W0 := by kernel_rfl

/-- (*dailies/medium.Medium).Bytes -/
def f17.ann : Ann := (.s .z (.s .z (.s .z (.s .z .z))))
noncomputable def f17 (call dfr : CallF) (m0 : Value) (W0 : World) : Option (Value × World) :=
  ((nilV Try.prog m0).bind fun v4 =>
  (prun Try.prog (Instr.fieldAt 80 v4 0)).bind fun v5 =>
  (call 27 #[v5] W0).bind fun r6 =>
  (nilV Try.prog m0).bind fun v8 =>
  (prun Try.prog (Instr.fieldAt 80 v8 0)).bind fun v9 =>
  ((nilV Try.prog m0).bind fun v11 =>
  (prun Try.prog (Instr.fieldAt 80 v11 1)).bind fun v12 =>
  (rrun Try.prog (Instr.loadAt 22 v12) r6.2).bind fun v13 =>
  (call 26 #[v13] r6.2).bind fun r14 =>
  (call 31 #[r14.1] r14.2).bind fun r15 =>
  some (Res.ret [r15.1] r15.2)).bind fun (r : Res) => r.after dfr 28 #[v9]).bind Res.done
theorem f17.eq (call dfr : CallF) (m0 : Value) (W0 : World) : aFun Try.prog call dfr Try.f17 f17.ann (ofArgs #[m0]) W0 = f17 call dfr m0 W0 := by kernel_rfl

/-- (*dailies/medium.Medium).Log -/
def f18.ann : Ann := (.s .z (.s .z (.s .z (.s .z .z))))
noncomputable def f18 (call dfr : CallF) (m0 : Value) (W0 : World) : Option (Value × World) :=
  ((nilV Try.prog m0).bind fun v4 =>
  (prun Try.prog (Instr.fieldAt 80 v4 0)).bind fun v5 =>
  (call 27 #[v5] W0).bind fun r6 =>
  (nilV Try.prog m0).bind fun v8 =>
  (prun Try.prog (Instr.fieldAt 80 v8 0)).bind fun v9 =>
  ((nilV Try.prog m0).bind fun v11 =>
  (prun Try.prog (Instr.fieldAt 80 v11 5)).bind fun v12 =>
  (rrun Try.prog (Instr.loadAt 41 v12) r6.2).bind fun v13 =>
  (call 33 #[v13] r6.2).bind fun r14 =>
  (call 32 #[r14.1] r14.2).bind fun r15 =>
  some (Res.ret [r15.1] r15.2)).bind fun (r : Res) => r.after dfr 28 #[v9]).bind Res.done
theorem f18.eq (call dfr : CallF) (m0 : Value) (W0 : World) : aFun Try.prog call dfr Try.f18 f18.ann (ofArgs #[m0]) W0 = f18 call dfr m0 W0 := by kernel_rfl

/-- dailies/dailieslaw15.sameSpans -/
def f19.ann : Ann := (.s .z (.s (.s .z (.c (.s .z .z) .z)) (.s (.s .z (.b [] (.l [0, 1, 5] (.s (.s .z (.c .z .z)) (.s (.b [0, 1, 5] (.s .z (.c (.s .z .z) .z))) .z))))) (.s .z .z))))
noncomputable def f19.l0 (call : CallF) (vs : List Value) (W1 : World) : Option Res :=
  let a0_1 := nth vs 0
  let b1_1 := nth vs 1
  let i5 := nth vs 2
  (prun Try.prog (Builtin.len_ #[41] 3 #[a0_1])).bind fun v13 =>
  (bin .lss i5 v13).bind fun v14 =>
  (asB v14).bind fun c14 =>
  if c14 then
    ((prun Try.prog (Instr.indexAt 41 a0_1 i5)).bind fun v19 =>
    (rrun Try.prog (Instr.loadAt 40 v19) W1.drew).bind fun v20 =>
    (prun Try.prog (Instr.indexAt 41 b1_1 i5)).bind fun v23 =>
    (rrun Try.prog (Instr.loadAt 40 v23) W1.drew).bind fun v24 =>
    (rrun Try.prog (do eqGuard .neq 40 (Operand.tmp 20) (Operand.tmp 24) v20 v24; binOp .neq 40 v20 v24) W1.drew).bind fun v25 =>
    (asB v25).bind fun c25 =>
    if c25 then
      some (Res.ret [(Value.bool false)] W1.drew)
    else
    some (Res.norm [a0_1, b1_1, i5] W1.drew)).bind fun (r : Res) => (r.unblock 1).cont fun vs_1 W2 =>
    let a0_2 := nth vs_1 0
    let b1_2 := nth vs_1 1
    let i5_1 := nth vs_1 2
    (bin .add i5_1 (Value.int IntKind.i64 1)).bind fun v16 =>
    some (Res.norm [a0_2, b1_2, v16] W2)
  else
  some (Res.exit 0 [] W1)
noncomputable def f19 (call : CallF) (a0 : Value) (b1 : Value) (W0 : World) : Option (Value × World) :=
  ((prun Try.prog (Builtin.len_ #[41] 3 #[a0])).bind fun v7 =>
  (prun Try.prog (Builtin.len_ #[41] 3 #[b1])).bind fun v9 =>
  (bin .neq v7 v9).bind fun v10 =>
  (asB v10).bind fun c10 =>
  if c10 then
    some (Res.ret [(Value.bool false)] W0)
  else
  (iter (f19.l0 call) [a0, b1, (Value.int IntKind.i64 0)] W0).bind fun (r : Res) => (r.unblock 0).cont fun vs_2 W3 =>
  some (Res.ret [(Value.bool true)] W3)).bind Res.done
theorem f19.eq (call dfr : CallF) (a0 : Value) (b1 : Value) (W0 : World) : aFun Try.prog call dfr Try.f19 f19.ann (ofArgs #[a0, b1]) W0 = f19 call a0 b1 W0 := by kernel_rfl

/-- (*dailies/medium.Medium).Forget -/
def f20.ann : Ann := (.s .z (.s .z .z))
noncomputable def f20 (call dfr : CallF) (m0 : Value) (W0 : World) : Option (Value × World) :=
  ((nilV Try.prog m0).bind fun v3 =>
  (prun Try.prog (Instr.fieldAt 80 v3 0)).bind fun v4 =>
  (call 27 #[v4] W0).bind fun r5 =>
  (nilV Try.prog m0).bind fun v7 =>
  (prun Try.prog (Instr.fieldAt 80 v7 0)).bind fun v8 =>
  ((nilV Try.prog m0).bind fun v10 =>
  (prun Try.prog (Instr.fieldAt 80 v10 5)).bind fun v11 =>
  (erun Try.prog (Instr.storeAt 41 v11 (Value.slice none 0 0)) r5.2).bind fun r =>
  some (Res.norm [] r.2)).bind fun (r : Res) => r.after dfr 28 #[v8]).bind Res.done
theorem f20.eq (call dfr : CallF) (m0 : Value) (W0 : World) : aFun Try.prog call dfr Try.f20 f20.ann (ofArgs #[m0]) W0 = f20 call dfr m0 W0 := by kernel_rfl

/-- dailies/medium.New -/
def f21.ann : Ann := (.s .z (.s .z .z))
noncomputable def f21 (call : CallF)  (W0 : World) : Option (Value × World) :=
  ((prun Try.prog (Instr.build 80 #[])).bind fun v1 =>
  (erun Try.prog (Instr.box 80 v1) W0).bind fun r2 =>
  some (Res.ret [r2.1] r2.2)).bind Res.done
theorem f21.eq (call dfr : CallF)  (W0 : World) : aFun Try.prog call dfr Try.f21 f21.ann (ofArgs #[]) W0 = f21 call  W0 := by kernel_rfl

/-- dailies/dailiesref15.New -/
def f22.ann : Ann := (.s .z (.s .z .z))
noncomputable def f22 (call : CallF)  (W0 : World) : Option (Value × World) :=
  ((prun Try.prog (Instr.build 87 #[])).bind fun v1 =>
  (erun Try.prog (Instr.box 87 v1) W0).bind fun r2 =>
  some (Res.ret [r2.1] r2.2)).bind Res.done
theorem f22.eq (call dfr : CallF)  (W0 : World) : aFun Try.prog call dfr Try.f22 f22.ann (ofArgs #[]) W0 = f22 call  W0 := by kernel_rfl

/-- (*dailies/dailieslaw15.pair).step -/
def f23.ann : Ann := (.s .z (.s .z (.s .z (.s .z (.s (.s .z (.b [0, 1, 5, 7, 9] (.s .z (.c (.s .z (.s .z .z)) (.s .z (.c .z (.s .z (.c (.s .z .z) (.s .z (.c .z (.s .z (.c .z (.s .z (.c (.s .z .z) (.s .z (.c (.s .z (.s .z (.s .z (.s .z (.c (.s .z .z) .z))))) (.s .z (.c (.s .z (.s .z (.s (.s .z (.c (.s .z .z) .z)) (.s .z .z)))) (.s (.s .z (.j [0, 1, 5, 7, 9, 241] .z (.s .z (.c .z (.s .z (.c .z .z)))))) (.c .z .z)))))))))))))))))))) (.s .z (.s .z (.s .z .z))))))))
noncomputable def f23 (call : CallF) (t0 : Value) (o1 : Value) (A2 : Value) (W0 : World) : Option (Value × World) :=
  ((erun Try.prog (Instr.box 68 A2) W0).bind fun r5 =>
  (prun Try.prog (Instr.fieldAt 68 r5.1 4)).bind fun v23 =>
  (rrun Try.prog (Instr.loadAt 22 v23) r5.2).bind fun v24 =>
  (call 34 #[v24] r5.2).bind fun r25 =>
  (prun Try.prog (Instr.fieldAt 68 r5.1 0)).bind fun v26 =>
  (rrun Try.prog (Instr.loadAt 3 v26) r25.2).bind fun v27 =>
  ((bin .eql v27 (Value.int IntKind.i64 2)).bind fun v29 =>
  (asB v29).bind fun c28 =>
  if c28 then
    ((nilV Try.prog t0).bind fun v32 =>
    some (v32, r25.2.drew)).bind fun r32 =>
    ((prun Try.prog (Instr.fieldAt 66 r32.1 0)).bind fun v33 =>
    some (v33, r32.2)).bind fun r33 =>
    ((rrun Try.prog (Instr.loadAt 24 r33.1) r33.2).bind fun v34 =>
    some (v34, r33.2)).bind fun r34 =>
    ((prun Try.prog (Instr.fieldAt 68 r5.1 4)).bind fun v36 =>
    some (v36, r34.2)).bind fun r36 =>
    ((rrun Try.prog (Instr.loadAt 22 r36.1) r36.2).bind fun v37 =>
    some (v37, r36.2)).bind fun r37 =>
    ((prun Try.prog (Builtin.len_ #[22] 3 #[r37.1])).bind fun v38 =>
    some (v38, r37.2)).bind fun r38 =>
    ((prun Try.prog (Instr.sliceAt 22 r25.1 none (some r38.1) none)).bind fun v39 =>
    some (v39, r38.2)).bind fun r39 =>
    ((call 10 #[r34.1, r39.1] r39.2).bind fun r40_1 =>
    some (r40_1.1, r40_1.2)).bind fun r40 =>
    ((prun Try.prog (Instr.extract r40.1 0)).bind fun v41 =>
    some (v41, r40.2)).bind fun r41 =>
    ((prun Try.prog (Instr.extract r40.1 1)).bind fun v42 =>
    some (v42, r41.2)).bind fun r42 =>
    chkThen (True)
    (((nilV Try.prog t0).bind fun v45 =>
    some (v45, r42.2.drew)).bind fun r45 =>
    ((prun Try.prog (Instr.fieldAt 66 r45.1 1)).bind fun v46 =>
    some (v46, r45.2)).bind fun r46 =>
    ((rrun Try.prog (Instr.loadAt 61 r46.1) r46.2).bind fun v47 =>
    some (v47, r46.2)).bind fun r47 =>
    ((prun Try.prog (Instr.fieldAt 68 r5.1 4)).bind fun v48 =>
    some (v48, r47.2)).bind fun r48 =>
    ((rrun Try.prog (Instr.loadAt 22 r48.1) r48.2).bind fun v49 =>
    some (v49, r48.2)).bind fun r49 =>
    ((call 35 #[r47.1, r49.1] r49.2).bind fun r50_1 =>
    some (r50_1.1, r50_1.2)).bind fun r50 =>
    ((prun Try.prog (Instr.extract r50.1 0)).bind fun v51 =>
    some (v51, r50.2)).bind fun r51 =>
    ((prun Try.prog (Instr.extract r50.1 1)).bind fun v52 =>
    some (v52, r51.2)).bind fun r52 =>
    chkThen (True)
    ((bin .eql r41.1 r51.1).bind fun v55 =>
    (asB v55).bind fun b56 =>
    (if b56 = true then (bin .eql r42.1 r52.1).bind fun v59 =>
      some (v59, r52.2)
     else some ((Value.bool false), r52.2)).bind fun r60 =>
    some (Res.norm [t0, o1, r5.1, r25.1, r60.1] r60.2)))
  else
  (bin .eql v27 (Value.int IntKind.i64 3)).bind fun v62 =>
  (asB v62).bind fun c61 =>
  if c61 then
    ((nilV Try.prog t0).bind fun v64 =>
    some (v64, r25.2.drew)).bind fun r64 =>
    ((prun Try.prog (Instr.fieldAt 66 r64.1 0)).bind fun v65 =>
    some (v65, r64.2)).bind fun r65 =>
    ((rrun Try.prog (Instr.loadAt 24 r65.1) r65.2).bind fun v66 =>
    some (v66, r65.2)).bind fun r66 =>
    ((prun Try.prog (Instr.fieldAt 68 r5.1 1)).bind fun v67 =>
    some (v67, r66.2)).bind fun r67 =>
    ((rrun Try.prog (Instr.loadAt 3 r67.1) r67.2).bind fun v68 =>
    some (v68, r67.2)).bind fun r68 =>
    ((prun Try.prog (Instr.fieldAt 68 r5.1 2)).bind fun v69 =>
    some (v69, r68.2)).bind fun r69 =>
    ((rrun Try.prog (Instr.loadAt 3 r69.1) r69.2).bind fun v70 =>
    some (v70, r69.2)).bind fun r70 =>
    ((call 9 #[r66.1, r68.1, r70.1] r70.2).bind fun r71_1 =>
    some (r71_1.1, r71_1.2)).bind fun r71 =>
    ((nilV Try.prog t0).bind fun v73 =>
    some (v73, r71.2)).bind fun r73 =>
    ((prun Try.prog (Instr.fieldAt 66 r73.1 1)).bind fun v74 =>
    some (v74, r73.2)).bind fun r74 =>
    ((rrun Try.prog (Instr.loadAt 61 r74.1) r74.2).bind fun v75 =>
    some (v75, r74.2)).bind fun r75 =>
    ((prun Try.prog (Instr.fieldAt 68 r5.1 1)).bind fun v76 =>
    some (v76, r75.2)).bind fun r76 =>
    ((rrun Try.prog (Instr.loadAt 3 r76.1) r76.2).bind fun v77 =>
    some (v77, r76.2)).bind fun r77 =>
    ((prun Try.prog (Instr.fieldAt 68 r5.1 2)).bind fun v78 =>
    some (v78, r77.2)).bind fun r78 =>
    ((rrun Try.prog (Instr.loadAt 3 r78.1) r78.2).bind fun v79 =>
    some (v79, r78.2)).bind fun r79 =>
    ((call 36 #[r75.1, r77.1, r79.1] r79.2).bind fun r80_1 =>
    some (r80_1.1, r80_1.2)).bind fun r80 =>
    ((bin .eql r71.1 r80.1).bind fun v81 =>
    some (v81, r80.2)).bind fun r81 =>
    chkThen ((((rrun Try.prog (Instr.loadAt 61 r74.1) r70.2).bind fun v75_1 => some v75_1) = some r75.1 ∧ ((rrun Try.prog (Instr.loadAt 61 r74.1) r71.2).bind fun v75_2 => some v75_2) = some r75.1) ∧ (((rrun Try.prog (Instr.loadAt 3 r76.1) r70.2).bind fun v77_1 => some v77_1) = some r77.1 ∧ ((rrun Try.prog (Instr.loadAt 3 r76.1) r71.2).bind fun v77_2 => some v77_2) = some r77.1) ∧ (((rrun Try.prog (Instr.loadAt 3 r78.1) r70.2).bind fun v79_1 => some v79_1) = some r79.1 ∧ ((rrun Try.prog (Instr.loadAt 3 r78.1) r71.2).bind fun v79_2 => some v79_2) = some r79.1) ∧ True)
    (some (Res.norm [t0, o1, r5.1, r25.1, r81.1] r81.2))
  else
  (bin .eql v27 (Value.int IntKind.i64 4)).bind fun v83 =>
  (asB v83).bind fun c82 =>
  if c82 then
    (nilV Try.prog t0).bind fun v85 =>
    (prun Try.prog (Instr.fieldAt 66 v85 0)).bind fun v86 =>
    (rrun Try.prog (Instr.loadAt 24 v86) r25.2).bind fun v87 =>
    (call 13 #[v87] r25.2).bind fun r88 =>
    (nilV Try.prog t0).bind fun v90 =>
    (prun Try.prog (Instr.fieldAt 66 v90 1)).bind fun v91 =>
    (rrun Try.prog (Instr.loadAt 61 v91) r88.2).bind fun v92 =>
    (call 37 #[v92] r88.2).bind fun r93 =>
    some (Res.norm [t0, o1, r5.1, r25.1, (Value.bool true)] r93.2)
  else
  (bin .eql v27 (Value.int IntKind.i64 5)).bind fun v95 =>
  (asB v95).bind fun c94 =>
  if c94 then
    ((nilV Try.prog t0).bind fun v97 =>
    some (v97, r25.2.drew)).bind fun r97 =>
    ((prun Try.prog (Instr.fieldAt 66 r97.1 0)).bind fun v98 =>
    some (v98, r97.2)).bind fun r98 =>
    ((rrun Try.prog (Instr.loadAt 24 r98.1) r98.2).bind fun v99 =>
    some (v99, r98.2)).bind fun r99 =>
    ((prun Try.prog (Instr.fieldAt 68 r5.1 1)).bind fun v100 =>
    some (v100, r99.2)).bind fun r100 =>
    ((rrun Try.prog (Instr.loadAt 3 r100.1) r100.2).bind fun v101 =>
    some (v101, r100.2)).bind fun r101 =>
    ((prun Try.prog (Instr.fieldAt 68 r5.1 4)).bind fun v103 =>
    some (v103, r101.2)).bind fun r103 =>
    ((rrun Try.prog (Instr.loadAt 22 r103.1) r103.2).bind fun v104 =>
    some (v104, r103.2)).bind fun r104 =>
    ((prun Try.prog (Builtin.len_ #[22] 3 #[r104.1])).bind fun v105 =>
    some (v105, r104.2)).bind fun r105 =>
    ((prun Try.prog (Instr.sliceAt 22 r25.1 none (some r105.1) none)).bind fun v106 =>
    some (v106, r105.2)).bind fun r106 =>
    ((call 38 #[r99.1, r101.1, r106.1] r106.2).bind fun r107_1 =>
    some (r107_1.1, r107_1.2)).bind fun r107 =>
    ((nilV Try.prog t0).bind fun v109 =>
    some (v109, r107.2)).bind fun r109 =>
    ((prun Try.prog (Instr.fieldAt 66 r109.1 1)).bind fun v110 =>
    some (v110, r109.2)).bind fun r110 =>
    ((rrun Try.prog (Instr.loadAt 61 r110.1) r110.2).bind fun v111 =>
    some (v111, r110.2)).bind fun r111 =>
    ((prun Try.prog (Instr.fieldAt 68 r5.1 1)).bind fun v112 =>
    some (v112, r111.2)).bind fun r112 =>
    ((rrun Try.prog (Instr.loadAt 3 r112.1) r112.2).bind fun v113 =>
    some (v113, r112.2)).bind fun r113 =>
    ((prun Try.prog (Instr.fieldAt 68 r5.1 4)).bind fun v114 =>
    some (v114, r113.2)).bind fun r114 =>
    ((rrun Try.prog (Instr.loadAt 22 r114.1) r114.2).bind fun v115 =>
    some (v115, r114.2)).bind fun r115 =>
    ((call 39 #[r111.1, r113.1, r115.1] r115.2).bind fun r116_1 =>
    some (r116_1.1, r116_1.2)).bind fun r116 =>
    ((bin .eql r107.1 r116.1).bind fun v117 =>
    some (v117, r116.2)).bind fun r117 =>
    chkThen ((((rrun Try.prog (Instr.loadAt 61 r110.1) r106.2).bind fun v111_1 => some v111_1) = some r111.1 ∧ ((rrun Try.prog (Instr.loadAt 61 r110.1) r107.2).bind fun v111_2 => some v111_2) = some r111.1) ∧ (((rrun Try.prog (Instr.loadAt 3 r112.1) r106.2).bind fun v113_1 => some v113_1) = some r113.1 ∧ ((rrun Try.prog (Instr.loadAt 3 r112.1) r107.2).bind fun v113_2 => some v113_2) = some r113.1) ∧ (((rrun Try.prog (Instr.loadAt 22 r114.1) r106.2).bind fun v115_1 => some v115_1) = some r115.1 ∧ ((rrun Try.prog (Instr.loadAt 22 r114.1) r107.2).bind fun v115_2 => some v115_2) = some r115.1) ∧ True)
    (some (Res.norm [t0, o1, r5.1, r25.1, r117.1] r117.2))
  else
  (bin .eql v27 (Value.int IntKind.i64 6)).bind fun v119 =>
  (asB v119).bind fun c118 =>
  if c118 then
    ((nilV Try.prog t0).bind fun v121 =>
    some (v121, r25.2.drew)).bind fun r121 =>
    ((prun Try.prog (Instr.fieldAt 66 r121.1 0)).bind fun v122 =>
    some (v122, r121.2)).bind fun r122 =>
    ((rrun Try.prog (Instr.loadAt 24 r122.1) r122.2).bind fun v123 =>
    some (v123, r122.2)).bind fun r123 =>
    ((prun Try.prog (Instr.fieldAt 68 r5.1 1)).bind fun v124 =>
    some (v124, r123.2)).bind fun r124 =>
    ((rrun Try.prog (Instr.loadAt 3 r124.1) r124.2).bind fun v125 =>
    some (v125, r124.2)).bind fun r125 =>
    ((call 40 #[r123.1, r125.1] r125.2).bind fun r126_1 =>
    some (r126_1.1, r126_1.2)).bind fun r126 =>
    ((nilV Try.prog t0).bind fun v128 =>
    some (v128, r126.2)).bind fun r128 =>
    ((prun Try.prog (Instr.fieldAt 66 r128.1 1)).bind fun v129 =>
    some (v129, r128.2)).bind fun r129 =>
    ((rrun Try.prog (Instr.loadAt 61 r129.1) r129.2).bind fun v130 =>
    some (v130, r129.2)).bind fun r130 =>
    ((prun Try.prog (Instr.fieldAt 68 r5.1 1)).bind fun v131 =>
    some (v131, r130.2)).bind fun r131 =>
    ((rrun Try.prog (Instr.loadAt 3 r131.1) r131.2).bind fun v132 =>
    some (v132, r131.2)).bind fun r132 =>
    ((call 41 #[r130.1, r132.1] r132.2).bind fun r133_1 =>
    some (r133_1.1, r133_1.2)).bind fun r133 =>
    ((bin .eql r126.1 r133.1).bind fun v134 =>
    some (v134, r133.2)).bind fun r134 =>
    chkThen ((((rrun Try.prog (Instr.loadAt 61 r129.1) r125.2).bind fun v130_1 => some v130_1) = some r130.1 ∧ ((rrun Try.prog (Instr.loadAt 61 r129.1) r126.2).bind fun v130_2 => some v130_2) = some r130.1) ∧ (((rrun Try.prog (Instr.loadAt 3 r131.1) r125.2).bind fun v132_1 => some v132_1) = some r132.1 ∧ ((rrun Try.prog (Instr.loadAt 3 r131.1) r126.2).bind fun v132_2 => some v132_2) = some r132.1) ∧ True)
    (some (Res.norm [t0, o1, r5.1, r25.1, r134.1] r134.2))
  else
  (bin .eql v27 (Value.int IntKind.i64 8)).bind fun v136 =>
  (asB v136).bind fun c135 =>
  if c135 then
    (nilV Try.prog t0).bind fun v138 =>
    (prun Try.prog (Instr.fieldAt 66 v138 0)).bind fun v139 =>
    (rrun Try.prog (Instr.loadAt 24 v139) r25.2).bind fun v140 =>
    (call 20 #[v140] r25.2).bind fun r141 =>
    (nilV Try.prog t0).bind fun v143 =>
    (prun Try.prog (Instr.fieldAt 66 v143 1)).bind fun v144 =>
    (rrun Try.prog (Instr.loadAt 61 v144) r141.2).bind fun v145 =>
    (call 42 #[v145] r141.2).bind fun r146 =>
    some (Res.norm [t0, o1, r5.1, r25.1, (Value.bool true)] r146.2)
  else
  (bin .eql v27 (Value.int IntKind.i64 9)).bind fun v148 =>
  (asB v148).bind fun c147 =>
  if c147 then
    ((nilV Try.prog t0).bind fun v151 =>
    some (v151, r25.2.drew)).bind fun r151 =>
    ((prun Try.prog (Instr.fieldAt 66 r151.1 0)).bind fun v152 =>
    some (v152, r151.2)).bind fun r152 =>
    ((rrun Try.prog (Instr.loadAt 24 r152.1) r152.2).bind fun v153 =>
    some (v153, r152.2)).bind fun r153 =>
    ((prun Try.prog (Instr.fieldAt 68 r5.1 1)).bind fun v154 =>
    some (v154, r153.2)).bind fun r154 =>
    ((rrun Try.prog (Instr.loadAt 3 r154.1) r154.2).bind fun v155 =>
    some (v155, r154.2)).bind fun r155 =>
    ((prun Try.prog (Instr.fieldAt 68 r5.1 2)).bind fun v156 =>
    some (v156, r155.2)).bind fun r156 =>
    ((rrun Try.prog (Instr.loadAt 3 r156.1) r156.2).bind fun v157 =>
    some (v157, r156.2)).bind fun r157 =>
    ((prun Try.prog (Instr.build 40 #[(0, r155.1), (1, r157.1)])).bind fun v158 =>
    some (v158, r157.2)).bind fun r158 =>
    ((call 15 #[r153.1, r158.1] r158.2).bind fun r159_1 =>
    some (r159_1.1, r159_1.2)).bind fun r159 =>
    ((prun Try.prog (Instr.extract r159.1 0)).bind fun v160 =>
    some (v160, r159.2)).bind fun r160 =>
    ((prun Try.prog (Instr.extract r159.1 1)).bind fun v161 =>
    some (v161, r160.2)).bind fun r161 =>
    chkThen (True)
    (((nilV Try.prog t0).bind fun v164 =>
    some (v164, r161.2.drew)).bind fun r164 =>
    ((prun Try.prog (Instr.fieldAt 66 r164.1 1)).bind fun v165 =>
    some (v165, r164.2)).bind fun r165 =>
    ((rrun Try.prog (Instr.loadAt 61 r165.1) r165.2).bind fun v166 =>
    some (v166, r165.2)).bind fun r166 =>
    ((prun Try.prog (Instr.fieldAt 68 r5.1 1)).bind fun v167 =>
    some (v167, r166.2)).bind fun r167 =>
    ((rrun Try.prog (Instr.loadAt 3 r167.1) r167.2).bind fun v168 =>
    some (v168, r167.2)).bind fun r168 =>
    ((prun Try.prog (Instr.fieldAt 68 r5.1 2)).bind fun v169 =>
    some (v169, r168.2)).bind fun r169 =>
    ((rrun Try.prog (Instr.loadAt 3 r169.1) r169.2).bind fun v170 =>
    some (v170, r169.2)).bind fun r170 =>
    ((prun Try.prog (Instr.build 40 #[(0, r168.1), (1, r170.1)])).bind fun v171 =>
    some (v171, r170.2)).bind fun r171 =>
    ((call 43 #[r166.1, r171.1] r171.2).bind fun r172_1 =>
    some (r172_1.1, r172_1.2)).bind fun r172 =>
    ((prun Try.prog (Instr.extract r172.1 0)).bind fun v173 =>
    some (v173, r172.2)).bind fun r173 =>
    ((prun Try.prog (Instr.extract r172.1 1)).bind fun v174 =>
    some (v174, r173.2)).bind fun r174 =>
    chkThen (True)
    ((bin .eql r161.1 r174.1).bind fun v177 =>
    (asB v177).bind fun b178 =>
    (if b178 = true then (rrun Try.prog (do eqGuard .eql 36 (Operand.tmp 179) (Operand.const Value.nilIface) r160.1 Value.nilIface; binOp .eql 36 r160.1 Value.nilIface) r174.2).bind fun v180 =>
      (rrun Try.prog (do eqGuard .eql 90 (Operand.tmp 181) (Operand.const (Value.pointer none)) r173.1 (Value.pointer none); binOp .eql 90 r173.1 (Value.pointer none)) r174.2).bind fun v182 =>
      (prun Try.prog (do eqGuard .eql 4 (Operand.tmp 180) (Operand.tmp 182) v180 v182; binOp .eql 4 v180 v182)).bind fun v183 =>
      some (v183, r174.2)
     else some ((Value.bool false), r174.2)).bind fun r184 =>
    (asB r184.1).bind fun b186 =>
    (if b186 = true then (bin .eql r161.1 (Value.int IntKind.i64 0)).bind fun v188 =>
      some (v188, r184.2)
     else some ((Value.bool false), r184.2)).bind fun r189 =>
    (asB r189.1).bind fun c189 =>
    if c189 then
      (nilV Try.prog t0).bind fun v192 =>
      (prun Try.prog (Instr.fieldAt 66 v192 2)).bind fun v193 =>
      (rrun Try.prog (Instr.loadAt 63 v193) r189.2).bind fun v194 =>
      (erun Try.prog (Instr.buildSlice 63 1 #[(0, r160.1)]) r189.2).bind fun r196 =>
      (erun Try.prog (Builtin.append_ #[63, 63] 63 #[v194, r196.1]) r196.2).bind fun r197 =>
      (nilV Try.prog t0).bind fun v198 =>
      (prun Try.prog (Instr.fieldAt 66 v198 2)).bind fun v199 =>
      (erun Try.prog (Instr.storeAt 63 v199 r197.1) r197.2).bind fun r =>
      (nilV Try.prog t0).bind fun v202 =>
      (prun Try.prog (Instr.fieldAt 66 v202 3)).bind fun v203 =>
      (rrun Try.prog (Instr.loadAt 64 v203) r.2).bind fun v204 =>
      (erun Try.prog (Instr.buildSlice 64 1 #[(0, r173.1)]) r.2).bind fun r206 =>
      (erun Try.prog (Builtin.append_ #[64, 64] 64 #[v204, r206.1]) r206.2).bind fun r207 =>
      (nilV Try.prog t0).bind fun v208 =>
      (prun Try.prog (Instr.fieldAt 66 v208 3)).bind fun v209 =>
      (erun Try.prog (Instr.storeAt 64 v209 r207.1) r207.2).bind fun r_1 =>
      some (Res.norm [t0, o1, r5.1, r25.1, r184.1] r_1.2)
    else
    some (Res.norm [t0, o1, r5.1, r25.1, r184.1] r189.2)))
  else
  (bin .eql v27 (Value.int IntKind.i64 12)).bind fun v211 =>
  (asB v211).bind fun c210 =>
  if c210 then
    (prun Try.prog (Instr.fieldAt 68 r5.1 4)).bind fun v214 =>
    (rrun Try.prog (Instr.loadAt 22 v214) r25.2).bind fun v215 =>
    (prun Try.prog (Builtin.len_ #[22] 3 #[v215])).bind fun v216 =>
    (prun Try.prog (Instr.sliceAt 22 r25.1 none (some v216) none)).bind fun v217 =>
    (call 8 #[v217] r25.2).bind fun r218 =>
    (prun Try.prog (Instr.extract r218.1 0)).bind fun v219 =>
    (prun Try.prog (Instr.extract r218.1 1)).bind fun v220 =>
    (prun Try.prog (Instr.fieldAt 68 r5.1 4)).bind fun v222 =>
    (rrun Try.prog (Instr.loadAt 22 v222) r218.2).bind fun v223 =>
    (call 44 #[v223] r218.2).bind fun r224 =>
    (prun Try.prog (Instr.extract r224.1 0)).bind fun v225 =>
    (prun Try.prog (Instr.extract r224.1 1)).bind fun v226 =>
    (bin .neq v220 (Value.int IntKind.i64 0)).bind fun v228 =>
    (asB v228).bind fun b229 =>
    (if b229 = false then (rrun Try.prog (do eqGuard .eql 24 (Operand.tmp 230) (Operand.const (Value.pointer none)) v219 (Value.pointer none); binOp .eql 24 v219 (Value.pointer none)) r224.2).bind fun v231 =>
      some (v231, r224.2)
     else some ((Value.bool true), r224.2)).bind fun r232 =>
    (asB r232.1).bind fun c232 =>
    if c232 then
      some (Res.ret [(Value.bool false)] r232.2)
    else
    (nilV Try.prog t0).bind fun v235 =>
    (prun Try.prog (Instr.fieldAt 66 v235 0)).bind fun v236 =>
    (erun Try.prog (Instr.storeAt 24 v236 v219) r232.2).bind fun r_2 =>
    (nilV Try.prog t0).bind fun v239 =>
    (prun Try.prog (Instr.fieldAt 66 v239 1)).bind fun v240 =>
    (erun Try.prog (Instr.storeAt 61 v240 v225) r_2.2).bind fun r_3 =>
    some (Res.norm [t0, o1, r5.1, r25.1, (Value.bool true)] r_3.2)
  else
  (bin .eql v27 (Value.int IntKind.i64 1)).bind fun v242 =>
  (asB v242).bind fun c241 =>
  (if c241 then
    some (Res.norm [t0, o1, r5.1, r25.1, (Value.bool true), v242] r25.2)
   else
    (bin .eql v27 (Value.int IntKind.i64 11)).bind fun v243 =>
    (asB v243).bind fun c241_1 =>
    if c241_1 then
      some (Res.norm [t0, o1, r5.1, r25.1, (Value.bool true), v243] r25.2)
    else
    (bin .eql v27 (Value.int IntKind.i64 7)).bind fun v244 =>
    (asB v244).bind fun c241_2 =>
    if c241_2 then
      some (Res.norm [t0, o1, r5.1, r25.1, (Value.bool true), v244] r25.2)
    else
    (bin .eql v27 (Value.int IntKind.i64 10)).bind fun v245 =>
    some (Res.norm [t0, o1, r5.1, r25.1, (Value.bool true), v245] r25.2)).bind fun (r : Res) => r.cont fun vs W1 =>
  let t0_1 := nth vs 0
  let o1_1 := nth vs 1
  let a5 := nth vs 2
  let v7 := nth vs 3
  let v9 := nth vs 4
  let v241 := nth vs 5
  (asB v241).bind fun c241_3 =>
  if c241_3 then
    (rrun Try.prog (Instr.loadAt 68 a5) W1).bind fun v248 =>
    (call 24 #[t0_1, o1_1, v248] W1).bind fun r249 =>
    some (Res.norm [t0_1, o1_1, a5, v7, r249.1] r249.2)
  else
  some (Res.norm [t0_1, o1_1, a5, v7, v9] W1)).bind fun (r : Res) => (r.unblock 0).cont fun vs_1 W2 =>
  let t0_2 := nth vs_1 0
  let o1_2 := nth vs_1 1
  let a5_1 := nth vs_1 2
  let v7_1 := nth vs_1 3
  let v9_1 := nth vs_1 4
  (prun Try.prog (Instr.fieldAt 68 a5_1 4)).bind fun v251 =>
  (rrun Try.prog (Instr.loadAt 22 v251) W2).bind fun v252 =>
  (call 45 #[v7_1, v252] W2).bind fun r253 =>
  (call 25 #[o1_2] r253.2).bind fun r255 =>
  (if wantedV true v9_1 = true then some (r253.1, r255.2.drew) else some (undef, r255.2.drew)).bind fun r258 =>
  ((pickV v9_1 r258.1 (Value.bool false)).bind fun v259 =>
  some (v259, r258.2)).bind fun r259 =>
  (if wantedV true r259.1 = true then some (r255.1, r259.2) else some (undef, r259.2)).bind fun r261 =>
  ((pickV r259.1 r261.1 (Value.bool false)).bind fun v262 =>
  some (v262, r261.2)).bind fun r262 =>
  (if wantedV true r262.1 = true then some (t0_2, r262.2) else some (undef, r262.2)).bind fun r264 =>
  (if wantedV true r262.1 = true then (nilV Try.prog r264.1).bind fun v265 =>
  some (v265, r264.2) else some (undef, r264.2)).bind fun r265 =>
  (if wantedV true r262.1 = true then (prun Try.prog (Instr.fieldAt 66 r265.1 0)).bind fun v266 =>
  some (v266, r265.2) else some (undef, r265.2)).bind fun r266 =>
  (if wantedV true r262.1 = true then (rrun Try.prog (Instr.loadAt 24 r266.1) r266.2).bind fun v267 =>
  some (v267, r266.2) else some (undef, r266.2)).bind fun r267 =>
  (if wantedV true r262.1 = true then (call 11 #[r267.1] r267.2).bind fun r268_1 =>
  some (r268_1.1, r268_1.2) else some (undef, r267.2)).bind fun r268 =>
  (if wantedV true r262.1 = true then some (t0_2, r268.2) else some (undef, r268.2)).bind fun r269 =>
  (if wantedV true r262.1 = true then (nilV Try.prog r269.1).bind fun v270 =>
  some (v270, r269.2) else some (undef, r269.2)).bind fun r270 =>
  (if wantedV true r262.1 = true then (prun Try.prog (Instr.fieldAt 66 r270.1 1)).bind fun v271 =>
  some (v271, r270.2) else some (undef, r270.2)).bind fun r271 =>
  (if wantedV true r262.1 = true then (rrun Try.prog (Instr.loadAt 61 r271.1) r271.2).bind fun v272 =>
  some (v272, r271.2) else some (undef, r271.2)).bind fun r272 =>
  (if wantedV true r262.1 = true then (call 46 #[r272.1] r272.2).bind fun r273_1 =>
  some (r273_1.1, r273_1.2) else some (undef, r272.2)).bind fun r273 =>
  (if wantedV true r262.1 = true then (bin .eql r268.1 r273.1).bind fun v274 =>
  some (v274, r273.2) else some (undef, r273.2)).bind fun r274 =>
  ((pickV r262.1 r274.1 (Value.bool false)).bind fun v275 =>
  some (v275, r274.2)).bind fun r275 =>
  (if wantedV true r275.1 = true then some (t0_2, r275.2) else some (undef, r275.2)).bind fun r277 =>
  (if wantedV true r275.1 = true then (nilV Try.prog r277.1).bind fun v278 =>
  some (v278, r277.2) else some (undef, r277.2)).bind fun r278 =>
  (if wantedV true r275.1 = true then (prun Try.prog (Instr.fieldAt 66 r278.1 0)).bind fun v279 =>
  some (v279, r278.2) else some (undef, r278.2)).bind fun r279 =>
  (if wantedV true r275.1 = true then (rrun Try.prog (Instr.loadAt 24 r279.1) r279.2).bind fun v280 =>
  some (v280, r279.2) else some (undef, r279.2)).bind fun r280 =>
  (if wantedV true r275.1 = true then (call 12 #[r280.1] r280.2).bind fun r281_1 =>
  some (r281_1.1, r281_1.2) else some (undef, r280.2)).bind fun r281 =>
  (if wantedV true r275.1 = true then some (t0_2, r281.2) else some (undef, r281.2)).bind fun r282 =>
  (if wantedV true r275.1 = true then (nilV Try.prog r282.1).bind fun v283 =>
  some (v283, r282.2) else some (undef, r282.2)).bind fun r283 =>
  (if wantedV true r275.1 = true then (prun Try.prog (Instr.fieldAt 66 r283.1 1)).bind fun v284 =>
  some (v284, r283.2) else some (undef, r283.2)).bind fun r284 =>
  (if wantedV true r275.1 = true then (rrun Try.prog (Instr.loadAt 61 r284.1) r284.2).bind fun v285 =>
  some (v285, r284.2) else some (undef, r284.2)).bind fun r285 =>
  (if wantedV true r275.1 = true then (call 47 #[r285.1] r285.2).bind fun r286_1 =>
  some (r286_1.1, r286_1.2) else some (undef, r285.2)).bind fun r286 =>
  (if wantedV true r275.1 = true then (prun Try.prog (do eqGuard .eql 4 (Operand.tmp 281) (Operand.tmp 286) r281.1 r286.1; binOp .eql 4 r281.1 r286.1)).bind fun v287 =>
  some (v287, r286.2) else some (undef, r286.2)).bind fun r287 =>
  ((pickV r275.1 r287.1 (Value.bool false)).bind fun v288 =>
  some (v288, r287.2)).bind fun r288 =>
  chkThen (((if wantedV true r262.1 = true then ((rrun Try.prog (Instr.loadAt 61 r271.1) r267.2).bind fun v272_1 => some v272_1) = some r272.1 else True) ∧ (if wantedV true r262.1 = true then ((rrun Try.prog (Instr.loadAt 61 r271.1) r268.2).bind fun v272_2 => some v272_2) = some r272.1 else True)) ∧ ((if wantedV true r275.1 = true then ((rrun Try.prog (Instr.loadAt 61 r284.1) r280.2).bind fun v285_1 => some v285_1) = some r285.1 else True) ∧ (if wantedV true r275.1 = true then ((rrun Try.prog (Instr.loadAt 61 r284.1) r281.2).bind fun v285_2 => some v285_2) = some r285.1 else True)) ∧ True)
  (some (Res.ret [r288.1] r288.2))).bind Res.done
theorem f23.eq (call dfr : CallF) (t0 : Value) (o1 : Value) (A2 : Value) (W0 : World) : aFun Try.prog call dfr Try.f23 f23.ann (ofArgs #[t0, o1, A2]) W0 = f23 call t0 o1 A2 W0 := by kernel_rfl

/-- (*dailies/dailieslaw15.pair).reads -/
def f24.ann : Ann := (.s .z (.s (.s .z (.b [0, 1, 5] (.s .z (.c (.s .z (.s .z (.s .z (.s .z .z)))) (.s .z (.c (.s .z (.s .z (.s .z (.s .z (.s .z (.s .z (.s .z .z))))))) (.s .z (.c (.s .z (.s .z (.s .z (.s .z (.s .z (.s .z (.s .z (.s .z .z)))))))) .z)))))))) (.s .z (.s (.s .z (.j [0, 1, 5, 23] .z .z)) (.s (.s .z (.c (.s .z .z) .z)) (.s .z (.s .z (.s .z (.s .z .z)))))))))
noncomputable def f24 (call : CallF) (t0 : Value) (o1 : Value) (A2 : Value) (W0 : World) : Option (Value × World) :=
  ((erun Try.prog (Instr.box 68 A2) W0).bind fun r5 =>
  (prun Try.prog (Instr.fieldAt 68 r5.1 0)).bind fun v29 =>
  (rrun Try.prog (Instr.loadAt 3 v29) r5.2).bind fun v30 =>
  ((bin .eql v30 (Value.int IntKind.i64 1)).bind fun v32 =>
  (asB v32).bind fun c31 =>
  if c31 then
    ((nilV Try.prog t0).bind fun v35 =>
    some (v35, r5.2.drew)).bind fun r35 =>
    ((prun Try.prog (Instr.fieldAt 66 r35.1 0)).bind fun v36 =>
    some (v36, r35.2)).bind fun r36 =>
    ((rrun Try.prog (Instr.loadAt 24 r36.1) r36.2).bind fun v37 =>
    some (v37, r36.2)).bind fun r37 =>
    ((prun Try.prog (Instr.fieldAt 68 r5.1 1)).bind fun v38 =>
    some (v38, r37.2)).bind fun r38 =>
    ((rrun Try.prog (Instr.loadAt 3 r38.1) r38.2).bind fun v39 =>
    some (v39, r38.2)).bind fun r39 =>
    ((prun Try.prog (Instr.fieldAt 68 r5.1 2)).bind fun v40 =>
    some (v40, r39.2)).bind fun r40 =>
    ((rrun Try.prog (Instr.loadAt 3 r40.1) r40.2).bind fun v41 =>
    some (v41, r40.2)).bind fun r41 =>
    ((call 16 #[r37.1, r39.1, r41.1] r41.2).bind fun r42_1 =>
    some (r42_1.1, r42_1.2)).bind fun r42 =>
    ((prun Try.prog (Instr.extract r42.1 0)).bind fun v43 =>
    some (v43, r42.2)).bind fun r43 =>
    ((prun Try.prog (Instr.extract r42.1 1)).bind fun v44 =>
    some (v44, r43.2)).bind fun r44 =>
    chkThen (True)
    (((nilV Try.prog t0).bind fun v47 =>
    some (v47, r44.2.drew)).bind fun r47 =>
    ((prun Try.prog (Instr.fieldAt 66 r47.1 1)).bind fun v48 =>
    some (v48, r47.2)).bind fun r48 =>
    ((rrun Try.prog (Instr.loadAt 61 r48.1) r48.2).bind fun v49 =>
    some (v49, r48.2)).bind fun r49 =>
    ((prun Try.prog (Instr.fieldAt 68 r5.1 1)).bind fun v50 =>
    some (v50, r49.2)).bind fun r50 =>
    ((rrun Try.prog (Instr.loadAt 3 r50.1) r50.2).bind fun v51 =>
    some (v51, r50.2)).bind fun r51 =>
    ((prun Try.prog (Instr.fieldAt 68 r5.1 2)).bind fun v52 =>
    some (v52, r51.2)).bind fun r52 =>
    ((rrun Try.prog (Instr.loadAt 3 r52.1) r52.2).bind fun v53 =>
    some (v53, r52.2)).bind fun r53 =>
    ((call 48 #[r49.1, r51.1, r53.1] r53.2).bind fun r54_1 =>
    some (r54_1.1, r54_1.2)).bind fun r54 =>
    ((prun Try.prog (Instr.extract r54.1 0)).bind fun v55 =>
    some (v55, r54.2)).bind fun r55 =>
    ((prun Try.prog (Instr.extract r54.1 1)).bind fun v56 =>
    some (v56, r55.2)).bind fun r56 =>
    chkThen (True)
    ((call 49 #[o1, r43.1, r55.1] r56.2).bind fun r60 =>
    (asB r60.1).bind fun b62 =>
    (if b62 = true then (bin .eql r44.1 r56.1).bind fun v65 =>
      some (v65, r60.2)
     else some ((Value.bool false), r60.2)).bind fun r66 =>
    (asB r66.1).bind fun b67 =>
    (if b67 = true then (rrun Try.prog (convert 22 9 r43.1) r66.2).bind fun v69 =>
      (rrun Try.prog (convert 22 9 r55.1) r66.2).bind fun v71 =>
      (prun Try.prog (do eqGuard .eql 9 (Operand.tmp 69) (Operand.tmp 71) v69 v71; binOp .eql 9 v69 v71)).bind fun v72 =>
      some (v72, r66.2)
     else some ((Value.bool false), r66.2)).bind fun r73 =>
    some (Res.ret [r73.1] r73.2)))
  else
  (bin .eql v30 (Value.int IntKind.i64 11)).bind fun v75 =>
  (asB v75).bind fun c74 =>
  if c74 then
    (nilV Try.prog t0).bind fun v77 =>
    (prun Try.prog (Instr.fieldAt 66 v77 0)).bind fun v78 =>
    (rrun Try.prog (Instr.loadAt 24 v78) r5.2).bind fun v79 =>
    (call 17 #[v79] r5.2).bind fun r80 =>
    (nilV Try.prog t0).bind fun v82 =>
    (prun Try.prog (Instr.fieldAt 66 v82 0)).bind fun v83 =>
    (rrun Try.prog (Instr.loadAt 24 v83) r80.2).bind fun v84 =>
    (call 17 #[v84] r80.2).bind fun r85 =>
    (nilV Try.prog t0).bind fun v87 =>
    (prun Try.prog (Instr.fieldAt 66 v87 1)).bind fun v88 =>
    (rrun Try.prog (Instr.loadAt 61 v88) r85.2).bind fun v89 =>
    (call 50 #[v89] r85.2).bind fun r90 =>
    (rrun Try.prog (convert 22 9 r80.1) r90.2).bind fun v92 =>
    (rrun Try.prog (convert 22 9 r90.1) r90.2).bind fun v94 =>
    (prun Try.prog (do eqGuard .eql 9 (Operand.tmp 92) (Operand.tmp 94) v92 v94; binOp .eql 9 v92 v94)).bind fun v95 =>
    (asB v95).bind fun b96 =>
    (if b96 = true then (rrun Try.prog (convert 22 9 r85.1) r90.2).bind fun v98 =>
      (rrun Try.prog (convert 22 9 r90.1) r90.2).bind fun v100 =>
      (prun Try.prog (do eqGuard .eql 9 (Operand.tmp 98) (Operand.tmp 100) v98 v100; binOp .eql 9 v98 v100)).bind fun v101 =>
      some (v101, r90.2)
     else some ((Value.bool false), r90.2)).bind fun r102 =>
    (call 51 #[o1, r80.1] r102.2).bind fun r105 =>
    (call 49 #[o1, r85.1, r90.1] r105.2).bind fun r109 =>
    (asB r102.1).bind fun b111 =>
    (if b111 = true then some (r109.1, r109.2)
     else some ((Value.bool false), r109.2)).bind fun r113 =>
    some (Res.ret [r113.1] r113.2)
  else
  (bin .eql v30 (Value.int IntKind.i64 7)).bind fun v115 =>
  (asB v115).bind fun c114 =>
  if c114 then
    (nilV Try.prog t0).bind fun v117 =>
    (prun Try.prog (Instr.fieldAt 66 v117 0)).bind fun v118 =>
    (rrun Try.prog (Instr.loadAt 24 v118) r5.2).bind fun v119 =>
    (call 18 #[v119] r5.2).bind fun r120 =>
    (nilV Try.prog t0).bind fun v122 =>
    (prun Try.prog (Instr.fieldAt 66 v122 0)).bind fun v123 =>
    (rrun Try.prog (Instr.loadAt 24 v123) r120.2).bind fun v124 =>
    (call 18 #[v124] r120.2).bind fun r125 =>
    (nilV Try.prog t0).bind fun v127 =>
    (prun Try.prog (Instr.fieldAt 66 v127 1)).bind fun v128 =>
    (rrun Try.prog (Instr.loadAt 61 v128) r125.2).bind fun v129 =>
    (call 52 #[v129] r125.2).bind fun r130 =>
    (call 19 #[r120.1, r130.1] r130.2).bind fun r133 =>
    (call 19 #[r125.1, r130.1] r133.2).bind fun r136 =>
    (call 53 #[o1, r120.1] r136.2).bind fun r139 =>
    (call 54 #[o1, r125.1, r130.1] r139.2).bind fun r143 =>
    (asB r133.1).bind fun b145 =>
    (if b145 = true then some (r136.1, r143.2)
     else some ((Value.bool false), r143.2)).bind fun r147 =>
    (asB r147.1).bind fun b148 =>
    (if b148 = true then some (r143.1, r147.2)
     else some ((Value.bool false), r147.2)).bind fun r150 =>
    some (Res.ret [r150.1] r150.2)
  else
  some (Res.norm [t0, o1, r5.1] r5.2)).bind fun (r : Res) => (r.unblock 0).cont fun vs W1 =>
  let t0_1 := nth vs 0
  let o1_1 := nth vs 1
  let a5 := nth vs 2
  (nilV Try.prog t0_1).bind fun v152 =>
  (prun Try.prog (Instr.fieldAt 66 v152 2)).bind fun v153 =>
  (rrun Try.prog (Instr.loadAt 63 v153) W1).bind fun v154 =>
  (prun Try.prog (Builtin.len_ #[63] 3 #[v154])).bind fun v155 =>
  (bin .sub v155 (Value.int IntKind.i64 1)).bind fun v156 =>
  (bin .gtr v156 (Value.int IntKind.i64 0)).bind fun v158 =>
  (asB v158).bind fun b159 =>
  (if b159 = true then (prun Try.prog (Instr.fieldAt 68 a5 4)).bind fun v160 =>
    (rrun Try.prog (Instr.loadAt 22 v160) W1).bind fun v161 =>
    (prun Try.prog (Builtin.len_ #[22] 3 #[v161])).bind fun v162 =>
    (bin .gtr v162 (Value.int IntKind.i64 0)).bind fun v163 =>
    some (v163, W1)
   else some ((Value.bool false), W1)).bind fun r164 =>
  (asB r164.1).bind fun c164 =>
  (if c164 then
    (bin .sub v156 (Value.int IntKind.i64 1)).bind fun v166 =>
    some (Res.norm [t0_1, o1_1, a5, v166] r164.2)
   else
    some (Res.norm [t0_1, o1_1, a5, v156] r164.2)).bind fun (r : Res) => r.cont fun vs_1 W2 =>
  let t0_2 := nth vs_1 0
  let o1_2 := nth vs_1 1
  let a5_1 := nth vs_1 2
  let v23 := nth vs_1 3
  (bin .lss v23 (Value.int IntKind.i64 0)).bind fun v168 =>
  (asB v168).bind fun c168 =>
  if c168 then
    some (Res.ret [(Value.bool true)] W2)
  else
  ((nilV Try.prog t0_2).bind fun v171 =>
  some (v171, W2.drew)).bind fun r171 =>
  ((prun Try.prog (Instr.fieldAt 66 r171.1 2)).bind fun v172 =>
  some (v172, r171.2)).bind fun r172 =>
  ((rrun Try.prog (Instr.loadAt 63 r172.1) r172.2).bind fun v173 =>
  some (v173, r172.2)).bind fun r173 =>
  ((prun Try.prog (Instr.indexAt 63 r173.1 v23)).bind fun v175 =>
  some (v175, r173.2)).bind fun r175 =>
  ((rrun Try.prog (Instr.loadAt 36 r175.1) r175.2).bind fun v176 =>
  some (v176, r175.2)).bind fun r176 =>
  ((prun Try.prog (Instr.fieldAt 68 a5_1 1)).bind fun v177 =>
  some (v177, r176.2)).bind fun r177 =>
  ((rrun Try.prog (Instr.loadAt 3 r177.1) r177.2).bind fun v178 =>
  some (v178, r177.2)).bind fun r178 =>
  ((prun Try.prog (Instr.fieldAt 68 a5_1 2)).bind fun v179 =>
  some (v179, r178.2)).bind fun r179 =>
  ((rrun Try.prog (Instr.loadAt 3 r179.1) r179.2).bind fun v180 =>
  some (v180, r179.2)).bind fun r180 =>
  ((imethod Try.prog r176.1 "Read" r180.2).bind fun m181 =>
  (call m181.1 #[m181.2, r178.1, r180.1] r180.2).bind fun r181_1 =>
  some (r181_1.1, r181_1.2)).bind fun r181 =>
  ((prun Try.prog (Instr.extract r181.1 0)).bind fun v182 =>
  some (v182, r181.2)).bind fun r182 =>
  ((prun Try.prog (Instr.extract r181.1 1)).bind fun v183 =>
  some (v183, r182.2)).bind fun r183 =>
  chkThen (True)
  (((nilV Try.prog t0_2).bind fun v186 =>
  some (v186, r183.2.drew)).bind fun r186 =>
  ((prun Try.prog (Instr.fieldAt 66 r186.1 3)).bind fun v187 =>
  some (v187, r186.2)).bind fun r187 =>
  ((rrun Try.prog (Instr.loadAt 64 r187.1) r187.2).bind fun v188 =>
  some (v188, r187.2)).bind fun r188 =>
  ((prun Try.prog (Instr.indexAt 64 r188.1 v23)).bind fun v190 =>
  some (v190, r188.2)).bind fun r190 =>
  ((rrun Try.prog (Instr.loadAt 90 r190.1) r190.2).bind fun v191 =>
  some (v191, r190.2)).bind fun r191 =>
  ((prun Try.prog (Instr.fieldAt 68 a5_1 1)).bind fun v192 =>
  some (v192, r191.2)).bind fun r192 =>
  ((rrun Try.prog (Instr.loadAt 3 r192.1) r192.2).bind fun v193 =>
  some (v193, r192.2)).bind fun r193 =>
  ((prun Try.prog (Instr.fieldAt 68 a5_1 2)).bind fun v194 =>
  some (v194, r193.2)).bind fun r194 =>
  ((rrun Try.prog (Instr.loadAt 3 r194.1) r194.2).bind fun v195 =>
  some (v195, r194.2)).bind fun r195 =>
  ((call 55 #[r191.1, r193.1, r195.1] r195.2).bind fun r196_1 =>
  some (r196_1.1, r196_1.2)).bind fun r196 =>
  ((prun Try.prog (Instr.extract r196.1 0)).bind fun v197 =>
  some (v197, r196.2)).bind fun r197 =>
  ((prun Try.prog (Instr.extract r196.1 1)).bind fun v198 =>
  some (v198, r197.2)).bind fun r198 =>
  chkThen (True)
  ((call 49 #[o1_2, r182.1, r197.1] r198.2).bind fun r202 =>
  (if wantedV true r202.1 = true then some (r183.1, r202.2.drew) else some (undef, r202.2.drew)).bind fun r205 =>
  (if wantedV true r202.1 = true then some (r198.1, r205.2) else some (undef, r205.2)).bind fun r206 =>
  (if wantedV true r202.1 = true then (bin .eql r205.1 r206.1).bind fun v207 =>
  some (v207, r206.2) else some (undef, r206.2)).bind fun r207 =>
  ((pickV r202.1 r207.1 (Value.bool false)).bind fun v208 =>
  some (v208, r207.2)).bind fun r208 =>
  (if wantedV true r208.1 = true then some (r182.1, r208.2) else some (undef, r208.2)).bind fun r210 =>
  (if wantedV true r208.1 = true then (rrun Try.prog (convert 22 9 r210.1) r210.2).bind fun v211 =>
  some (v211, r210.2) else some (undef, r210.2)).bind fun r211 =>
  (if wantedV true r208.1 = true then some (r197.1, r211.2) else some (undef, r211.2)).bind fun r212 =>
  (if wantedV true r208.1 = true then (rrun Try.prog (convert 22 9 r212.1) r212.2).bind fun v213 =>
  some (v213, r212.2) else some (undef, r212.2)).bind fun r213 =>
  (if wantedV true r208.1 = true then (prun Try.prog (do eqGuard .eql 9 (Operand.tmp 211) (Operand.tmp 213) r211.1 r213.1; binOp .eql 9 r211.1 r213.1)).bind fun v214 =>
  some (v214, r213.2) else some (undef, r213.2)).bind fun r214 =>
  ((pickV r208.1 r214.1 (Value.bool false)).bind fun v215 =>
  some (v215, r214.2)).bind fun r215 =>
  (if wantedV true r215.1 = true then some (t0_2, r215.2) else some (undef, r215.2)).bind fun r217 =>
  (if wantedV true r215.1 = true then (nilV Try.prog r217.1).bind fun v218 =>
  some (v218, r217.2) else some (undef, r217.2)).bind fun r218 =>
  (if wantedV true r215.1 = true then (prun Try.prog (Instr.fieldAt 66 r218.1 2)).bind fun v219 =>
  some (v219, r218.2) else some (undef, r218.2)).bind fun r219 =>
  (if wantedV true r215.1 = true then (rrun Try.prog (Instr.loadAt 63 r219.1) r219.2).bind fun v220 =>
  some (v220, r219.2) else some (undef, r219.2)).bind fun r220 =>
  (if wantedV true r215.1 = true then some (v23, r220.2) else some (undef, r220.2)).bind fun r221 =>
  (if wantedV true r215.1 = true then (prun Try.prog (Instr.indexAt 63 r220.1 r221.1)).bind fun v222 =>
  some (v222, r221.2) else some (undef, r221.2)).bind fun r222 =>
  (if wantedV true r215.1 = true then (rrun Try.prog (Instr.loadAt 36 r222.1) r222.2).bind fun v223 =>
  some (v223, r222.2) else some (undef, r222.2)).bind fun r223 =>
  (if wantedV true r215.1 = true then (imethod Try.prog r223.1 "Size" r223.2).bind fun m224 =>
  (call m224.1 #[m224.2] r223.2).bind fun r224_1 =>
  some (r224_1.1, r224_1.2) else some (undef, r223.2)).bind fun r224 =>
  (if wantedV true r215.1 = true then some (t0_2, r224.2) else some (undef, r224.2)).bind fun r225 =>
  (if wantedV true r215.1 = true then (nilV Try.prog r225.1).bind fun v226 =>
  some (v226, r225.2) else some (undef, r225.2)).bind fun r226 =>
  (if wantedV true r215.1 = true then (prun Try.prog (Instr.fieldAt 66 r226.1 3)).bind fun v227 =>
  some (v227, r226.2) else some (undef, r226.2)).bind fun r227 =>
  (if wantedV true r215.1 = true then (rrun Try.prog (Instr.loadAt 64 r227.1) r227.2).bind fun v228 =>
  some (v228, r227.2) else some (undef, r227.2)).bind fun r228 =>
  (if wantedV true r215.1 = true then some (v23, r228.2) else some (undef, r228.2)).bind fun r229 =>
  (if wantedV true r215.1 = true then (prun Try.prog (Instr.indexAt 64 r228.1 r229.1)).bind fun v230 =>
  some (v230, r229.2) else some (undef, r229.2)).bind fun r230 =>
  (if wantedV true r215.1 = true then (rrun Try.prog (Instr.loadAt 90 r230.1) r230.2).bind fun v231 =>
  some (v231, r230.2) else some (undef, r230.2)).bind fun r231 =>
  (if wantedV true r215.1 = true then (call 56 #[r231.1] r231.2).bind fun r232_1 =>
  some (r232_1.1, r232_1.2) else some (undef, r231.2)).bind fun r232 =>
  (if wantedV true r215.1 = true then (bin .eql r224.1 r232.1).bind fun v233 =>
  some (v233, r232.2) else some (undef, r232.2)).bind fun r233 =>
  ((pickV r215.1 r233.1 (Value.bool false)).bind fun v234 =>
  some (v234, r233.2)).bind fun r234 =>
  chkThen (((if wantedV true r215.1 = true then ((rrun Try.prog (Instr.loadAt 64 r227.1) r223.2).bind fun v228_1 => some v228_1) = some r228.1 else True) ∧ (if wantedV true r215.1 = true then ((rrun Try.prog (Instr.loadAt 64 r227.1) r224.2).bind fun v228_2 => some v228_2) = some r228.1 else True)) ∧ ((if wantedV true r215.1 = true then ((rrun Try.prog (Instr.loadAt 90 r230.1) r223.2).bind fun v231_1 => some v231_1) = some r231.1 else True) ∧ (if wantedV true r215.1 = true then ((rrun Try.prog (Instr.loadAt 90 r230.1) r224.2).bind fun v231_2 => some v231_2) = some r231.1 else True)) ∧ True)
  (some (Res.ret [r234.1] r234.2))))).bind Res.done
theorem f24.eq (call dfr : CallF) (t0 : Value) (o1 : Value) (A2 : Value) (W0 : World) : aFun Try.prog call dfr Try.f24 f24.ann (ofArgs #[t0, o1, A2]) W0 = f24 call t0 o1 A2 W0 := by kernel_rfl

/-- (*dailies/dailieslaw15.Book).own -/
def f25.ann : Ann := (.s .z (.s .z (.s .z (.s (.s .z (.b [0, 3, 4] (.l [0, 3, 4, 5] (.s (.s .z (.c .z .z)) (.s (.b [0, 3, 4, 5] (.s .z (.s (.s .z (.b [0, 3, 4, 5, 6] (.l [0, 3, 4, 5, 6, 7] (.s (.s .z (.c .z .z)) (.s (.b [0, 3, 4, 5, 6, 7] .z) .z))))) .z))) .z))))) (.s (.s .z (.b [0, 3, 4] (.l [0, 3, 4, 8] (.s (.s .z (.c .z .z)) (.s (.b [0, 3, 4, 8] (.s .z (.s (.s .z (.b [0, 3, 4, 8, 9] (.l [0, 3, 4, 8, 9, 10] (.s (.s .z (.c .z .z)) (.s (.b [0, 3, 4, 8, 9, 10] .z) .z))))) .z))) .z))))) (.s .z (.s .z (.s .z (.s (.s .z (.b [0, 4] (.l [0, 4, 11, 12] (.s (.s .z (.c .z .z)) (.s (.b [0, 4, 11, 12] (.s .z (.b [0, 4, 11, 12] (.l [0, 4, 11, 12, 13] (.s (.s .z (.c .z .z)) (.s (.b [0, 4, 11, 12, 13] .z) .z)))))) .z))))) (.s .z (.s (.s .z (.b [0] (.l [0, 11, 14] (.s (.s .z (.c .z .z)) (.s (.b [0, 11, 14] (.s .z (.b [0, 11, 14] (.l [0, 11, 14, 15] (.s (.s .z (.c .z .z)) (.s (.b [0, 11, 14, 15] .z) .z)))))) .z))))) (.s .z .z))))))))))))
noncomputable def f25.l0 (call : CallF) (vs_1 : List Value) (W2 : World) : Option Res :=
  let t0_2 := nth vs_1 0
  let r3_1 := nth vs_1 1
  let r4_1 := nth vs_1 2
  let a5_1 := nth vs_1 3
  let y6 := nth vs_1 4
  let v7 := nth vs_1 5
  (nilV Try.prog t0_2).bind fun v45 =>
  (prun Try.prog (Instr.fieldAt 59 v45 2)).bind fun v46 =>
  (rrun Try.prog (Instr.loadAt 50 v46) W2).bind fun v47 =>
  (prun Try.prog (Instr.indexAt 50 v47 a5_1)).bind fun v49 =>
  (rrun Try.prog (Instr.loadAt 22 v49) W2).bind fun v50 =>
  (prun Try.prog (Builtin.len_ #[22] 3 #[v50])).bind fun v51 =>
  (bin .lss v7 v51).bind fun v52 =>
  (asB v52).bind fun c52 =>
  if c52 then
    ((nilV Try.prog t0_2).bind fun v56 =>
    (prun Try.prog (Instr.fieldAt 59 v56 2)).bind fun v57 =>
    (rrun Try.prog (Instr.loadAt 50 v57) W2).bind fun v58 =>
    (prun Try.prog (Instr.indexAt 50 v58 a5_1)).bind fun v60 =>
    (rrun Try.prog (Instr.loadAt 22 v60) W2).bind fun v61 =>
    (prun Try.prog (Instr.indexAt 22 v61 v7)).bind fun v64 =>
    (erun Try.prog (Instr.storeAt 5 v64 y6) W2).bind fun r =>
    some (Res.norm [t0_2, r3_1, r4_1, a5_1, y6, v7] r.2)).bind fun (r : Res) => (r.unblock 3).cont fun vs_2 W3 =>
    let t0_3 := nth vs_2 0
    let r3_2 := nth vs_2 1
    let r4_2 := nth vs_2 2
    let a5_2 := nth vs_2 3
    let y6_1 := nth vs_2 4
    let v7_1 := nth vs_2 5
    (bin .add v7_1 (Value.int IntKind.i64 1)).bind fun v54 =>
    some (Res.norm [t0_3, r3_2, r4_2, a5_2, y6_1, v54] W3)
  else
  some (Res.exit 2 [t0_2, r3_1, r4_1, a5_1, y6] W2)
noncomputable def f25.l1 (call : CallF) (vs : List Value) (W1 : World) : Option Res :=
  let t0_1 := nth vs 0
  let r3 := nth vs 1
  let r4 := nth vs 2
  let a5 := nth vs 3
  (nilV Try.prog t0_1).bind fun v28 =>
  (prun Try.prog (Instr.fieldAt 59 v28 2)).bind fun v29 =>
  (rrun Try.prog (Instr.loadAt 50 v29) W1).bind fun v30 =>
  (prun Try.prog (Builtin.len_ #[50] 3 #[v30])).bind fun v31 =>
  (bin .lss a5 v31).bind fun v32 =>
  (asB v32).bind fun c32 =>
  if c32 then
    ((nilV Try.prog t0_1).bind fun v36 =>
    (prun Try.prog (Instr.fieldAt 59 v36 0)).bind fun v37 =>
    (rrun Try.prog (Instr.loadAt 55 v37) W1).bind fun v38 =>
    (prun Try.prog (Builtin.len_ #[55] 3 #[v38])).bind fun v39 =>
    (bin .rem v39 (Value.int IntKind.i64 250)).bind fun v40 =>
    (bin .add (Value.int IntKind.i64 1) v40).bind fun v41 =>
    (prun Try.prog (convert 3 5 v41)).bind fun v42 =>
    (iter (f25.l0 call) [t0_1, r3, r4, a5, v42, (Value.int IntKind.i64 0)] W1).bind fun (r : Res) => (r.unblock 2).cont fun vs_3 W4 =>
    let t0_4 := nth vs_3 0
    let r3_3 := nth vs_3 1
    let r4_3 := nth vs_3 2
    let a5_3 := nth vs_3 3
    let y6_2 := nth vs_3 4
    ((nilV Try.prog t0_4).bind fun v67 =>
    some (v67, W4.drew)).bind fun r67 =>
    ((prun Try.prog (Instr.fieldAt 59 r67.1 0)).bind fun v68 =>
    some (v68, r67.2)).bind fun r68 =>
    ((rrun Try.prog (Instr.loadAt 55 r68.1) r68.2).bind fun v69 =>
    some (v69, r68.2)).bind fun r69 =>
    ((nilV Try.prog t0_4).bind fun v71 =>
    some (v71, r69.2)).bind fun r71 =>
    ((prun Try.prog (Instr.fieldAt 59 r71.1 2)).bind fun v72 =>
    some (v72, r71.2)).bind fun r72 =>
    ((rrun Try.prog (Instr.loadAt 50 r72.1) r72.2).bind fun v73 =>
    some (v73, r72.2)).bind fun r73 =>
    ((prun Try.prog (Instr.indexAt 50 r73.1 a5_3)).bind fun v75 =>
    some (v75, r73.2)).bind fun r75 =>
    ((rrun Try.prog (Instr.loadAt 22 r75.1) r75.2).bind fun v76 =>
    some (v76, r75.2)).bind fun r76 =>
    ((prun Try.prog (Instr.build 99 #[(0, r76.1), (1, y6_2)])).bind fun v78 =>
    some (v78, r76.2)).bind fun r78 =>
    ((erun Try.prog (Instr.buildSlice 55 1 #[(0, r78.1)]) r78.2).bind fun r79_1 =>
    some (r79_1.1, r79_1.2)).bind fun r79 =>
    ((erun Try.prog (Builtin.append_ #[55, 55] 55 #[r69.1, r79.1]) r79.2).bind fun r80_1 =>
    some (r80_1.1, r80_1.2)).bind fun r80 =>
    ((nilV Try.prog t0_4).bind fun v81 =>
    some (v81, r80.2)).bind fun r81 =>
    ((prun Try.prog (Instr.fieldAt 59 r81.1 0)).bind fun v82 =>
    some (v82, r81.2)).bind fun r82 =>
    ((erun Try.prog (Instr.storeAt 55 r82.1 r80.1) r82.2).bind fun r_2 =>
    some (undef, r_2.2)).bind fun r_1 =>
    chkThen ((((rrun Try.prog (Instr.loadAt 55 r68.1) r78.2).bind fun v69_1 => some v69_1) = some r69.1 ∧ ((rrun Try.prog (Instr.loadAt 55 r68.1) r79.2).bind fun v69_2 => some v69_2) = some r69.1) ∧ True)
    (some (Res.norm [t0_4, r3_3, r4_3, a5_3] r_1.2))).bind fun (r : Res) => (r.unblock 1).cont fun vs_4 W5 =>
    let t0_5 := nth vs_4 0
    let r3_4 := nth vs_4 1
    let r4_4 := nth vs_4 2
    let a5_4 := nth vs_4 3
    (bin .add a5_4 (Value.int IntKind.i64 1)).bind fun v34 =>
    some (Res.norm [t0_5, r3_4, r4_4, v34] W5)
  else
  some (Res.exit 0 [t0_1, r3, r4] W1)
noncomputable def f25.l2 (call : CallF) (vs_7 : List Value) (W8 : World) : Option Res :=
  let t0_8 := nth vs_7 0
  let r3_7 := nth vs_7 1
  let r4_7 := nth vs_7 2
  let v8_1 := nth vs_7 3
  let v9 := nth vs_7 4
  let v10 := nth vs_7 5
  (nilV Try.prog t0_8).bind fun v100 =>
  (prun Try.prog (Instr.fieldAt 59 v100 3)).bind fun v101 =>
  (rrun Try.prog (Instr.loadAt 57 v101) W8).bind fun v102 =>
  (prun Try.prog (Instr.indexAt 57 v102 v8_1)).bind fun v104 =>
  (rrun Try.prog (Instr.loadAt 41 v104) W8).bind fun v105 =>
  (prun Try.prog (Builtin.len_ #[41] 3 #[v105])).bind fun v106 =>
  (bin .lss v10 v106).bind fun v107 =>
  (asB v107).bind fun c107 =>
  if c107 then
    ((nilV Try.prog t0_8).bind fun v111 =>
    (prun Try.prog (Instr.fieldAt 59 v111 3)).bind fun v112 =>
    (rrun Try.prog (Instr.loadAt 57 v112) W8).bind fun v113 =>
    (prun Try.prog (Instr.indexAt 57 v113 v8_1)).bind fun v115 =>
    (rrun Try.prog (Instr.loadAt 41 v115) W8).bind fun v116 =>
    (prun Try.prog (Instr.build 40 #[(0, v9)])).bind fun v119 =>
    (prun Try.prog (Instr.indexAt 41 v116 v10)).bind fun v120 =>
    (erun Try.prog (Instr.storeAt 40 v120 v119) W8).bind fun r_3 =>
    some (Res.norm [t0_8, r3_7, r4_7, v8_1, v9, v10] r_3.2)).bind fun (r : Res) => (r.unblock 7).cont fun vs_8 W9 =>
    let t0_9 := nth vs_8 0
    let r3_8 := nth vs_8 1
    let r4_8 := nth vs_8 2
    let v8_2 := nth vs_8 3
    let v9_1 := nth vs_8 4
    let v10_1 := nth vs_8 5
    (bin .add v10_1 (Value.int IntKind.i64 1)).bind fun v109 =>
    some (Res.norm [t0_9, r3_8, r4_8, v8_2, v9_1, v109] W9)
  else
  some (Res.exit 6 [t0_8, r3_7, r4_7, v8_1, v9] W8)
noncomputable def f25.l3 (call : CallF) (vs_6 : List Value) (W7 : World) : Option Res :=
  let t0_7 := nth vs_6 0
  let r3_6 := nth vs_6 1
  let r4_6 := nth vs_6 2
  let v8 := nth vs_6 3
  (nilV Try.prog t0_7).bind fun v85 =>
  (prun Try.prog (Instr.fieldAt 59 v85 3)).bind fun v86 =>
  (rrun Try.prog (Instr.loadAt 57 v86) W7).bind fun v87 =>
  (prun Try.prog (Builtin.len_ #[57] 3 #[v87])).bind fun v88 =>
  (bin .lss v8 v88).bind fun v89 =>
  (asB v89).bind fun c89 =>
  if c89 then
    ((nilV Try.prog t0_7).bind fun v93 =>
    (prun Try.prog (Instr.fieldAt 59 v93 1)).bind fun v94 =>
    (rrun Try.prog (Instr.loadAt 56 v94) W7).bind fun v95 =>
    (prun Try.prog (Builtin.len_ #[56] 3 #[v95])).bind fun v96 =>
    (bin .sub (Value.int IntKind.i64 (-1)) v96).bind fun v97 =>
    (iter (f25.l2 call) [t0_7, r3_6, r4_6, v8, v97, (Value.int IntKind.i64 0)] W7).bind fun (r : Res) => (r.unblock 6).cont fun vs_9 W10 =>
    let t0_10 := nth vs_9 0
    let r3_9 := nth vs_9 1
    let r4_9 := nth vs_9 2
    let v8_3 := nth vs_9 3
    let v9_2 := nth vs_9 4
    ((nilV Try.prog t0_10).bind fun v123 =>
    some (v123, W10.drew)).bind fun r123 =>
    ((prun Try.prog (Instr.fieldAt 59 r123.1 1)).bind fun v124 =>
    some (v124, r123.2)).bind fun r124 =>
    ((rrun Try.prog (Instr.loadAt 56 r124.1) r124.2).bind fun v125 =>
    some (v125, r124.2)).bind fun r125 =>
    ((nilV Try.prog t0_10).bind fun v127 =>
    some (v127, r125.2)).bind fun r127 =>
    ((prun Try.prog (Instr.fieldAt 59 r127.1 3)).bind fun v128 =>
    some (v128, r127.2)).bind fun r128 =>
    ((rrun Try.prog (Instr.loadAt 57 r128.1) r128.2).bind fun v129 =>
    some (v129, r128.2)).bind fun r129 =>
    ((prun Try.prog (Instr.indexAt 57 r129.1 v8_3)).bind fun v131 =>
    some (v131, r129.2)).bind fun r131 =>
    ((rrun Try.prog (Instr.loadAt 41 r131.1) r131.2).bind fun v132 =>
    some (v132, r131.2)).bind fun r132 =>
    ((prun Try.prog (Instr.build 101 #[(0, r132.1), (1, v9_2)])).bind fun v134 =>
    some (v134, r132.2)).bind fun r134 =>
    ((erun Try.prog (Instr.buildSlice 56 1 #[(0, r134.1)]) r134.2).bind fun r135_1 =>
    some (r135_1.1, r135_1.2)).bind fun r135 =>
    ((erun Try.prog (Builtin.append_ #[56, 56] 56 #[r125.1, r135.1]) r135.2).bind fun r136_1 =>
    some (r136_1.1, r136_1.2)).bind fun r136 =>
    ((nilV Try.prog t0_10).bind fun v137 =>
    some (v137, r136.2)).bind fun r137 =>
    ((prun Try.prog (Instr.fieldAt 59 r137.1 1)).bind fun v138 =>
    some (v138, r137.2)).bind fun r138 =>
    ((erun Try.prog (Instr.storeAt 56 r138.1 r136.1) r138.2).bind fun r_5 =>
    some (undef, r_5.2)).bind fun r_4 =>
    chkThen ((((rrun Try.prog (Instr.loadAt 56 r124.1) r134.2).bind fun v125_1 => some v125_1) = some r125.1 ∧ ((rrun Try.prog (Instr.loadAt 56 r124.1) r135.2).bind fun v125_2 => some v125_2) = some r125.1) ∧ True)
    (some (Res.norm [t0_10, r3_9, r4_9, v8_3] r_4.2))).bind fun (r : Res) => (r.unblock 5).cont fun vs_10 W11 =>
    let t0_11 := nth vs_10 0
    let r3_10 := nth vs_10 1
    let r4_10 := nth vs_10 2
    let v8_4 := nth vs_10 3
    (bin .add v8_4 (Value.int IntKind.i64 1)).bind fun v91 =>
    some (Res.norm [t0_11, r3_10, r4_10, v91] W11)
  else
  some (Res.exit 4 [t0_7, r3_6, r4_6] W7)
noncomputable def f25.l4 (call : CallF) (vs_13 : List Value) (W14 : World) : Option Res :=
  let t0_14 := nth vs_13 0
  let r4_13 := nth vs_13 1
  let v11_1 := nth vs_13 2
  let v12_1 := nth vs_13 3
  let v13 := nth vs_13 4
  (bin .lss v13 (Value.int IntKind.i64 20)).bind fun v157 =>
  (asB v157).bind fun c157 =>
  if c157 then
    (((nilV Try.prog t0_14).bind fun v161 =>
    some (v161, W14.drew)).bind fun r161 =>
    ((prun Try.prog (Instr.fieldAt 59 r161.1 0)).bind fun v162 =>
    some (v162, r161.2)).bind fun r162 =>
    ((rrun Try.prog (Instr.loadAt 55 r162.1) r162.2).bind fun v163 =>
    some (v163, r162.2)).bind fun r163 =>
    ((nilV Try.prog t0_14).bind fun v166 =>
    some (v166, r163.2)).bind fun r166 =>
    ((prun Try.prog (Instr.fieldAt 59 r166.1 0)).bind fun v167 =>
    some (v167, r166.2)).bind fun r167 =>
    ((rrun Try.prog (Instr.loadAt 55 r167.1) r167.2).bind fun v168 =>
    some (v168, r167.2)).bind fun r168 =>
    ((prun Try.prog (Instr.indexAt 55 r168.1 v12_1)).bind fun v170 =>
    some (v170, r168.2)).bind fun r170 =>
    ((prun Try.prog (Instr.fieldAt 99 r170.1 0)).bind fun v171 =>
    some (v171, r170.2)).bind fun r171 =>
    ((rrun Try.prog (Instr.loadAt 22 r171.1) r171.2).bind fun v172 =>
    some (v172, r171.2)).bind fun r172 =>
    ((nilV Try.prog t0_14).bind fun v174 =>
    some (v174, r172.2)).bind fun r174 =>
    ((prun Try.prog (Instr.fieldAt 59 r174.1 0)).bind fun v175 =>
    some (v175, r174.2)).bind fun r175 =>
    ((rrun Try.prog (Instr.loadAt 55 r175.1) r175.2).bind fun v176 =>
    some (v176, r175.2)).bind fun r176 =>
    ((prun Try.prog (Instr.indexAt 55 r176.1 v12_1)).bind fun v178 =>
    some (v178, r176.2)).bind fun r178 =>
    ((prun Try.prog (Instr.fieldAt 99 r178.1 1)).bind fun v179 =>
    some (v179, r178.2)).bind fun r179 =>
    ((rrun Try.prog (Instr.loadAt 5 r179.1) r179.2).bind fun v180 =>
    some (v180, r179.2)).bind fun r180 =>
    ((erun Try.prog (Instr.buildSlice 22 1 #[(0, r180.1)]) r180.2).bind fun r181_1 =>
    some (r181_1.1, r181_1.2)).bind fun r181 =>
    ((erun Try.prog (Builtin.append_ #[22, 22] 22 #[r172.1, r181.1]) r181.2).bind fun r182_1 =>
    some (r182_1.1, r182_1.2)).bind fun r182 =>
    ((prun Try.prog (Instr.indexAt 55 r163.1 v12_1)).bind fun v183 =>
    some (v183, r182.2)).bind fun r183 =>
    ((prun Try.prog (Instr.fieldAt 99 r183.1 0)).bind fun v184 =>
    some (v184, r183.2)).bind fun r184 =>
    ((erun Try.prog (Instr.storeAt 22 r184.1 r182.1) r184.2).bind fun r_9 =>
    some (undef, r_9.2)).bind fun r_8 =>
    chkThen ((((rrun Try.prog (Instr.loadAt 55 r162.1) r180.2).bind fun v163_3 => some v163_3) = some r163.1 ∧ ((rrun Try.prog (Instr.loadAt 55 r162.1) r181.2).bind fun v163_4 => some v163_4) = some r163.1) ∧ (((rrun Try.prog (Instr.loadAt 55 r162.1) r181.2).bind fun v163_1 => some v163_1) = some r163.1 ∧ ((rrun Try.prog (Instr.loadAt 55 r162.1) r182.2).bind fun v163_2 => some v163_2) = some r163.1) ∧ (((rrun Try.prog (Instr.loadAt 55 r167.1) r180.2).bind fun v168_1 => some v168_1) = some r168.1 ∧ ((rrun Try.prog (Instr.loadAt 55 r167.1) r181.2).bind fun v168_2 => some v168_2) = some r168.1) ∧ (((rrun Try.prog (Instr.loadAt 22 r171.1) r180.2).bind fun v172_1 => some v172_1) = some r172.1 ∧ ((rrun Try.prog (Instr.loadAt 22 r171.1) r181.2).bind fun v172_2 => some v172_2) = some r172.1) ∧ True)
    (some (Res.norm [t0_14, r4_13, v11_1, v12_1, v13] r_8.2))).bind fun (r : Res) => (r.unblock 11).cont fun vs_14 W15 =>
    let t0_15 := nth vs_14 0
    let r4_14 := nth vs_14 1
    let v11_2 := nth vs_14 2
    let v12_2 := nth vs_14 3
    let v13_1 := nth vs_14 4
    (bin .add v13_1 (Value.int IntKind.i64 1)).bind fun v159 =>
    some (Res.norm [t0_15, r4_14, v11_2, v12_2, v159] W15)
  else
  some (Res.exit 10 [t0_14, r4_13, v11_1, v12_1] W14)
noncomputable def f25.l5 (call : CallF) (vs_12 : List Value) (W13 : World) : Option Res :=
  let t0_13 := nth vs_12 0
  let r4_12 := nth vs_12 1
  let v11 := nth vs_12 2
  let v12 := nth vs_12 3
  (bin .lss v12 v11).bind fun v153 =>
  (asB v153).bind fun c153 =>
  if c153 then
    ((iter (f25.l4 call) [t0_13, r4_12, v11, v12, (Value.int IntKind.i64 0)] W13).bind fun (r : Res) => (r.unblock 10).cont fun vs_15 W16 =>
    let t0_16 := nth vs_15 0
    let r4_15 := nth vs_15 1
    let v11_3 := nth vs_15 2
    let v12_3 := nth vs_15 3
    some (Res.norm [t0_16, r4_15, v11_3, v12_3] W16)).bind fun (r : Res) => (r.unblock 9).cont fun vs_16 W17 =>
    let t0_17 := nth vs_16 0
    let r4_16 := nth vs_16 1
    let v11_4 := nth vs_16 2
    let v12_4 := nth vs_16 3
    (bin .add v12_4 (Value.int IntKind.i64 1)).bind fun v155 =>
    some (Res.norm [t0_17, r4_16, v11_4, v155] W17)
  else
  some (Res.exit 8 [t0_13, r4_12] W13)
noncomputable def f25.l6 (call : CallF) (vs_19 : List Value) (W20 : World) : Option Res :=
  let t0_20 := nth vs_19 0
  let v11_6 := nth vs_19 1
  let v14_1 := nth vs_19 2
  let v15 := nth vs_19 3
  (bin .lss v15 (Value.int IntKind.i64 20)).bind fun v197 =>
  (asB v197).bind fun c197 =>
  if c197 then
    (((nilV Try.prog t0_20).bind fun v201 =>
    some (v201, W20.drew)).bind fun r201 =>
    ((prun Try.prog (Instr.fieldAt 59 r201.1 1)).bind fun v202 =>
    some (v202, r201.2)).bind fun r202 =>
    ((rrun Try.prog (Instr.loadAt 56 r202.1) r202.2).bind fun v203 =>
    some (v203, r202.2)).bind fun r203 =>
    ((nilV Try.prog t0_20).bind fun v206 =>
    some (v206, r203.2)).bind fun r206 =>
    ((prun Try.prog (Instr.fieldAt 59 r206.1 1)).bind fun v207 =>
    some (v207, r206.2)).bind fun r207 =>
    ((rrun Try.prog (Instr.loadAt 56 r207.1) r207.2).bind fun v208 =>
    some (v208, r207.2)).bind fun r208 =>
    ((prun Try.prog (Instr.indexAt 56 r208.1 v14_1)).bind fun v210 =>
    some (v210, r208.2)).bind fun r210 =>
    ((prun Try.prog (Instr.fieldAt 101 r210.1 0)).bind fun v211 =>
    some (v211, r210.2)).bind fun r211 =>
    ((rrun Try.prog (Instr.loadAt 41 r211.1) r211.2).bind fun v212 =>
    some (v212, r211.2)).bind fun r212 =>
    ((nilV Try.prog t0_20).bind fun v214 =>
    some (v214, r212.2)).bind fun r214 =>
    ((prun Try.prog (Instr.fieldAt 59 r214.1 1)).bind fun v215 =>
    some (v215, r214.2)).bind fun r215 =>
    ((rrun Try.prog (Instr.loadAt 56 r215.1) r215.2).bind fun v216 =>
    some (v216, r215.2)).bind fun r216 =>
    ((prun Try.prog (Instr.indexAt 56 r216.1 v14_1)).bind fun v218 =>
    some (v218, r216.2)).bind fun r218 =>
    ((prun Try.prog (Instr.fieldAt 101 r218.1 1)).bind fun v219 =>
    some (v219, r218.2)).bind fun r219 =>
    ((rrun Try.prog (Instr.loadAt 3 r219.1) r219.2).bind fun v220 =>
    some (v220, r219.2)).bind fun r220 =>
    ((prun Try.prog (Instr.build 40 #[(0, r220.1)])).bind fun v221 =>
    some (v221, r220.2)).bind fun r221 =>
    ((erun Try.prog (Instr.buildSlice 41 1 #[(0, r221.1)]) r221.2).bind fun r222_1 =>
    some (r222_1.1, r222_1.2)).bind fun r222 =>
    ((erun Try.prog (Builtin.append_ #[41, 41] 41 #[r212.1, r222.1]) r222.2).bind fun r223_1 =>
    some (r223_1.1, r223_1.2)).bind fun r223 =>
    ((prun Try.prog (Instr.indexAt 56 r203.1 v14_1)).bind fun v224 =>
    some (v224, r223.2)).bind fun r224 =>
    ((prun Try.prog (Instr.fieldAt 101 r224.1 0)).bind fun v225 =>
    some (v225, r224.2)).bind fun r225 =>
    ((erun Try.prog (Instr.storeAt 41 r225.1 r223.1) r225.2).bind fun r_11 =>
    some (undef, r_11.2)).bind fun r_10 =>
    chkThen ((((rrun Try.prog (Instr.loadAt 56 r202.1) r221.2).bind fun v203_3 => some v203_3) = some r203.1 ∧ ((rrun Try.prog (Instr.loadAt 56 r202.1) r222.2).bind fun v203_4 => some v203_4) = some r203.1) ∧ (((rrun Try.prog (Instr.loadAt 56 r202.1) r222.2).bind fun v203_1 => some v203_1) = some r203.1 ∧ ((rrun Try.prog (Instr.loadAt 56 r202.1) r223.2).bind fun v203_2 => some v203_2) = some r203.1) ∧ (((rrun Try.prog (Instr.loadAt 56 r207.1) r221.2).bind fun v208_1 => some v208_1) = some r208.1 ∧ ((rrun Try.prog (Instr.loadAt 56 r207.1) r222.2).bind fun v208_2 => some v208_2) = some r208.1) ∧ (((rrun Try.prog (Instr.loadAt 41 r211.1) r221.2).bind fun v212_1 => some v212_1) = some r212.1 ∧ ((rrun Try.prog (Instr.loadAt 41 r211.1) r222.2).bind fun v212_2 => some v212_2) = some r212.1) ∧ True)
    (some (Res.norm [t0_20, v11_6, v14_1, v15] r_10.2))).bind fun (r : Res) => (r.unblock 15).cont fun vs_20 W21 =>
    let t0_21 := nth vs_20 0
    let v11_7 := nth vs_20 1
    let v14_2 := nth vs_20 2
    let v15_1 := nth vs_20 3
    (bin .add v15_1 (Value.int IntKind.i64 1)).bind fun v199 =>
    some (Res.norm [t0_21, v11_7, v14_2, v199] W21)
  else
  some (Res.exit 14 [t0_20, v11_6, v14_1] W20)
noncomputable def f25.l7 (call : CallF) (vs_18 : List Value) (W19 : World) : Option Res :=
  let t0_19 := nth vs_18 0
  let v11_5 := nth vs_18 1
  let v14 := nth vs_18 2
  (bin .lss v14 v11_5).bind fun v193 =>
  (asB v193).bind fun c193 =>
  if c193 then
    ((iter (f25.l6 call) [t0_19, v11_5, v14, (Value.int IntKind.i64 0)] W19).bind fun (r : Res) => (r.unblock 14).cont fun vs_21 W22 =>
    let t0_22 := nth vs_21 0
    let v11_8 := nth vs_21 1
    let v14_3 := nth vs_21 2
    some (Res.norm [t0_22, v11_8, v14_3] W22)).bind fun (r : Res) => (r.unblock 13).cont fun vs_22 W23 =>
    let t0_23 := nth vs_22 0
    let v11_9 := nth vs_22 1
    let v14_4 := nth vs_22 2
    (bin .add v14_4 (Value.int IntKind.i64 1)).bind fun v195 =>
    some (Res.norm [t0_23, v11_9, v195] W23)
  else
  some (Res.exit 12 [t0_19] W19)
noncomputable def f25 (call : CallF) (t0 : Value) (W0 : World) : Option (Value × World) :=
  ((nilV Try.prog t0).bind fun v17 =>
  (prun Try.prog (Instr.fieldAt 59 v17 0)).bind fun v18 =>
  (rrun Try.prog (Instr.loadAt 55 v18) W0).bind fun v19 =>
  (prun Try.prog (Builtin.len_ #[55] 3 #[v19])).bind fun v20 =>
  (nilV Try.prog t0).bind fun v22 =>
  (prun Try.prog (Instr.fieldAt 59 v22 1)).bind fun v23 =>
  (rrun Try.prog (Instr.loadAt 56 v23) W0).bind fun v24 =>
  (prun Try.prog (Builtin.len_ #[56] 3 #[v24])).bind fun v25 =>
  (iter (f25.l1 call) [t0, v20, v25, (Value.int IntKind.i64 0)] W0).bind fun (r : Res) => (r.unblock 0).cont fun vs_5 W6 =>
  let t0_6 := nth vs_5 0
  let r3_5 := nth vs_5 1
  let r4_5 := nth vs_5 2
  (iter (f25.l3 call) [t0_6, r3_5, r4_5, (Value.int IntKind.i64 0)] W6).bind fun (r : Res) => (r.unblock 4).cont fun vs_11 W12 =>
  let t0_12 := nth vs_11 0
  let r3_11 := nth vs_11 1
  let r4_11 := nth vs_11 2
  (nilV Try.prog t0_12).bind fun v140 =>
  (prun Try.prog (Instr.fieldAt 59 v140 2)).bind fun v141 =>
  (erun Try.prog (Instr.storeAt 50 v141 (Value.slice none 0 0)) W12).bind fun r_6 =>
  (nilV Try.prog t0_12).bind fun v143 =>
  (prun Try.prog (Instr.fieldAt 59 v143 3)).bind fun v144 =>
  (erun Try.prog (Instr.storeAt 57 v144 (Value.slice none 0 0)) r_6.2).bind fun r_7 =>
  (nilV Try.prog t0_12).bind fun v146 =>
  (prun Try.prog (Instr.fieldAt 59 v146 0)).bind fun v147 =>
  (rrun Try.prog (Instr.loadAt 55 v147) r_7.2).bind fun v148 =>
  (prun Try.prog (Builtin.len_ #[55] 3 #[v148])).bind fun v149 =>
  (iter (f25.l5 call) [t0_12, r4_11, v149, r3_11] r_7.2).bind fun (r : Res) => (r.unblock 8).cont fun vs_17 W18 =>
  let t0_18 := nth vs_17 0
  let r4_17 := nth vs_17 1
  (nilV Try.prog t0_18).bind fun v186 =>
  (prun Try.prog (Instr.fieldAt 59 v186 1)).bind fun v187 =>
  (rrun Try.prog (Instr.loadAt 56 v187) W18).bind fun v188 =>
  (prun Try.prog (Builtin.len_ #[56] 3 #[v188])).bind fun v189 =>
  (iter (f25.l7 call) [t0_18, v189, r4_17] W18).bind fun (r : Res) => (r.unblock 12).cont fun vs_23 W24 =>
  let t0_24 := nth vs_23 0
  (call 57 #[t0_24] W24).bind fun r227 =>
  some (Res.ret [r227.1] r227.2)).bind Res.done
theorem f25.eq (call dfr : CallF) (t0 : Value) (W0 : World) : aFun Try.prog call dfr Try.f25 f25.ann (ofArgs #[t0]) W0 = f25 call t0 W0 := by kernel_rfl

/-- slices.Clone[[]byte,byte] -/
def f26.ann : Ann := (.s .z (.s (.s .z (.c (.s .z .z) .z)) (.s .z .z)))
noncomputable def f26 (call : CallF) (s0 : Value) (W0 : World) : Option (Value × World) :=
  ((rrun Try.prog (do eqGuard .eql 22 (Operand.tmp 3) (Operand.const (Value.slice none 0 0)) s0 (Value.slice none 0 0); binOp .eql 22 s0 (Value.slice none 0 0)) W0).bind fun v4 =>
  (asB v4).bind fun c4 =>
  if c4 then
    some (Res.ret [(Value.slice none 0 0)] W0)
  else
  (erun Try.prog (Instr.buildSlice 22 0 #[]) W0).bind fun r5 =>
  (erun Try.prog (Builtin.append_ #[22, 22] 22 #[r5.1, s0]) r5.2).bind fun r7 =>
  some (Res.ret [r7.1] r7.2)).bind Res.done
theorem f26.eq (call dfr : CallF) (s0 : Value) (W0 : World) : aFun Try.prog call dfr Try.f26 f26.ann (ofArgs #[s0]) W0 = f26 call s0 W0 := by kernel_rfl

/-- dailies/medium.lies -/
def f29.ann : Ann := (.s .z (.s .z .z))
noncomputable def f29 (call : CallF) (at0 : Value) (n1 : Value) (size2 : Value) (W0 : World) : Option (Value × World) :=
  ((bin .geq at0 (Value.int IntKind.i64 0)).bind fun v8 =>
  (asB v8).bind fun b9 =>
  (if b9 = true then (bin .geq n1 (Value.int IntKind.i64 0)).bind fun v11 =>
    some (v11, W0)
   else some ((Value.bool false), W0)).bind fun r12 =>
  (asB r12.1).bind fun b13 =>
  (if b13 = true then (bin .leq at0 size2).bind fun v16 =>
    some (v16, r12.2)
   else some ((Value.bool false), r12.2)).bind fun r17 =>
  (asB r17.1).bind fun b18 =>
  (if b18 = true then (bin .sub size2 at0).bind fun v22 =>
    (bin .leq n1 v22).bind fun v23 =>
    some (v23, r17.2)
   else some ((Value.bool false), r17.2)).bind fun r24 =>
  some (Res.ret [r24.1] r24.2)).bind Res.done
theorem f29.eq (call dfr : CallF) (at0 : Value) (n1 : Value) (size2 : Value) (W0 : World) : aFun Try.prog call dfr Try.f29 f29.ann (ofArgs #[at0, n1, size2]) W0 = f29 call at0 n1 size2 W0 := by kernel_rfl

/-- (*dailies/medium.Medium).read -/
def f30.ann : Ann := (.s .z (.s (.b [0, 1, 2] (.s .z (.c (.s .z .z) (.s .z (.c (.s .z .z) .z))))) (.s .z (.s .z .z))))
noncomputable def f30 (call : CallF) (m0 : Value) (at1 : Value) (n2 : Value) (W0 : World) : Option (Value × World) :=
  (((nilV Try.prog m0).bind fun v10 =>
  (prun Try.prog (Instr.fieldAt 80 v10 2)).bind fun v11 =>
  (rrun Try.prog (Instr.loadAt 4 v11) W0).bind fun v12 =>
  (asB v12).bind fun c8 =>
  if c8 then
    some (Res.ret [(Value.slice none 0 0), (Value.int IntKind.i64 152)] W0)
  else
  (nilV Try.prog m0).bind fun v17 =>
  (prun Try.prog (Instr.fieldAt 80 v17 1)).bind fun v18 =>
  (rrun Try.prog (Instr.loadAt 22 v18) W0).bind fun v19 =>
  (prun Try.prog (Builtin.len_ #[22] 3 #[v19])).bind fun v20 =>
  (call 29 #[at1, n2, v20] W0).bind fun r21 =>
  (prun Try.prog (Op.unary .not r21.1)).bind fun v22 =>
  (asB v22).bind fun c13 =>
  if c13 then
    some (Res.ret [(Value.slice none 0 0), (Value.int IntKind.i64 151)] r21.2)
  else
  some (Res.norm [m0, at1, n2] r21.2)).bind fun (r : Res) => (r.unblock 0).cont fun vs W1 =>
  let m0_1 := nth vs 0
  let at1_1 := nth vs 1
  let n2_1 := nth vs 2
  (nilV Try.prog m0_1).bind fun v25 =>
  (prun Try.prog (Instr.fieldAt 80 v25 5)).bind fun v26 =>
  (rrun Try.prog (Instr.loadAt 41 v26) W1).bind fun v27 =>
  (prun Try.prog (Instr.build 40 #[(0, at1_1), (1, n2_1)])).bind fun v30 =>
  (erun Try.prog (Instr.buildSlice 41 1 #[(0, v30)]) W1).bind fun r31 =>
  (erun Try.prog (Builtin.append_ #[41, 41] 41 #[v27, r31.1]) r31.2).bind fun r32 =>
  (nilV Try.prog m0_1).bind fun v33 =>
  (prun Try.prog (Instr.fieldAt 80 v33 5)).bind fun v34 =>
  (erun Try.prog (Instr.storeAt 41 v34 r32.1) r32.2).bind fun r =>
  (nilV Try.prog m0_1).bind fun v36 =>
  (prun Try.prog (Instr.fieldAt 80 v36 1)).bind fun v37 =>
  (rrun Try.prog (Instr.loadAt 22 v37) r.2).bind fun v38 =>
  (bin .add at1_1 n2_1).bind fun v42 =>
  (prun Try.prog (Instr.sliceAt 22 v38 (some at1_1) (some v42) none)).bind fun v43 =>
  (call 26 #[v43] r.2).bind fun r44 =>
  (call 31 #[r44.1] r44.2).bind fun r45 =>
  some (Res.ret [r45.1, (Value.int IntKind.i64 0)] r45.2)).bind Res.done
theorem f30.eq (call dfr : CallF) (m0 : Value) (at1 : Value) (n2 : Value) (W0 : World) : aFun Try.prog call dfr Try.f30 f30.ann (ofArgs #[m0, at1, n2]) W0 = f30 call m0 at1 n2 W0 := by kernel_rfl

/-- slices.Clip[[]byte,byte] -/
def f31.ann : Ann := (.s .z (.s .z .z))
noncomputable def f31 (call : CallF) (s0 : Value) (W0 : World) : Option (Value × World) :=
  ((prun Try.prog (Builtin.len_ #[22] 3 #[s0])).bind fun v5 =>
  (prun Try.prog (Builtin.len_ #[22] 3 #[s0])).bind fun v7 =>
  (prun Try.prog (Instr.sliceAt 22 s0 none (some v5) (some v7))).bind fun v8 =>
  some (Res.ret [v8] W0)).bind Res.done
theorem f31.eq (call dfr : CallF) (s0 : Value) (W0 : World) : aFun Try.prog call dfr Try.f31 f31.ann (ofArgs #[s0]) W0 = f31 call s0 W0 := by kernel_rfl

/-- slices.Clip[[]dailies/api.Span,dailies/api.Span] -/
def f32.ann : Ann := (.s .z (.s .z .z))
noncomputable def f32 (call : CallF) (s0 : Value) (W0 : World) : Option (Value × World) :=
  ((prun Try.prog (Builtin.len_ #[41] 3 #[s0])).bind fun v5 =>
  (prun Try.prog (Builtin.len_ #[41] 3 #[s0])).bind fun v7 =>
  (prun Try.prog (Instr.sliceAt 41 s0 none (some v5) (some v7))).bind fun v8 =>
  some (Res.ret [v8] W0)).bind Res.done
theorem f32.eq (call dfr : CallF) (s0 : Value) (W0 : World) : aFun Try.prog call dfr Try.f32 f32.ann (ofArgs #[s0]) W0 = f32 call s0 W0 := by kernel_rfl

/-- slices.Clone[[]dailies/api.Span,dailies/api.Span] -/
def f33.ann : Ann := (.s .z (.s (.s .z (.c (.s .z .z) .z)) (.s .z .z)))
noncomputable def f33 (call : CallF) (s0 : Value) (W0 : World) : Option (Value × World) :=
  ((rrun Try.prog (do eqGuard .eql 41 (Operand.tmp 3) (Operand.const (Value.slice none 0 0)) s0 (Value.slice none 0 0); binOp .eql 41 s0 (Value.slice none 0 0)) W0).bind fun v4 =>
  (asB v4).bind fun c4 =>
  if c4 then
    some (Res.ret [(Value.slice none 0 0)] W0)
  else
  (erun Try.prog (Instr.buildSlice 41 0 #[]) W0).bind fun r5 =>
  (erun Try.prog (Builtin.append_ #[41, 41] 41 #[r5.1, s0]) r5.2).bind fun r7 =>
  some (Res.ret [r7.1] r7.2)).bind Res.done
theorem f33.eq (call dfr : CallF) (s0 : Value) (W0 : World) : aFun Try.prog call dfr Try.f33 f33.ann (ofArgs #[s0]) W0 = f33 call s0 W0 := by kernel_rfl

/-- dailies/dailieslaw15.lent -/
def f34.ann : Ann := (.s .z (.s .z (.s .z (.s (.s .z (.b [3] (.l [3, 4] (.s (.s .z (.c .z .z)) (.s (.b [3, 4] .z) .z))))) (.s .z .z)))))
noncomputable def f34.l0 (call : CallF) (vs : List Value) (W1 : World) : Option Res :=
  let c3 := nth vs 0
  let i4 := nth vs 1
  (prun Try.prog (Builtin.len_ #[22] 3 #[c3])).bind fun v16 =>
  (bin .lss i4 v16).bind fun v17 =>
  (asB v17).bind fun c17 =>
  if c17 then
    ((prun Try.prog (Instr.indexAt 22 c3 i4)).bind fun v22 =>
    (erun Try.prog (Instr.storeAt 5 v22 (Value.int IntKind.u8 201)) W1).bind fun r =>
    some (Res.norm [c3, i4] r.2)).bind fun (r : Res) => (r.unblock 1).cont fun vs_1 W2 =>
    let c3_1 := nth vs_1 0
    let i4_1 := nth vs_1 1
    (bin .add i4_1 (Value.int IntKind.i64 1)).bind fun v19 =>
    some (Res.norm [c3_1, v19] W2)
  else
  some (Res.exit 0 [c3] W1)
noncomputable def f34 (call : CallF) (b0 : Value) (W0 : World) : Option (Value × World) :=
  ((prun Try.prog (Builtin.len_ #[22] 3 #[b0])).bind fun v6 =>
  (bin .add v6 (Value.int IntKind.i64 5)).bind fun v7 =>
  (erun Try.prog (Instr.makeSlice 22 v7 v7) W0).bind fun r8 =>
  (erun Try.prog (Builtin.copy_ #[22, 22] 3 #[r8.1, b0]) r8.2).bind fun r11 =>
  (prun Try.prog (Builtin.len_ #[22] 3 #[b0])).bind fun v13 =>
  (iter (f34.l0 call) [r8.1, v13] r11.2).bind fun (r : Res) => (r.unblock 0).cont fun vs_2 W3 =>
  let c3_2 := nth vs_2 0
  some (Res.ret [c3_2] W3)).bind Res.done
theorem f34.eq (call dfr : CallF) (b0 : Value) (W0 : World) : aFun Try.prog call dfr Try.f34 f34.ann (ofArgs #[b0]) W0 = f34 call b0 W0 := by kernel_rfl

/-- (*dailies/dailiesref15.Medium).Append -/
def f35.ann : Ann := (.s .z (.s (.s .z (.c (.s .z .z) .z)) (.s (.s .z (.c (.s .z .z) .z)) (.s .z (.s (.s .z (.c (.s .z (.s (.s .z (.j [0, 1, 7] .z .z)) (.s .z (.s .z (.s .z (.s .z .z)))))) .z)) (.s (.s .z (.j [0, 1, 6] .z .z)) (.s .z (.s .z .z))))))))
noncomputable def f35 (call : CallF) (m0 : Value) (b1 : Value) (W0 : World) : Option (Value × World) :=
  ((nilV Try.prog m0).bind fun v9 =>
  (prun Try.prog (Instr.fieldAt 87 v9 1)).bind fun v10 =>
  (rrun Try.prog (Instr.loadAt 4 v10) W0).bind fun v11 =>
  (asB v11).bind fun c11 =>
  if c11 then
    some (Res.ret [(Value.int IntKind.i64 0), (Value.int IntKind.i64 152)] W0)
  else
  (prun Try.prog (Builtin.len_ #[22] 3 #[b1])).bind fun v13 =>
  (nilV Try.prog m0).bind fun v15 =>
  (prun Try.prog (Instr.fieldAt 87 v15 0)).bind fun v16 =>
  (rrun Try.prog (Instr.loadAt 22 v16) W0).bind fun v17 =>
  (prun Try.prog (Builtin.len_ #[22] 3 #[v17])).bind fun v18 =>
  (bin .sub (Value.int IntKind.i64 268435456) v18).bind fun v19 =>
  (bin .gtr v13 v19).bind fun v20 =>
  (asB v20).bind fun c20 =>
  if c20 then
    some (Res.ret [(Value.int IntKind.i64 0), (Value.int IntKind.i64 153)] W0)
  else
  (nilV Try.prog m0).bind fun v22 =>
  (prun Try.prog (Instr.fieldAt 87 v22 0)).bind fun v23 =>
  (rrun Try.prog (Instr.loadAt 22 v23) W0).bind fun v24 =>
  (prun Try.prog (Builtin.len_ #[22] 3 #[v24])).bind fun v25 =>
  (nilV Try.prog m0).bind fun v27 =>
  (prun Try.prog (Instr.fieldAt 87 v27 2)).bind fun v28 =>
  (rrun Try.prog (Instr.loadAt 3 v28) W0).bind fun v29 =>
  (bin .eql v29 (Value.int IntKind.i64 1)).bind fun v30 =>
  (asB v30).bind fun c30 =>
  if c30 then
    (nilV Try.prog m0).bind fun v32 =>
    (prun Try.prog (Instr.fieldAt 87 v32 3)).bind fun v33 =>
    (rrun Try.prog (Instr.loadAt 3 v33) W0).bind fun v34 =>
    (prun Try.prog (Builtin.len_ #[22] 3 #[b1])).bind fun v37 =>
    (bin .gtr v34 v37).bind fun v38 =>
    (asB v38).bind fun c38 =>
    (if c38 then
      (prun Try.prog (Builtin.len_ #[22] 3 #[b1])).bind fun v40 =>
      some (Res.norm [m0, b1, v40] W0)
     else
      some (Res.norm [m0, b1, v34] W0)).bind fun (r : Res) => r.cont fun vs W1 =>
    let m0_1 := nth vs 0
    let b1_1 := nth vs 1
    let n7 := nth vs 2
    ((nilV Try.prog m0_1).bind fun v43 =>
    some (v43, W1.drew)).bind fun r43 =>
    ((prun Try.prog (Instr.fieldAt 87 r43.1 0)).bind fun v44 =>
    some (v44, r43.2)).bind fun r44 =>
    ((rrun Try.prog (Instr.loadAt 22 r44.1) r44.2).bind fun v45 =>
    some (v45, r44.2)).bind fun r45 =>
    ((prun Try.prog (Instr.sliceAt 22 b1_1 none (some n7) none)).bind fun v48 =>
    some (v48, r45.2)).bind fun r48 =>
    ((erun Try.prog (Builtin.append_ #[22, 22] 22 #[r45.1, r48.1]) r48.2).bind fun r49_1 =>
    some (r49_1.1, r49_1.2)).bind fun r49 =>
    ((nilV Try.prog m0_1).bind fun v50 =>
    some (v50, r49.2)).bind fun r50 =>
    ((prun Try.prog (Instr.fieldAt 87 r50.1 0)).bind fun v51 =>
    some (v51, r50.2)).bind fun r51 =>
    ((erun Try.prog (Instr.storeAt 22 r51.1 r49.1) r51.2).bind fun r_1 =>
    some (undef, r_1.2)).bind fun r =>
    chkThen (True)
    ((nilV Try.prog m0_1).bind fun v53 =>
    (prun Try.prog (Instr.fieldAt 87 v53 1)).bind fun v54 =>
    (erun Try.prog (Instr.storeAt 4 v54 (Value.bool true)) r.2).bind fun r_2 =>
    (nilV Try.prog m0_1).bind fun v56 =>
    (prun Try.prog (Instr.fieldAt 87 v56 2)).bind fun v57 =>
    (erun Try.prog (Instr.storeAt 3 v57 (Value.int IntKind.i64 0)) r_2.2).bind fun r_3 =>
    some (Res.ret [(Value.int IntKind.i64 0), (Value.int IntKind.i64 152)] r_3.2))
  else
  (nilV Try.prog m0).bind fun v59 =>
  (prun Try.prog (Instr.fieldAt 87 v59 2)).bind fun v60 =>
  (rrun Try.prog (Instr.loadAt 3 v60) W0).bind fun v61 =>
  (bin .gtr v61 (Value.int IntKind.i64 1)).bind fun v62 =>
  (asB v62).bind fun c62 =>
  (if c62 then
    (nilV Try.prog m0).bind fun v64 =>
    (prun Try.prog (Instr.fieldAt 87 v64 2)).bind fun v65 =>
    (rrun Try.prog (Instr.loadAt 3 v65) W0).bind fun v66 =>
    (bin .sub v66 (Value.int IntKind.i64 1)).bind fun v67 =>
    (nilV Try.prog m0).bind fun v68 =>
    (prun Try.prog (Instr.fieldAt 87 v68 2)).bind fun v69 =>
    (erun Try.prog (Instr.storeAt 3 v69 v67) W0).bind fun r_4 =>
    some (Res.norm [m0, b1, v25] r_4.2)
   else
    some (Res.norm [m0, b1, v25] W0)).bind fun (r : Res) => r.cont fun vs_1 W2 =>
  let m0_2 := nth vs_1 0
  let b1_2 := nth vs_1 1
  let at6 := nth vs_1 2
  (nilV Try.prog m0_2).bind fun v72 =>
  (prun Try.prog (Instr.fieldAt 87 v72 0)).bind fun v73 =>
  (rrun Try.prog (Instr.loadAt 22 v73) W2).bind fun v74 =>
  (erun Try.prog (Builtin.append_ #[22, 22] 22 #[v74, b1_2]) W2).bind fun r76 =>
  (nilV Try.prog m0_2).bind fun v77 =>
  (prun Try.prog (Instr.fieldAt 87 v77 0)).bind fun v78 =>
  (erun Try.prog (Instr.storeAt 22 v78 r76.1) r76.2).bind fun r_5 =>
  some (Res.ret [at6, (Value.int IntKind.i64 0)] r_5.2)).bind Res.done
theorem f35.eq (call dfr : CallF) (m0 : Value) (b1 : Value) (W0 : World) : aFun Try.prog call dfr Try.f35 f35.ann (ofArgs #[m0, b1]) W0 = f35 call m0 b1 W0 := by kernel_rfl

/-- (*dailies/dailiesref15.Medium).Arm -/
def f36.ann : Ann := (.s .z (.s (.s .z (.c (.s .z .z) .z)) (.s (.s .z (.c (.s .z .z) .z)) (.s .z (.s .z (.s .z .z))))))
noncomputable def f36 (call : CallF) (m0 : Value) (n1 : Value) (keep2 : Value) (W0 : World) : Option (Value × World) :=
  ((nilV Try.prog m0).bind fun v8 =>
  (prun Try.prog (Instr.fieldAt 87 v8 1)).bind fun v9 =>
  (rrun Try.prog (Instr.loadAt 4 v9) W0).bind fun v10 =>
  (asB v10).bind fun c10 =>
  if c10 then
    some (Res.ret [(Value.int IntKind.i64 152)] W0)
  else
  (bin .lss n1 (Value.int IntKind.i64 0)).bind fun v12 =>
  (asB v12).bind fun b13 =>
  (if b13 = false then (bin .lss keep2 (Value.int IntKind.i64 0)).bind fun v15 =>
    some (v15, W0)
   else some ((Value.bool true), W0)).bind fun r16 =>
  (asB r16.1).bind fun c16 =>
  if c16 then
    some (Res.ret [(Value.int IntKind.i64 1)] r16.2)
  else
  (nilV Try.prog m0).bind fun v19 =>
  (prun Try.prog (Instr.fieldAt 87 v19 2)).bind fun v20 =>
  (erun Try.prog (Instr.storeAt 3 v20 n1) r16.2).bind fun r =>
  (nilV Try.prog m0).bind fun v23 =>
  (prun Try.prog (Instr.fieldAt 87 v23 3)).bind fun v24 =>
  (erun Try.prog (Instr.storeAt 3 v24 keep2) r.2).bind fun r_1 =>
  some (Res.ret [(Value.int IntKind.i64 0)] r_1.2)).bind Res.done
theorem f36.eq (call dfr : CallF) (m0 : Value) (n1 : Value) (keep2 : Value) (W0 : World) : aFun Try.prog call dfr Try.f36 f36.ann (ofArgs #[m0, n1, keep2]) W0 = f36 call m0 n1 keep2 W0 := by kernel_rfl

/-- (*dailies/dailiesref15.Medium).Revive -/
def f37.ann : Ann := (.s .z .z)
noncomputable def f37 (call : CallF) (m0 : Value) (W0 : World) : Option (Value × World) :=
  ((nilV Try.prog m0).bind fun v3 =>
  (prun Try.prog (Instr.fieldAt 87 v3 1)).bind fun v4 =>
  (erun Try.prog (Instr.storeAt 4 v4 (Value.bool false)) W0).bind fun r =>
  (nilV Try.prog m0).bind fun v6 =>
  (prun Try.prog (Instr.fieldAt 87 v6 2)).bind fun v7 =>
  (erun Try.prog (Instr.storeAt 3 v7 (Value.int IntKind.i64 0)) r.2).bind fun r_1 =>
  some (Res.norm [] r_1.2)).bind Res.done
theorem f37.eq (call dfr : CallF) (m0 : Value) (W0 : World) : aFun Try.prog call dfr Try.f37 f37.ann (ofArgs #[m0]) W0 = f37 call m0 W0 := by kernel_rfl

/-- (*dailies/medium.Medium).Overwrite -/
def f38.ann : Ann := (.s .z (.s .z (.s .z (.s (.s .z (.c (.s .z .z) .z)) (.s .z (.s .z .z))))))
noncomputable def f38 (call dfr : CallF) (m0 : Value) (at1 : Value) (b2 : Value) (W0 : World) : Option (Value × World) :=
  ((nilV Try.prog m0).bind fun v8 =>
  (prun Try.prog (Instr.fieldAt 80 v8 0)).bind fun v9 =>
  (call 27 #[v9] W0).bind fun r10 =>
  (nilV Try.prog m0).bind fun v12 =>
  (prun Try.prog (Instr.fieldAt 80 v12 0)).bind fun v13 =>
  ((prun Try.prog (Builtin.len_ #[22] 3 #[b2])).bind fun v16 =>
  (nilV Try.prog m0).bind fun v18 =>
  (prun Try.prog (Instr.fieldAt 80 v18 1)).bind fun v19 =>
  (rrun Try.prog (Instr.loadAt 22 v19) r10.2).bind fun v20 =>
  (prun Try.prog (Builtin.len_ #[22] 3 #[v20])).bind fun v21 =>
  (call 29 #[at1, v16, v21] r10.2).bind fun r22 =>
  (prun Try.prog (Op.unary .not r22.1)).bind fun v23 =>
  (asB v23).bind fun c23 =>
  if c23 then
    some (Res.ret [(Value.int IntKind.i64 151)] r22.2)
  else
  (nilV Try.prog m0).bind fun v25 =>
  (prun Try.prog (Instr.fieldAt 80 v25 1)).bind fun v26 =>
  (rrun Try.prog (Instr.loadAt 22 v26) r22.2).bind fun v27 =>
  (prun Try.prog (Instr.sliceAt 22 v27 (some at1) none none)).bind fun v29 =>
  (erun Try.prog (Builtin.copy_ #[22, 22] 3 #[v29, b2]) r22.2).bind fun r31 =>
  some (Res.ret [(Value.int IntKind.i64 0)] r31.2)).bind fun (r : Res) => r.after dfr 28 #[v13]).bind Res.done
theorem f38.eq (call dfr : CallF) (m0 : Value) (at1 : Value) (b2 : Value) (W0 : World) : aFun Try.prog call dfr Try.f38 f38.ann (ofArgs #[m0, at1, b2]) W0 = f38 call dfr m0 at1 b2 W0 := by kernel_rfl

/-- (*dailies/dailiesref15.Medium).Overwrite -/
def f39.ann : Ann := (.s .z (.s .z (.s (.s .z (.c (.s .z .z) .z)) (.s (.s .z (.b [] (.l [0, 1, 2, 8] (.s (.s .z (.c .z .z)) (.s (.b [0, 1, 2, 8] .z) .z))))) (.s .z .z)))))
noncomputable def f39.l0 (call : CallF) (vs : List Value) (W1 : World) : Option Res :=
  let m0_1 := nth vs 0
  let at1_1 := nth vs 1
  let b2_1 := nth vs 2
  let i8 := nth vs 3
  (prun Try.prog (Builtin.len_ #[22] 3 #[b2_1])).bind fun v22 =>
  (bin .lss i8 v22).bind fun v23 =>
  (asB v23).bind fun c23 =>
  if c23 then
    ((nilV Try.prog m0_1).bind fun v27 =>
    (prun Try.prog (Instr.fieldAt 87 v27 0)).bind fun v28 =>
    (rrun Try.prog (Instr.loadAt 22 v28) W1.drew).bind fun v29 =>
    (bin .add at1_1 i8).bind fun v32 =>
    (prun Try.prog (Instr.indexAt 22 b2_1 i8)).bind fun v35 =>
    (rrun Try.prog (Instr.loadAt 5 v35) W1.drew).bind fun v36 =>
    (prun Try.prog (Instr.indexAt 22 v29 v32)).bind fun v37 =>
    (erun Try.prog (Instr.storeAt 5 v37 v36) W1.drew).bind fun r =>
    some (Res.norm [m0_1, at1_1, b2_1, i8] r.2)).bind fun (r : Res) => (r.unblock 1).cont fun vs_1 W2 =>
    let m0_2 := nth vs_1 0
    let at1_2 := nth vs_1 1
    let b2_2 := nth vs_1 2
    let i8_1 := nth vs_1 3
    (bin .add i8_1 (Value.int IntKind.i64 1)).bind fun v25 =>
    some (Res.norm [m0_2, at1_2, b2_2, v25] W2)
  else
  some (Res.exit 0 [] W1)
noncomputable def f39 (call : CallF) (m0 : Value) (at1 : Value) (b2 : Value) (W0 : World) : Option (Value × World) :=
  ((prun Try.prog (Builtin.len_ #[22] 3 #[b2])).bind fun v11 =>
  (nilV Try.prog m0).bind fun v13 =>
  (prun Try.prog (Instr.fieldAt 87 v13 0)).bind fun v14 =>
  (rrun Try.prog (Instr.loadAt 22 v14) W0).bind fun v15 =>
  (prun Try.prog (Builtin.len_ #[22] 3 #[v15])).bind fun v16 =>
  (call 60 #[at1, v11, v16] W0).bind fun r17 =>
  (prun Try.prog (Op.unary .not r17.1)).bind fun v19 =>
  (asB v19).bind fun c19 =>
  if c19 then
    some (Res.ret [(Value.int IntKind.i64 151)] r17.2)
  else
  (iter (f39.l0 call) [m0, at1, b2, (Value.int IntKind.i64 0)] r17.2).bind fun (r : Res) => (r.unblock 0).cont fun vs_2 W3 =>
  some (Res.ret [(Value.int IntKind.i64 0)] W3)).bind Res.done
theorem f39.eq (call dfr : CallF) (m0 : Value) (at1 : Value) (b2 : Value) (W0 : World) : aFun Try.prog call dfr Try.f39 f39.ann (ofArgs #[m0, at1, b2]) W0 = f39 call m0 at1 b2 W0 := by kernel_rfl

/-- (*dailies/medium.Medium).Truncate -/
def f40.ann : Ann := (.s .z (.s .z (.s .z (.s (.s .z (.c (.s .z .z) .z)) (.s .z (.s .z .z))))))
noncomputable def f40 (call dfr : CallF) (m0 : Value) (n1 : Value) (W0 : World) : Option (Value × World) :=
  ((nilV Try.prog m0).bind fun v6 =>
  (prun Try.prog (Instr.fieldAt 80 v6 0)).bind fun v7 =>
  (call 27 #[v7] W0).bind fun r8 =>
  (nilV Try.prog m0).bind fun v10 =>
  (prun Try.prog (Instr.fieldAt 80 v10 0)).bind fun v11 =>
  ((bin .lss n1 (Value.int IntKind.i64 0)).bind fun v13 =>
  (asB v13).bind fun b14 =>
  (if b14 = false then (nilV Try.prog m0).bind fun v17 =>
    (prun Try.prog (Instr.fieldAt 80 v17 1)).bind fun v18 =>
    (rrun Try.prog (Instr.loadAt 22 v18) r8.2).bind fun v19 =>
    (prun Try.prog (Builtin.len_ #[22] 3 #[v19])).bind fun v20 =>
    (bin .gtr n1 v20).bind fun v21 =>
    some (v21, r8.2)
   else some ((Value.bool true), r8.2)).bind fun r22 =>
  (asB r22.1).bind fun c22 =>
  if c22 then
    some (Res.ret [(Value.int IntKind.i64 151)] r22.2)
  else
  (nilV Try.prog m0).bind fun v25 =>
  (prun Try.prog (Instr.fieldAt 80 v25 1)).bind fun v26 =>
  (rrun Try.prog (Instr.loadAt 22 v26) r22.2).bind fun v27 =>
  (prun Try.prog (Instr.sliceAt 22 v27 none (some n1) none)).bind fun v29 =>
  (nilV Try.prog m0).bind fun v30 =>
  (prun Try.prog (Instr.fieldAt 80 v30 1)).bind fun v31 =>
  (erun Try.prog (Instr.storeAt 22 v31 v29) r22.2).bind fun r =>
  some (Res.ret [(Value.int IntKind.i64 0)] r.2)).bind fun (r : Res) => r.after dfr 28 #[v11]).bind Res.done
theorem f40.eq (call dfr : CallF) (m0 : Value) (n1 : Value) (W0 : World) : aFun Try.prog call dfr Try.f40 f40.ann (ofArgs #[m0, n1]) W0 = f40 call dfr m0 n1 W0 := by kernel_rfl

/-- (*dailies/dailiesref15.Medium).Truncate -/
def f41.ann : Ann := (.s .z (.s (.s .z (.c (.s .z .z) .z)) (.s .z (.s .z .z))))
noncomputable def f41 (call : CallF) (m0 : Value) (n1 : Value) (W0 : World) : Option (Value × World) :=
  ((bin .lss n1 (Value.int IntKind.i64 0)).bind fun v6 =>
  (asB v6).bind fun b7 =>
  (if b7 = false then (nilV Try.prog m0).bind fun v10 =>
    (prun Try.prog (Instr.fieldAt 87 v10 0)).bind fun v11 =>
    (rrun Try.prog (Instr.loadAt 22 v11) W0).bind fun v12 =>
    (prun Try.prog (Builtin.len_ #[22] 3 #[v12])).bind fun v13 =>
    (bin .gtr n1 v13).bind fun v14 =>
    some (v14, W0)
   else some ((Value.bool true), W0)).bind fun r15 =>
  (asB r15.1).bind fun c15 =>
  if c15 then
    some (Res.ret [(Value.int IntKind.i64 151)] r15.2)
  else
  (erun Try.prog (Instr.buildSlice 22 0 #[]) r15.2).bind fun r17 =>
  (nilV Try.prog m0).bind fun v19 =>
  (prun Try.prog (Instr.fieldAt 87 v19 0)).bind fun v20 =>
  (rrun Try.prog (Instr.loadAt 22 v20) r17.2).bind fun v21 =>
  (prun Try.prog (Instr.sliceAt 22 v21 none (some n1) none)).bind fun v23 =>
  (erun Try.prog (Builtin.append_ #[22, 22] 22 #[r17.1, v23]) r17.2).bind fun r24 =>
  (nilV Try.prog m0).bind fun v25 =>
  (prun Try.prog (Instr.fieldAt 87 v25 0)).bind fun v26 =>
  (erun Try.prog (Instr.storeAt 22 v26 r24.1) r24.2).bind fun r =>
  some (Res.ret [(Value.int IntKind.i64 0)] r.2)).bind Res.done
theorem f41.eq (call dfr : CallF) (m0 : Value) (n1 : Value) (W0 : World) : aFun Try.prog call dfr Try.f41 f41.ann (ofArgs #[m0, n1]) W0 = f41 call m0 n1 W0 := by kernel_rfl

/-- (*dailies/dailiesref15.Medium).Forget -/
def f42.ann : Ann := .z
noncomputable def f42 (call : CallF) (m0 : Value) (W0 : World) : Option (Value × World) :=
  ((nilV Try.prog m0).bind fun v3 =>
  (prun Try.prog (Instr.fieldAt 87 v3 4)).bind fun v4 =>
  (erun Try.prog (Instr.storeAt 41 v4 (Value.slice none 0 0)) W0).bind fun r =>
  some (Res.norm [] r.2)).bind Res.done
theorem f42.eq (call dfr : CallF) (m0 : Value) (W0 : World) : aFun Try.prog call dfr Try.f42 f42.ann (ofArgs #[m0]) W0 = f42 call m0 W0 := by kernel_rfl

/-- (*dailies/dailiesref15.Medium).Piece -/
def f43.ann : Ann := (.s .z (.s .z (.s (.s .z (.c (.s .z .z) .z)) (.s .z .z))))
noncomputable def f43 (call : CallF) (m0 : Value) (s1 : Value) (W0 : World) : Option (Value × World) :=
  ((erun Try.prog (Instr.box 40 s1) W0).bind fun r3 =>
  (prun Try.prog (Instr.fieldAt 40 r3.1 0)).bind fun v7 =>
  (rrun Try.prog (Instr.loadAt 3 v7) r3.2.drew).bind fun v8 =>
  (prun Try.prog (Instr.fieldAt 40 r3.1 1)).bind fun v9 =>
  (rrun Try.prog (Instr.loadAt 3 v9) r3.2.drew).bind fun v10 =>
  (nilV Try.prog m0).bind fun v12 =>
  (prun Try.prog (Instr.fieldAt 87 v12 0)).bind fun v13 =>
  (rrun Try.prog (Instr.loadAt 22 v13) r3.2.drew).bind fun v14 =>
  (prun Try.prog (Builtin.len_ #[22] 3 #[v14])).bind fun v15 =>
  (call 60 #[v8, v10, v15] r3.2.drew).bind fun r16 =>
  (prun Try.prog (Op.unary .not r16.1)).bind fun v18 =>
  (asB v18).bind fun c18 =>
  if c18 then
    some (Res.ret [(Value.pointer none), (Value.int IntKind.i64 151)] r16.2)
  else
  (rrun Try.prog (Instr.loadAt 40 r3.1) r16.2).bind fun v20 =>
  (prun Try.prog (Instr.build 104 #[(0, m0), (1, v20)])).bind fun v21 =>
  (erun Try.prog (Instr.box 104 v21) r16.2).bind fun r22 =>
  some (Res.ret [r22.1, (Value.int IntKind.i64 0)] r22.2)).bind Res.done
theorem f43.eq (call dfr : CallF) (m0 : Value) (s1 : Value) (W0 : World) : aFun Try.prog call dfr Try.f43 f43.ann (ofArgs #[m0, s1]) W0 = f43 call m0 s1 W0 := by kernel_rfl

/-- dailies/dailiesref15.Load -/
def f44.ann : Ann := (.s .z (.s (.s .z (.c (.s .z .z) .z)) (.s .z .z)))
noncomputable def f44 (call : CallF) (b0 : Value) (W0 : World) : Option (Value × World) :=
  ((prun Try.prog (Builtin.len_ #[22] 3 #[b0])).bind fun v5 =>
  (bin .gtr v5 (Value.int IntKind.i64 268435456)).bind fun v6 =>
  (asB v6).bind fun c6 =>
  if c6 then
    some (Res.ret [(Value.pointer none), (Value.int IntKind.i64 153)] W0)
  else
  (erun Try.prog (Instr.buildSlice 22 0 #[]) W0).bind fun r7 =>
  (erun Try.prog (Builtin.append_ #[22, 22] 22 #[r7.1, b0]) r7.2).bind fun r9 =>
  (prun Try.prog (Instr.build 87 #[(0, r9.1)])).bind fun v10 =>
  (erun Try.prog (Instr.box 87 v10) r9.2).bind fun r11 =>
  some (Res.ret [r11.1, (Value.int IntKind.i64 0)] r11.2)).bind Res.done
theorem f44.eq (call dfr : CallF) (b0 : Value) (W0 : World) : aFun Try.prog call dfr Try.f44 f44.ann (ofArgs #[b0]) W0 = f44 call b0 W0 := by kernel_rfl

/-- dailies/dailieslaw15.spent -/
def f45.ann : Ann := (.s .z (.s .z (.s (.s .z (.b [5] (.l [0, 1, 5, 6] (.s (.s .z (.c .z .z)) (.s (.b [0, 1, 5, 6] (.s .z .z)) .z))))) (.s .z .z))))
noncomputable def f45.l0 (call : CallF) (vs : List Value) (W1 : World) : Option Res :=
  let c0_1 := nth vs 0
  let b1_1 := nth vs 1
  let ok5 := nth vs 2
  let i6 := nth vs 3
  (prun Try.prog (Builtin.len_ #[22] 3 #[c0_1])).bind fun v9 =>
  (bin .lss i6 v9).bind fun v10 =>
  (asB v10).bind fun c10 =>
  if c10 then
    ((asB ok5).bind fun b14 =>
    (if b14 = true then (prun Try.prog (Builtin.len_ #[22] 3 #[b1_1])).bind fun v17 =>
      (bin .lss i6 v17).bind fun v18 =>
      (asB v18).bind fun b19 =>
      (if b19 = true then (prun Try.prog (Instr.indexAt 22 c0_1 i6)).bind fun v22 =>
        (rrun Try.prog (Instr.loadAt 5 v22) W1.drew).bind fun v23 =>
        (prun Try.prog (Instr.indexAt 22 b1_1 i6)).bind fun v26 =>
        (rrun Try.prog (Instr.loadAt 5 v26) W1.drew).bind fun v27 =>
        (bin .eql v23 v27).bind fun v28 =>
        some (v28, W1.drew)
       else some ((Value.bool false), W1.drew)).bind fun r29 =>
      (asB r29.1).bind fun b30 =>
      (if b30 = false then (prun Try.prog (Builtin.len_ #[22] 3 #[b1_1])).bind fun v33 =>
        (bin .geq i6 v33).bind fun v34 =>
        (asB v34).bind fun b35 =>
        (if b35 = true then (prun Try.prog (Instr.indexAt 22 c0_1 i6)).bind fun v38 =>
          (rrun Try.prog (Instr.loadAt 5 v38) r29.2).bind fun v39 =>
          (bin .eql v39 (Value.int IntKind.u8 201)).bind fun v40 =>
          some (v40, r29.2)
         else some ((Value.bool false), r29.2)).bind fun r41 =>
        some (r41.1, r41.2)
       else some ((Value.bool true), r29.2)).bind fun r42 =>
      some (r42.1, r42.2)
     else some ((Value.bool false), W1.drew)).bind fun r43 =>
    (prun Try.prog (Instr.indexAt 22 c0_1 i6)).bind fun v46 =>
    (erun Try.prog (Instr.storeAt 5 v46 (Value.int IntKind.u8 77)) r43.2).bind fun r =>
    some (Res.norm [c0_1, b1_1, r43.1, i6] r.2)).bind fun (r : Res) => (r.unblock 1).cont fun vs_1 W2 =>
    let c0_2 := nth vs_1 0
    let b1_2 := nth vs_1 1
    let ok5_1 := nth vs_1 2
    let i6_1 := nth vs_1 3
    (bin .add i6_1 (Value.int IntKind.i64 1)).bind fun v12 =>
    some (Res.norm [c0_2, b1_2, ok5_1, v12] W2)
  else
  some (Res.exit 0 [ok5] W1)
noncomputable def f45 (call : CallF) (c0 : Value) (b1 : Value) (W0 : World) : Option (Value × World) :=
  ((iter (f45.l0 call) [c0, b1, (Value.bool true), (Value.int IntKind.i64 0)] W0).bind fun (r : Res) => (r.unblock 0).cont fun vs_2 W3 =>
  let ok5_2 := nth vs_2 0
  some (Res.ret [ok5_2] W3)).bind Res.done
theorem f45.eq (call dfr : CallF) (c0 : Value) (b1 : Value) (W0 : World) : aFun Try.prog call dfr Try.f45 f45.ann (ofArgs #[c0, b1]) W0 = f45 call c0 b1 W0 := by kernel_rfl

/-- (*dailies/dailiesref15.Medium).Size -/
def f46.ann : Ann := (.s .z (.s .z .z))
noncomputable def f46 (call : CallF) (m0 : Value) (W0 : World) : Option (Value × World) :=
  ((nilV Try.prog m0).bind fun v4 =>
  (prun Try.prog (Instr.fieldAt 87 v4 0)).bind fun v5 =>
  (rrun Try.prog (Instr.loadAt 22 v5) W0).bind fun v6 =>
  (prun Try.prog (Builtin.len_ #[22] 3 #[v6])).bind fun v7 =>
  some (Res.ret [v7] W0)).bind Res.done
theorem f46.eq (call dfr : CallF) (m0 : Value) (W0 : World) : aFun Try.prog call dfr Try.f46 f46.ann (ofArgs #[m0]) W0 = f46 call m0 W0 := by kernel_rfl

/-- (*dailies/dailiesref15.Medium).Dead -/
def f47.ann : Ann := (.s .z (.s .z .z))
noncomputable def f47 (call : CallF) (m0 : Value) (W0 : World) : Option (Value × World) :=
  ((nilV Try.prog m0).bind fun v4 =>
  (prun Try.prog (Instr.fieldAt 87 v4 1)).bind fun v5 =>
  (rrun Try.prog (Instr.loadAt 4 v5) W0).bind fun v6 =>
  some (Res.ret [v6] W0)).bind Res.done
theorem f47.eq (call dfr : CallF) (m0 : Value) (W0 : World) : aFun Try.prog call dfr Try.f47 f47.ann (ofArgs #[m0]) W0 = f47 call m0 W0 := by kernel_rfl

/-- (*dailies/dailiesref15.Medium).Read -/
def f48.ann : Ann := (.s .z (.s (.s .z (.c (.s .z .z) .z)) (.s .z (.s (.s .z (.c (.s .z .z) .z)) (.s .z (.s .z .z))))))
noncomputable def f48 (call : CallF) (m0 : Value) (at1 : Value) (n2 : Value) (W0 : World) : Option (Value × World) :=
  ((nilV Try.prog m0).bind fun v10 =>
  (prun Try.prog (Instr.fieldAt 87 v10 1)).bind fun v11 =>
  (rrun Try.prog (Instr.loadAt 4 v11) W0).bind fun v12 =>
  (asB v12).bind fun c12 =>
  if c12 then
    some (Res.ret [(Value.slice none 0 0), (Value.int IntKind.i64 152)] W0)
  else
  (nilV Try.prog m0).bind fun v16 =>
  (prun Try.prog (Instr.fieldAt 87 v16 0)).bind fun v17 =>
  (rrun Try.prog (Instr.loadAt 22 v17) W0).bind fun v18 =>
  (prun Try.prog (Builtin.len_ #[22] 3 #[v18])).bind fun v19 =>
  (call 60 #[at1, n2, v19] W0).bind fun r20 =>
  (prun Try.prog (Op.unary .not r20.1)).bind fun v22 =>
  (asB v22).bind fun c22 =>
  if c22 then
    some (Res.ret [(Value.slice none 0 0), (Value.int IntKind.i64 151)] r20.2)
  else
  (nilV Try.prog m0).bind fun v25 =>
  (prun Try.prog (Instr.fieldAt 87 v25 4)).bind fun v26 =>
  (rrun Try.prog (Instr.loadAt 41 v26) r20.2).bind fun v27 =>
  (prun Try.prog (Instr.build 40 #[(0, at1), (1, n2)])).bind fun v30 =>
  (erun Try.prog (Instr.buildSlice 41 1 #[(0, v30)]) r20.2).bind fun r31 =>
  (erun Try.prog (Builtin.append_ #[41, 41] 41 #[v27, r31.1]) r31.2).bind fun r32 =>
  (nilV Try.prog m0).bind fun v33 =>
  (prun Try.prog (Instr.fieldAt 87 v33 4)).bind fun v34 =>
  (erun Try.prog (Instr.storeAt 41 v34 r32.1) r32.2).bind fun r =>
  (erun Try.prog (Instr.buildSlice 22 0 #[]) r.2).bind fun r35 =>
  (nilV Try.prog m0).bind fun v37 =>
  (prun Try.prog (Instr.fieldAt 87 v37 0)).bind fun v38 =>
  (rrun Try.prog (Instr.loadAt 22 v38) r35.2).bind fun v39 =>
  (bin .add at1 n2).bind fun v43 =>
  (prun Try.prog (Instr.sliceAt 22 v39 (some at1) (some v43) none)).bind fun v44 =>
  (erun Try.prog (Builtin.append_ #[22, 22] 22 #[r35.1, v44]) r35.2).bind fun r45 =>
  some (Res.ret [r45.1, (Value.int IntKind.i64 0)] r45.2)).bind Res.done
theorem f48.eq (call dfr : CallF) (m0 : Value) (at1 : Value) (n2 : Value) (W0 : World) : aFun Try.prog call dfr Try.f48 f48.ann (ofArgs #[m0, at1, n2]) W0 = f48 call m0 at1 n2 W0 := by kernel_rfl

/-- (*dailies/dailieslaw15.Book).held -/
def f49.ann : Ann := (.s .z (.s .z (.s .z (.s .z (.s .z (.s .z .z))))))
noncomputable def f49 (call : CallF) (b0 : Value) (x1 : Value) (want2 : Value) (W0 : World) : Option (Value × World) :=
  ((nilV Try.prog b0).bind fun v9 =>
  (prun Try.prog (Instr.fieldAt 59 v9 4)).bind fun v10 =>
  (rrun Try.prog (Instr.loadAt 22 v10) W0.drew).bind fun v11 =>
  (rrun Try.prog (convert 22 9 v11) W0.drew).bind fun v12 =>
  (nilV Try.prog b0).bind fun v14 =>
  (prun Try.prog (Instr.fieldAt 59 v14 5)).bind fun v15 =>
  (rrun Try.prog (Instr.loadAt 22 v15) W0.drew).bind fun v16 =>
  (rrun Try.prog (convert 22 9 v16) W0.drew).bind fun v17 =>
  (prun Try.prog (do eqGuard .eql 9 (Operand.tmp 12) (Operand.tmp 17) v12 v17; binOp .eql 9 v12 v17)).bind fun v18 =>
  (nilV Try.prog b0).bind fun v21 =>
  (prun Try.prog (Instr.fieldAt 59 v21 4)).bind fun v22 =>
  (rrun Try.prog (Instr.loadAt 22 v22) W0.drew).bind fun v23 =>
  (call 51 #[b0, v23] W0.drew).bind fun r24 =>
  (nilV Try.prog b0).bind fun v27 =>
  (prun Try.prog (Instr.fieldAt 59 v27 4)).bind fun v28 =>
  (erun Try.prog (Instr.storeAt 22 v28 x1) r24.2).bind fun r =>
  (nilV Try.prog b0).bind fun v31 =>
  (prun Try.prog (Instr.fieldAt 59 v31 5)).bind fun v32 =>
  (erun Try.prog (Instr.storeAt 22 v32 want2) r.2).bind fun r_1 =>
  some (Res.ret [v18] r_1.2)).bind Res.done
theorem f49.eq (call dfr : CallF) (b0 : Value) (x1 : Value) (want2 : Value) (W0 : World) : aFun Try.prog call dfr Try.f49 f49.ann (ofArgs #[b0, x1, want2]) W0 = f49 call b0 x1 want2 W0 := by kernel_rfl

/-- (*dailies/dailiesref15.Medium).Bytes -/
def f50.ann : Ann := (.s .z (.s .z .z))
noncomputable def f50 (call : CallF) (m0 : Value) (W0 : World) : Option (Value × World) :=
  ((erun Try.prog (Instr.buildSlice 22 0 #[]) W0).bind fun r3 =>
  (nilV Try.prog m0).bind fun v5 =>
  (prun Try.prog (Instr.fieldAt 87 v5 0)).bind fun v6 =>
  (rrun Try.prog (Instr.loadAt 22 v6) r3.2).bind fun v7 =>
  (erun Try.prog (Builtin.append_ #[22, 22] 22 #[r3.1, v7]) r3.2).bind fun r8 =>
  some (Res.ret [r8.1] r8.2)).bind Res.done
theorem f50.eq (call dfr : CallF) (m0 : Value) (W0 : World) : aFun Try.prog call dfr Try.f50 f50.ann (ofArgs #[m0]) W0 = f50 call m0 W0 := by kernel_rfl

/-- (*dailies/dailieslaw15.Book).take -/
def f51.ann : Ann := .z
noncomputable def f51 (call : CallF) (b0 : Value) (x1 : Value) (W0 : World) : Option (Value × World) :=
  ((nilV Try.prog b0).bind fun v6 =>
  (prun Try.prog (Instr.fieldAt 59 v6 2)).bind fun v7 =>
  (rrun Try.prog (Instr.loadAt 50 v7) W0).bind fun v8 =>
  (erun Try.prog (Instr.buildSlice 50 1 #[(0, x1)]) W0).bind fun r10 =>
  (erun Try.prog (Builtin.append_ #[50, 50] 50 #[v8, r10.1]) r10.2).bind fun r11 =>
  (nilV Try.prog b0).bind fun v12 =>
  (prun Try.prog (Instr.fieldAt 59 v12 2)).bind fun v13 =>
  (erun Try.prog (Instr.storeAt 50 v13 r11.1) r11.2).bind fun r =>
  some (Res.norm [] r.2)).bind Res.done
theorem f51.eq (call dfr : CallF) (b0 : Value) (x1 : Value) (W0 : World) : aFun Try.prog call dfr Try.f51 f51.ann (ofArgs #[b0, x1]) W0 = f51 call b0 x1 W0 := by kernel_rfl

/-- (*dailies/dailiesref15.Medium).Log -/
def f52.ann : Ann := (.s .z (.s .z .z))
noncomputable def f52 (call : CallF) (m0 : Value) (W0 : World) : Option (Value × World) :=
  ((erun Try.prog (Instr.buildSlice 41 0 #[]) W0).bind fun r3 =>
  (nilV Try.prog m0).bind fun v5 =>
  (prun Try.prog (Instr.fieldAt 87 v5 4)).bind fun v6 =>
  (rrun Try.prog (Instr.loadAt 41 v6) r3.2).bind fun v7 =>
  (erun Try.prog (Builtin.append_ #[41, 41] 41 #[r3.1, v7]) r3.2).bind fun r8 =>
  some (Res.ret [r8.1] r8.2)).bind Res.done
theorem f52.eq (call dfr : CallF) (m0 : Value) (W0 : World) : aFun Try.prog call dfr Try.f52 f52.ann (ofArgs #[m0]) W0 = f52 call m0 W0 := by kernel_rfl

/-- (*dailies/dailieslaw15.Book).tells -/
def f53.ann : Ann := .z
noncomputable def f53 (call : CallF) (b0 : Value) (x1 : Value) (W0 : World) : Option (Value × World) :=
  ((nilV Try.prog b0).bind fun v6 =>
  (prun Try.prog (Instr.fieldAt 59 v6 3)).bind fun v7 =>
  (rrun Try.prog (Instr.loadAt 57 v7) W0).bind fun v8 =>
  (erun Try.prog (Instr.buildSlice 57 1 #[(0, x1)]) W0).bind fun r10 =>
  (erun Try.prog (Builtin.append_ #[57, 57] 57 #[v8, r10.1]) r10.2).bind fun r11 =>
  (nilV Try.prog b0).bind fun v12 =>
  (prun Try.prog (Instr.fieldAt 59 v12 3)).bind fun v13 =>
  (erun Try.prog (Instr.storeAt 57 v13 r11.1) r11.2).bind fun r =>
  some (Res.norm [] r.2)).bind Res.done
theorem f53.eq (call dfr : CallF) (b0 : Value) (x1 : Value) (W0 : World) : aFun Try.prog call dfr Try.f53 f53.ann (ofArgs #[b0, x1]) W0 = f53 call b0 x1 W0 := by kernel_rfl

/-- (*dailies/dailieslaw15.Book).heldSpans -/
def f54.ann : Ann := (.s .z (.s .z (.s .z (.s .z (.s .z (.s .z .z))))))
noncomputable def f54 (call : CallF) (b0 : Value) (x1 : Value) (want2 : Value) (W0 : World) : Option (Value × World) :=
  ((nilV Try.prog b0).bind fun v9 =>
  (prun Try.prog (Instr.fieldAt 59 v9 6)).bind fun v10 =>
  (rrun Try.prog (Instr.loadAt 41 v10) W0.drew).bind fun v11 =>
  (nilV Try.prog b0).bind fun v13 =>
  (prun Try.prog (Instr.fieldAt 59 v13 7)).bind fun v14 =>
  (rrun Try.prog (Instr.loadAt 41 v14) W0.drew).bind fun v15 =>
  (call 19 #[v11, v15] W0.drew).bind fun r16 =>
  (nilV Try.prog b0).bind fun v19 =>
  (prun Try.prog (Instr.fieldAt 59 v19 6)).bind fun v20 =>
  (rrun Try.prog (Instr.loadAt 41 v20) r16.2).bind fun v21 =>
  (call 53 #[b0, v21] r16.2).bind fun r22 =>
  (nilV Try.prog b0).bind fun v25 =>
  (prun Try.prog (Instr.fieldAt 59 v25 6)).bind fun v26 =>
  (erun Try.prog (Instr.storeAt 41 v26 x1) r22.2).bind fun r =>
  (nilV Try.prog b0).bind fun v29 =>
  (prun Try.prog (Instr.fieldAt 59 v29 7)).bind fun v30 =>
  (erun Try.prog (Instr.storeAt 41 v30 want2) r.2).bind fun r_1 =>
  some (Res.ret [r16.1] r_1.2)).bind Res.done
theorem f54.eq (call dfr : CallF) (b0 : Value) (x1 : Value) (want2 : Value) (W0 : World) : aFun Try.prog call dfr Try.f54 f54.ann (ofArgs #[b0, x1, want2]) W0 = f54 call b0 x1 want2 W0 := by kernel_rfl

/-- (*dailies/dailiesref15.Piece).Read -/
def f55.ann : Ann := (.s .z (.s (.s .z (.c (.s .z .z) .z)) (.s .z (.s (.s .z (.c (.s .z .z) .z)) (.s .z .z)))))
noncomputable def f55 (call : CallF) (p0 : Value) (at1 : Value) (n2 : Value) (W0 : World) : Option (Value × World) :=
  ((nilV Try.prog p0).bind fun v10 =>
  (prun Try.prog (Instr.fieldAt 104 v10 0)).bind fun v11 =>
  (rrun Try.prog (Instr.loadAt 61 v11) W0).bind fun v12 =>
  (nilV Try.prog v12).bind fun v13 =>
  (prun Try.prog (Instr.fieldAt 87 v13 1)).bind fun v14 =>
  (rrun Try.prog (Instr.loadAt 4 v14) W0).bind fun v15 =>
  (asB v15).bind fun c15 =>
  if c15 then
    some (Res.ret [(Value.slice none 0 0), (Value.int IntKind.i64 152)] W0)
  else
  (nilV Try.prog p0).bind fun v19 =>
  (prun Try.prog (Instr.fieldAt 104 v19 1)).bind fun v20 =>
  (prun Try.prog (Instr.fieldAt 40 v20 1)).bind fun v21 =>
  (rrun Try.prog (Instr.loadAt 3 v21) W0).bind fun v22 =>
  (call 60 #[at1, n2, v22] W0).bind fun r23 =>
  (prun Try.prog (Op.unary .not r23.1)).bind fun v25 =>
  (asB v25).bind fun c25 =>
  if c25 then
    some (Res.ret [(Value.slice none 0 0), (Value.int IntKind.i64 151)] r23.2)
  else
  ((nilV Try.prog p0).bind fun v27 =>
  some (v27, r23.2.drew)).bind fun r27 =>
  ((prun Try.prog (Instr.fieldAt 104 r27.1 0)).bind fun v28 =>
  some (v28, r27.2)).bind fun r28 =>
  ((rrun Try.prog (Instr.loadAt 61 r28.1) r28.2).bind fun v29 =>
  some (v29, r28.2)).bind fun r29 =>
  ((nilV Try.prog p0).bind fun v31 =>
  some (v31, r29.2)).bind fun r31 =>
  ((prun Try.prog (Instr.fieldAt 104 r31.1 1)).bind fun v32 =>
  some (v32, r31.2)).bind fun r32 =>
  ((prun Try.prog (Instr.fieldAt 40 r32.1 0)).bind fun v33 =>
  some (v33, r32.2)).bind fun r33 =>
  ((rrun Try.prog (Instr.loadAt 3 r33.1) r33.2).bind fun v34 =>
  some (v34, r33.2)).bind fun r34 =>
  ((bin .add r34.1 at1).bind fun v36 =>
  some (v36, r34.2)).bind fun r36 =>
  ((call 48 #[r29.1, r36.1, n2] r36.2).bind fun r38_1 =>
  some (r38_1.1, r38_1.2)).bind fun r38 =>
  ((prun Try.prog (Instr.extract r38.1 0)).bind fun v39 =>
  some (v39, r38.2)).bind fun r39 =>
  ((prun Try.prog (Instr.extract r38.1 1)).bind fun v40 =>
  some (v40, r39.2)).bind fun r40 =>
  chkThen (True)
  (some (Res.ret [r39.1, r40.1] r40.2))).bind Res.done
theorem f55.eq (call dfr : CallF) (p0 : Value) (at1 : Value) (n2 : Value) (W0 : World) : aFun Try.prog call dfr Try.f55 f55.ann (ofArgs #[p0, at1, n2]) W0 = f55 call p0 at1 n2 W0 := by kernel_rfl

/-- (*dailies/dailiesref15.Piece).Size -/
def f56.ann : Ann := (.s .z (.s .z .z))
noncomputable def f56 (call : CallF) (p0 : Value) (W0 : World) : Option (Value × World) :=
  ((nilV Try.prog p0).bind fun v4 =>
  (prun Try.prog (Instr.fieldAt 104 v4 1)).bind fun v5 =>
  (prun Try.prog (Instr.fieldAt 40 v5 1)).bind fun v6 =>
  (rrun Try.prog (Instr.loadAt 3 v6) W0).bind fun v7 =>
  some (Res.ret [v7] W0)).bind Res.done
theorem f56.eq (call dfr : CallF) (p0 : Value) (W0 : World) : aFun Try.prog call dfr Try.f56 f56.ann (ofArgs #[p0]) W0 = f56 call p0 W0 := by kernel_rfl

/-- (*dailies/dailieslaw15.Book).looks -/
def f57.ann : Ann := (.s .z (.s (.s .z (.b [0] (.l [0, 3] (.s (.s .z (.c .z .z)) (.s (.b [0, 3] (.s .z (.b [0, 3] (.l [0, 3, 4] (.s (.s .z (.c .z .z)) (.s (.b [0, 3, 4] (.s .z (.c (.s .z .z) .z))) .z)))))) .z))))) (.s (.s .z (.b [] (.l [0, 5] (.s (.s .z (.c .z .z)) (.s (.b [0, 5] (.s .z (.b [0, 5] (.l [0, 5, 6] (.s (.s .z (.c .z .z)) (.s (.b [0, 5, 6] (.s .z (.c (.s .z .z) .z))) .z)))))) .z))))) (.s .z .z))))
noncomputable def f57.l0 (call : CallF) (vs_1 : List Value) (W2 : World) : Option Res :=
  let b0_2 := nth vs_1 0
  let i3_1 := nth vs_1 1
  let k4 := nth vs_1 2
  (nilV Try.prog b0_2).bind fun v18 =>
  (prun Try.prog (Instr.fieldAt 59 v18 0)).bind fun v19 =>
  (rrun Try.prog (Instr.loadAt 55 v19) W2).bind fun v20 =>
  (prun Try.prog (Instr.indexAt 55 v20 i3_1)).bind fun v22 =>
  (prun Try.prog (Instr.fieldAt 99 v22 0)).bind fun v23 =>
  (rrun Try.prog (Instr.loadAt 22 v23) W2).bind fun v24 =>
  (prun Try.prog (Builtin.len_ #[22] 3 #[v24])).bind fun v25 =>
  (bin .lss k4 v25).bind fun v26 =>
  (asB v26).bind fun c26 =>
  if c26 then
    ((nilV Try.prog b0_2).bind fun v30 =>
    (prun Try.prog (Instr.fieldAt 59 v30 0)).bind fun v31 =>
    (rrun Try.prog (Instr.loadAt 55 v31) W2.drew).bind fun v32 =>
    (prun Try.prog (Instr.indexAt 55 v32 i3_1)).bind fun v34 =>
    (prun Try.prog (Instr.fieldAt 99 v34 0)).bind fun v35 =>
    (rrun Try.prog (Instr.loadAt 22 v35) W2.drew).bind fun v36 =>
    (prun Try.prog (Instr.indexAt 22 v36 k4)).bind fun v38 =>
    (rrun Try.prog (Instr.loadAt 5 v38) W2.drew).bind fun v39 =>
    (nilV Try.prog b0_2).bind fun v41 =>
    (prun Try.prog (Instr.fieldAt 59 v41 0)).bind fun v42 =>
    (rrun Try.prog (Instr.loadAt 55 v42) W2.drew).bind fun v43 =>
    (prun Try.prog (Instr.indexAt 55 v43 i3_1)).bind fun v45 =>
    (prun Try.prog (Instr.fieldAt 99 v45 1)).bind fun v46 =>
    (rrun Try.prog (Instr.loadAt 5 v46) W2.drew).bind fun v47 =>
    (bin .neq v39 v47).bind fun v48 =>
    (asB v48).bind fun c48 =>
    if c48 then
      some (Res.ret [(Value.bool false)] W2.drew)
    else
    some (Res.norm [b0_2, i3_1, k4] W2.drew)).bind fun (r : Res) => (r.unblock 3).cont fun vs_2 W3 =>
    let b0_3 := nth vs_2 0
    let i3_2 := nth vs_2 1
    let k4_1 := nth vs_2 2
    (bin .add k4_1 (Value.int IntKind.i64 1)).bind fun v28 =>
    some (Res.norm [b0_3, i3_2, v28] W3)
  else
  some (Res.exit 2 [b0_2, i3_1] W2)
noncomputable def f57.l1 (call : CallF) (vs : List Value) (W1 : World) : Option Res :=
  let b0_1 := nth vs 0
  let i3 := nth vs 1
  (nilV Try.prog b0_1).bind fun v9 =>
  (prun Try.prog (Instr.fieldAt 59 v9 0)).bind fun v10 =>
  (rrun Try.prog (Instr.loadAt 55 v10) W1).bind fun v11 =>
  (prun Try.prog (Builtin.len_ #[55] 3 #[v11])).bind fun v12 =>
  (bin .lss i3 v12).bind fun v13 =>
  (asB v13).bind fun c13 =>
  if c13 then
    ((iter (f57.l0 call) [b0_1, i3, (Value.int IntKind.i64 0)] W1).bind fun (r : Res) => (r.unblock 2).cont fun vs_3 W4 =>
    let b0_4 := nth vs_3 0
    let i3_3 := nth vs_3 1
    some (Res.norm [b0_4, i3_3] W4)).bind fun (r : Res) => (r.unblock 1).cont fun vs_4 W5 =>
    let b0_5 := nth vs_4 0
    let i3_4 := nth vs_4 1
    (bin .add i3_4 (Value.int IntKind.i64 1)).bind fun v15 =>
    some (Res.norm [b0_5, v15] W5)
  else
  some (Res.exit 0 [b0_1] W1)
noncomputable def f57.l2 (call : CallF) (vs_7 : List Value) (W8 : World) : Option Res :=
  let b0_8 := nth vs_7 0
  let i5_1 := nth vs_7 1
  let k6 := nth vs_7 2
  (nilV Try.prog b0_8).bind fun v60 =>
  (prun Try.prog (Instr.fieldAt 59 v60 1)).bind fun v61 =>
  (rrun Try.prog (Instr.loadAt 56 v61) W8).bind fun v62 =>
  (prun Try.prog (Instr.indexAt 56 v62 i5_1)).bind fun v64 =>
  (prun Try.prog (Instr.fieldAt 101 v64 0)).bind fun v65 =>
  (rrun Try.prog (Instr.loadAt 41 v65) W8).bind fun v66 =>
  (prun Try.prog (Builtin.len_ #[41] 3 #[v66])).bind fun v67 =>
  (bin .lss k6 v67).bind fun v68 =>
  (asB v68).bind fun c68 =>
  if c68 then
    ((nilV Try.prog b0_8).bind fun v72 =>
    (prun Try.prog (Instr.fieldAt 59 v72 1)).bind fun v73 =>
    (rrun Try.prog (Instr.loadAt 56 v73) W8.drew).bind fun v74 =>
    (prun Try.prog (Instr.indexAt 56 v74 i5_1)).bind fun v76 =>
    (prun Try.prog (Instr.fieldAt 101 v76 0)).bind fun v77 =>
    (rrun Try.prog (Instr.loadAt 41 v77) W8.drew).bind fun v78 =>
    (prun Try.prog (Instr.indexAt 41 v78 k6)).bind fun v80 =>
    (rrun Try.prog (Instr.loadAt 40 v80) W8.drew).bind fun v81 =>
    (nilV Try.prog b0_8).bind fun v83 =>
    (prun Try.prog (Instr.fieldAt 59 v83 1)).bind fun v84 =>
    (rrun Try.prog (Instr.loadAt 56 v84) W8.drew).bind fun v85 =>
    (prun Try.prog (Instr.indexAt 56 v85 i5_1)).bind fun v87 =>
    (prun Try.prog (Instr.fieldAt 101 v87 1)).bind fun v88 =>
    (rrun Try.prog (Instr.loadAt 3 v88) W8.drew).bind fun v89 =>
    (prun Try.prog (Instr.build 40 #[(0, v89)])).bind fun v90 =>
    (rrun Try.prog (do eqGuard .neq 40 (Operand.tmp 81) (Operand.tmp 90) v81 v90; binOp .neq 40 v81 v90) W8.drew).bind fun v91 =>
    (asB v91).bind fun c91 =>
    if c91 then
      some (Res.ret [(Value.bool false)] W8.drew)
    else
    some (Res.norm [b0_8, i5_1, k6] W8.drew)).bind fun (r : Res) => (r.unblock 7).cont fun vs_8 W9 =>
    let b0_9 := nth vs_8 0
    let i5_2 := nth vs_8 1
    let k6_1 := nth vs_8 2
    (bin .add k6_1 (Value.int IntKind.i64 1)).bind fun v70 =>
    some (Res.norm [b0_9, i5_2, v70] W9)
  else
  some (Res.exit 6 [b0_8, i5_1] W8)
noncomputable def f57.l3 (call : CallF) (vs_6 : List Value) (W7 : World) : Option Res :=
  let b0_7 := nth vs_6 0
  let i5 := nth vs_6 1
  (nilV Try.prog b0_7).bind fun v51 =>
  (prun Try.prog (Instr.fieldAt 59 v51 1)).bind fun v52 =>
  (rrun Try.prog (Instr.loadAt 56 v52) W7).bind fun v53 =>
  (prun Try.prog (Builtin.len_ #[56] 3 #[v53])).bind fun v54 =>
  (bin .lss i5 v54).bind fun v55 =>
  (asB v55).bind fun c55 =>
  if c55 then
    ((iter (f57.l2 call) [b0_7, i5, (Value.int IntKind.i64 0)] W7).bind fun (r : Res) => (r.unblock 6).cont fun vs_9 W10 =>
    let b0_10 := nth vs_9 0
    let i5_3 := nth vs_9 1
    some (Res.norm [b0_10, i5_3] W10)).bind fun (r : Res) => (r.unblock 5).cont fun vs_10 W11 =>
    let b0_11 := nth vs_10 0
    let i5_4 := nth vs_10 1
    (bin .add i5_4 (Value.int IntKind.i64 1)).bind fun v57 =>
    some (Res.norm [b0_11, v57] W11)
  else
  some (Res.exit 4 [] W7)
noncomputable def f57 (call : CallF) (b0 : Value) (W0 : World) : Option (Value × World) :=
  ((iter (f57.l1 call) [b0, (Value.int IntKind.i64 0)] W0).bind fun (r : Res) => (r.unblock 0).cont fun vs_5 W6 =>
  let b0_6 := nth vs_5 0
  (iter (f57.l3 call) [b0_6, (Value.int IntKind.i64 0)] W6).bind fun (r : Res) => (r.unblock 4).cont fun vs_11 W12 =>
  some (Res.ret [(Value.bool true)] W12)).bind Res.done
theorem f57.eq (call dfr : CallF) (b0 : Value) (W0 : World) : aFun Try.prog call dfr Try.f57 f57.ann (ofArgs #[b0]) W0 = f57 call b0 W0 := by kernel_rfl

/-- dailies/dailiesref15.lies -/
def f60.ann : Ann := (.s .z (.s .z .z))
noncomputable def f60 (call : CallF) (at0 : Value) (n1 : Value) (size2 : Value) (W0 : World) : Option (Value × World) :=
  ((bin .geq at0 (Value.int IntKind.i64 0)).bind fun v8 =>
  (asB v8).bind fun b9 =>
  (if b9 = true then (bin .geq n1 (Value.int IntKind.i64 0)).bind fun v11 =>
    some (v11, W0)
   else some ((Value.bool false), W0)).bind fun r12 =>
  (asB r12.1).bind fun b13 =>
  (if b13 = true then (bin .leq at0 size2).bind fun v16 =>
    some (v16, r12.2)
   else some ((Value.bool false), r12.2)).bind fun r17 =>
  (asB r17.1).bind fun b18 =>
  (if b18 = true then (bin .sub size2 at0).bind fun v22 =>
    (bin .leq n1 v22).bind fun v23 =>
    some (v23, r17.2)
   else some ((Value.bool false), r17.2)).bind fun r24 =>
  some (Res.ret [r24.1] r24.2)).bind Res.done
theorem f60.eq (call dfr : CallF) (at0 : Value) (n1 : Value) (size2 : Value) (W0 : World) : aFun Try.prog call dfr Try.f60 f60.ann (ofArgs #[at0, n1, size2]) W0 = f60 call at0 n1 size2 W0 := by kernel_rfl

/-- (*dailies/medium.piece).Read -/
def f93.ann : Ann := (.s .z (.s .z (.s .z (.s (.b [0, 1, 2] (.s .z (.c (.s .z .z) (.s .z (.c (.s .z .z) .z))))) (.s .z .z)))))
noncomputable def f93 (call dfr : CallF) (p0 : Value) (at1 : Value) (n2 : Value) (W0 : World) : Option (Value × World) :=
  ((nilV Try.prog p0).bind fun v9 =>
  (prun Try.prog (Instr.fieldAt 84 v9 0)).bind fun v10 =>
  (rrun Try.prog (Instr.loadAt 24 v10) W0).bind fun v11 =>
  (nilV Try.prog v11).bind fun v12 =>
  (prun Try.prog (Instr.fieldAt 80 v12 0)).bind fun v13 =>
  (call 27 #[v13] W0).bind fun r14 =>
  (nilV Try.prog p0).bind fun v16 =>
  (prun Try.prog (Instr.fieldAt 84 v16 0)).bind fun v17 =>
  (rrun Try.prog (Instr.loadAt 24 v17) r14.2).bind fun v18 =>
  (nilV Try.prog v18).bind fun v19 =>
  (prun Try.prog (Instr.fieldAt 80 v19 0)).bind fun v20 =>
  (((nilV Try.prog p0).bind fun v23 =>
  (prun Try.prog (Instr.fieldAt 84 v23 0)).bind fun v24 =>
  (rrun Try.prog (Instr.loadAt 24 v24) r14.2).bind fun v25 =>
  (nilV Try.prog v25).bind fun v26 =>
  (prun Try.prog (Instr.fieldAt 80 v26 2)).bind fun v27 =>
  (rrun Try.prog (Instr.loadAt 4 v27) r14.2).bind fun v28 =>
  (asB v28).bind fun c21 =>
  if c21 then
    some (Res.ret [(Value.slice none 0 0), (Value.int IntKind.i64 152)] r14.2)
  else
  (nilV Try.prog p0).bind fun v33 =>
  (prun Try.prog (Instr.fieldAt 84 v33 1)).bind fun v34 =>
  (prun Try.prog (Instr.fieldAt 40 v34 1)).bind fun v35 =>
  (rrun Try.prog (Instr.loadAt 3 v35) r14.2).bind fun v36 =>
  (call 29 #[at1, n2, v36] r14.2).bind fun r37 =>
  (prun Try.prog (Op.unary .not r37.1)).bind fun v38 =>
  (asB v38).bind fun c29 =>
  if c29 then
    some (Res.ret [(Value.slice none 0 0), (Value.int IntKind.i64 151)] r37.2)
  else
  some (Res.norm [p0, at1, n2] r37.2)).bind fun (r : Res) => (r.unblock 0).cont fun vs W1 =>
  let p0_1 := nth vs 0
  let at1_1 := nth vs 1
  let n2_1 := nth vs 2
  ((nilV Try.prog p0_1).bind fun v40 =>
  some (v40, W1.drew)).bind fun r40 =>
  ((prun Try.prog (Instr.fieldAt 84 r40.1 0)).bind fun v41 =>
  some (v41, r40.2)).bind fun r41 =>
  ((rrun Try.prog (Instr.loadAt 24 r41.1) r41.2).bind fun v42 =>
  some (v42, r41.2)).bind fun r42 =>
  ((nilV Try.prog p0_1).bind fun v44 =>
  some (v44, r42.2)).bind fun r44 =>
  ((prun Try.prog (Instr.fieldAt 84 r44.1 1)).bind fun v45 =>
  some (v45, r44.2)).bind fun r45 =>
  ((prun Try.prog (Instr.fieldAt 40 r45.1 0)).bind fun v46 =>
  some (v46, r45.2)).bind fun r46 =>
  ((rrun Try.prog (Instr.loadAt 3 r46.1) r46.2).bind fun v47 =>
  some (v47, r46.2)).bind fun r47 =>
  ((bin .add r47.1 at1_1).bind fun v49 =>
  some (v49, r47.2)).bind fun r49 =>
  ((call 30 #[r42.1, r49.1, n2_1] r49.2).bind fun r51_1 =>
  some (r51_1.1, r51_1.2)).bind fun r51 =>
  ((prun Try.prog (Instr.extract r51.1 0)).bind fun v52 =>
  some (v52, r51.2)).bind fun r52 =>
  ((prun Try.prog (Instr.extract r51.1 1)).bind fun v53 =>
  some (v53, r52.2)).bind fun r53 =>
  chkThen (True)
  (some (Res.ret [r52.1, r53.1] r53.2))).bind fun (r : Res) => r.after dfr 28 #[v20]).bind Res.done
theorem f93.eq (call dfr : CallF) (p0 : Value) (at1 : Value) (n2 : Value) (W0 : World) : aFun Try.prog call dfr Try.f93 f93.ann (ofArgs #[p0, at1, n2]) W0 = f93 call dfr p0 at1 n2 W0 := by kernel_rfl

/-- (*dailies/medium.piece).Size -/
def f94.ann : Ann := (.s .z (.s .z .z))
noncomputable def f94 (call : CallF) (p0 : Value) (W0 : World) : Option (Value × World) :=
  ((nilV Try.prog p0).bind fun v4 =>
  (prun Try.prog (Instr.fieldAt 84 v4 1)).bind fun v5 =>
  (prun Try.prog (Instr.fieldAt 40 v5 1)).bind fun v6 =>
  (rrun Try.prog (Instr.loadAt 3 v6) W0).bind fun v7 =>
  some (Res.ret [v7] W0)).bind Res.done
theorem f94.eq (call dfr : CallF) (p0 : Value) (W0 : World) : aFun Try.prog call dfr Try.f94 f94.ann (ofArgs #[p0]) W0 = f94 call p0 W0 := by kernel_rfl

def anns (f : FuncId) : Ann := match f with
  | 6 => f6.ann
  | 7 => f7.ann
  | 8 => f8.ann
  | 9 => f9.ann
  | 10 => f10.ann
  | 11 => f11.ann
  | 12 => f12.ann
  | 13 => f13.ann
  | 14 => f14.ann
  | 15 => f15.ann
  | 16 => f16.ann
  | 17 => f17.ann
  | 18 => f18.ann
  | 19 => f19.ann
  | 20 => f20.ann
  | 21 => f21.ann
  | 22 => f22.ann
  | 23 => f23.ann
  | 24 => f24.ann
  | 25 => f25.ann
  | 26 => f26.ann
  | 29 => f29.ann
  | 30 => f30.ann
  | 31 => f31.ann
  | 32 => f32.ann
  | 33 => f33.ann
  | 34 => f34.ann
  | 35 => f35.ann
  | 36 => f36.ann
  | 37 => f37.ann
  | 38 => f38.ann
  | 39 => f39.ann
  | 40 => f40.ann
  | 41 => f41.ann
  | 42 => f42.ann
  | 43 => f43.ann
  | 44 => f44.ann
  | 45 => f45.ann
  | 46 => f46.ann
  | 47 => f47.ann
  | 48 => f48.ann
  | 49 => f49.ann
  | 50 => f50.ann
  | 51 => f51.ann
  | 52 => f52.ann
  | 53 => f53.ann
  | 54 => f54.ann
  | 55 => f55.ann
  | 56 => f56.ann
  | 57 => f57.ann
  | 60 => f60.ann
  | 93 => f93.ann
  | 94 => f94.ann
  | _ => .z
noncomputable abbrev R (prim : Prim) : CallF := Go.Sh.run Try.prog anns prim
theorem f6.run {prim : Prim} {script0 : Value} {w : World} {r : Value × World} (hn : prim.call 6 #[script0] w = none) (h : f6 (R prim) script0 w = some r) : R prim 6 #[script0] w = some r := run_body Try.func6 (by kernel_rfl) hn (by rw [show anns 6 = f6.ann from rfl, f6.eq]; exact h)
theorem f7.run {prim : Prim} {w : World} {r : Value × World} (hn : prim.call 7 #[] w = none) (h : f7 (R prim)  w = some r) : R prim 7 #[] w = some r := run_body Try.func7 (by kernel_rfl) hn (by rw [show anns 7 = f7.ann from rfl, f7.eq]; exact h)
theorem f8.run {prim : Prim} {b0 : Value} {w : World} {r : Value × World} (hn : prim.call 8 #[b0] w = none) (h : f8 (R prim) b0 w = some r) : R prim 8 #[b0] w = some r := run_body Try.func8 (by kernel_rfl) hn (by rw [show anns 8 = f8.ann from rfl, f8.eq]; exact h)
theorem f9.run {prim : Prim} {m0 n1 keep2 : Value} {w : World} {r : Value × World} (hn : prim.call 9 #[m0, n1, keep2] w = none) (h : f9 (R prim) prim.dfr m0 n1 keep2 w = some r) : R prim 9 #[m0, n1, keep2] w = some r := run_body Try.func9 (by kernel_rfl) hn (by rw [show anns 9 = f9.ann from rfl, f9.eq]; exact h)
theorem f10.run {prim : Prim} {m0 b1 : Value} {w : World} {r : Value × World} (hn : prim.call 10 #[m0, b1] w = none) (h : f10 (R prim) prim.dfr m0 b1 w = some r) : R prim 10 #[m0, b1] w = some r := run_body Try.func10 (by kernel_rfl) hn (by rw [show anns 10 = f10.ann from rfl, f10.eq]; exact h)
theorem f11.run {prim : Prim} {m0 : Value} {w : World} {r : Value × World} (hn : prim.call 11 #[m0] w = none) (h : f11 (R prim) prim.dfr m0 w = some r) : R prim 11 #[m0] w = some r := run_body Try.func11 (by kernel_rfl) hn (by rw [show anns 11 = f11.ann from rfl, f11.eq]; exact h)
theorem f12.run {prim : Prim} {m0 : Value} {w : World} {r : Value × World} (hn : prim.call 12 #[m0] w = none) (h : f12 (R prim) prim.dfr m0 w = some r) : R prim 12 #[m0] w = some r := run_body Try.func12 (by kernel_rfl) hn (by rw [show anns 12 = f12.ann from rfl, f12.eq]; exact h)
theorem f13.run {prim : Prim} {m0 : Value} {w : World} {r : Value × World} (hn : prim.call 13 #[m0] w = none) (h : f13 (R prim) prim.dfr m0 w = some r) : R prim 13 #[m0] w = some r := run_body Try.func13 (by kernel_rfl) hn (by rw [show anns 13 = f13.ann from rfl, f13.eq]; exact h)
theorem f14.run {prim : Prim} {c0 n1 : Value} {w : World} {r : Value × World} (hn : prim.call 14 #[c0, n1] w = none) (h : f14 (R prim) c0 n1 w = some r) : R prim 14 #[c0, n1] w = some r := run_body Try.func14 (by kernel_rfl) hn (by rw [show anns 14 = f14.ann from rfl, f14.eq]; exact h)
theorem f15.run {prim : Prim} {m0 s1 : Value} {w : World} {r : Value × World} (hn : prim.call 15 #[m0, s1] w = none) (h : f15 (R prim) prim.dfr m0 s1 w = some r) : R prim 15 #[m0, s1] w = some r := run_body Try.func15 (by kernel_rfl) hn (by rw [show anns 15 = f15.ann from rfl, f15.eq]; exact h)
theorem f16.run {prim : Prim} {m0 at1 n2 : Value} {w : World} {r : Value × World} (hn : prim.call 16 #[m0, at1, n2] w = none) (h : f16 (R prim) prim.dfr m0 at1 n2 w = some r) : R prim 16 #[m0, at1, n2] w = some r := run_body Try.func16 (by kernel_rfl) hn (by rw [show anns 16 = f16.ann from rfl, f16.eq]; exact h)
theorem f17.run {prim : Prim} {m0 : Value} {w : World} {r : Value × World} (hn : prim.call 17 #[m0] w = none) (h : f17 (R prim) prim.dfr m0 w = some r) : R prim 17 #[m0] w = some r := run_body Try.func17 (by kernel_rfl) hn (by rw [show anns 17 = f17.ann from rfl, f17.eq]; exact h)
theorem f18.run {prim : Prim} {m0 : Value} {w : World} {r : Value × World} (hn : prim.call 18 #[m0] w = none) (h : f18 (R prim) prim.dfr m0 w = some r) : R prim 18 #[m0] w = some r := run_body Try.func18 (by kernel_rfl) hn (by rw [show anns 18 = f18.ann from rfl, f18.eq]; exact h)
theorem f19.run {prim : Prim} {a0 b1 : Value} {w : World} {r : Value × World} (hn : prim.call 19 #[a0, b1] w = none) (h : f19 (R prim) a0 b1 w = some r) : R prim 19 #[a0, b1] w = some r := run_body Try.func19 (by kernel_rfl) hn (by rw [show anns 19 = f19.ann from rfl, f19.eq]; exact h)
theorem f20.run {prim : Prim} {m0 : Value} {w : World} {r : Value × World} (hn : prim.call 20 #[m0] w = none) (h : f20 (R prim) prim.dfr m0 w = some r) : R prim 20 #[m0] w = some r := run_body Try.func20 (by kernel_rfl) hn (by rw [show anns 20 = f20.ann from rfl, f20.eq]; exact h)
theorem f21.run {prim : Prim} {w : World} {r : Value × World} (hn : prim.call 21 #[] w = none) (h : f21 (R prim)  w = some r) : R prim 21 #[] w = some r := run_body Try.func21 (by kernel_rfl) hn (by rw [show anns 21 = f21.ann from rfl, f21.eq]; exact h)
theorem f22.run {prim : Prim} {w : World} {r : Value × World} (hn : prim.call 22 #[] w = none) (h : f22 (R prim)  w = some r) : R prim 22 #[] w = some r := run_body Try.func22 (by kernel_rfl) hn (by rw [show anns 22 = f22.ann from rfl, f22.eq]; exact h)
theorem f23.run {prim : Prim} {t0 o1 A2 : Value} {w : World} {r : Value × World} (hn : prim.call 23 #[t0, o1, A2] w = none) (h : f23 (R prim) t0 o1 A2 w = some r) : R prim 23 #[t0, o1, A2] w = some r := run_body Try.func23 (by kernel_rfl) hn (by rw [show anns 23 = f23.ann from rfl, f23.eq]; exact h)
theorem f24.run {prim : Prim} {t0 o1 A2 : Value} {w : World} {r : Value × World} (hn : prim.call 24 #[t0, o1, A2] w = none) (h : f24 (R prim) t0 o1 A2 w = some r) : R prim 24 #[t0, o1, A2] w = some r := run_body Try.func24 (by kernel_rfl) hn (by rw [show anns 24 = f24.ann from rfl, f24.eq]; exact h)
theorem f25.run {prim : Prim} {t0 : Value} {w : World} {r : Value × World} (hn : prim.call 25 #[t0] w = none) (h : f25 (R prim) t0 w = some r) : R prim 25 #[t0] w = some r := run_body Try.func25 (by kernel_rfl) hn (by rw [show anns 25 = f25.ann from rfl, f25.eq]; exact h)
theorem f26.run {prim : Prim} {s0 : Value} {w : World} {r : Value × World} (hn : prim.call 26 #[s0] w = none) (h : f26 (R prim) s0 w = some r) : R prim 26 #[s0] w = some r := run_body Try.func26 (by kernel_rfl) hn (by rw [show anns 26 = f26.ann from rfl, f26.eq]; exact h)
theorem f29.run {prim : Prim} {at0 n1 size2 : Value} {w : World} {r : Value × World} (hn : prim.call 29 #[at0, n1, size2] w = none) (h : f29 (R prim) at0 n1 size2 w = some r) : R prim 29 #[at0, n1, size2] w = some r := run_body Try.func29 (by kernel_rfl) hn (by rw [show anns 29 = f29.ann from rfl, f29.eq]; exact h)
theorem f30.run {prim : Prim} {m0 at1 n2 : Value} {w : World} {r : Value × World} (hn : prim.call 30 #[m0, at1, n2] w = none) (h : f30 (R prim) m0 at1 n2 w = some r) : R prim 30 #[m0, at1, n2] w = some r := run_body Try.func30 (by kernel_rfl) hn (by rw [show anns 30 = f30.ann from rfl, f30.eq]; exact h)
theorem f31.run {prim : Prim} {s0 : Value} {w : World} {r : Value × World} (hn : prim.call 31 #[s0] w = none) (h : f31 (R prim) s0 w = some r) : R prim 31 #[s0] w = some r := run_body Try.func31 (by kernel_rfl) hn (by rw [show anns 31 = f31.ann from rfl, f31.eq]; exact h)
theorem f32.run {prim : Prim} {s0 : Value} {w : World} {r : Value × World} (hn : prim.call 32 #[s0] w = none) (h : f32 (R prim) s0 w = some r) : R prim 32 #[s0] w = some r := run_body Try.func32 (by kernel_rfl) hn (by rw [show anns 32 = f32.ann from rfl, f32.eq]; exact h)
theorem f33.run {prim : Prim} {s0 : Value} {w : World} {r : Value × World} (hn : prim.call 33 #[s0] w = none) (h : f33 (R prim) s0 w = some r) : R prim 33 #[s0] w = some r := run_body Try.func33 (by kernel_rfl) hn (by rw [show anns 33 = f33.ann from rfl, f33.eq]; exact h)
theorem f34.run {prim : Prim} {b0 : Value} {w : World} {r : Value × World} (hn : prim.call 34 #[b0] w = none) (h : f34 (R prim) b0 w = some r) : R prim 34 #[b0] w = some r := run_body Try.func34 (by kernel_rfl) hn (by rw [show anns 34 = f34.ann from rfl, f34.eq]; exact h)
theorem f35.run {prim : Prim} {m0 b1 : Value} {w : World} {r : Value × World} (hn : prim.call 35 #[m0, b1] w = none) (h : f35 (R prim) m0 b1 w = some r) : R prim 35 #[m0, b1] w = some r := run_body Try.func35 (by kernel_rfl) hn (by rw [show anns 35 = f35.ann from rfl, f35.eq]; exact h)
theorem f36.run {prim : Prim} {m0 n1 keep2 : Value} {w : World} {r : Value × World} (hn : prim.call 36 #[m0, n1, keep2] w = none) (h : f36 (R prim) m0 n1 keep2 w = some r) : R prim 36 #[m0, n1, keep2] w = some r := run_body Try.func36 (by kernel_rfl) hn (by rw [show anns 36 = f36.ann from rfl, f36.eq]; exact h)
theorem f37.run {prim : Prim} {m0 : Value} {w : World} {r : Value × World} (hn : prim.call 37 #[m0] w = none) (h : f37 (R prim) m0 w = some r) : R prim 37 #[m0] w = some r := run_body Try.func37 (by kernel_rfl) hn (by rw [show anns 37 = f37.ann from rfl, f37.eq]; exact h)
theorem f38.run {prim : Prim} {m0 at1 b2 : Value} {w : World} {r : Value × World} (hn : prim.call 38 #[m0, at1, b2] w = none) (h : f38 (R prim) prim.dfr m0 at1 b2 w = some r) : R prim 38 #[m0, at1, b2] w = some r := run_body Try.func38 (by kernel_rfl) hn (by rw [show anns 38 = f38.ann from rfl, f38.eq]; exact h)
theorem f39.run {prim : Prim} {m0 at1 b2 : Value} {w : World} {r : Value × World} (hn : prim.call 39 #[m0, at1, b2] w = none) (h : f39 (R prim) m0 at1 b2 w = some r) : R prim 39 #[m0, at1, b2] w = some r := run_body Try.func39 (by kernel_rfl) hn (by rw [show anns 39 = f39.ann from rfl, f39.eq]; exact h)
theorem f40.run {prim : Prim} {m0 n1 : Value} {w : World} {r : Value × World} (hn : prim.call 40 #[m0, n1] w = none) (h : f40 (R prim) prim.dfr m0 n1 w = some r) : R prim 40 #[m0, n1] w = some r := run_body Try.func40 (by kernel_rfl) hn (by rw [show anns 40 = f40.ann from rfl, f40.eq]; exact h)
theorem f41.run {prim : Prim} {m0 n1 : Value} {w : World} {r : Value × World} (hn : prim.call 41 #[m0, n1] w = none) (h : f41 (R prim) m0 n1 w = some r) : R prim 41 #[m0, n1] w = some r := run_body Try.func41 (by kernel_rfl) hn (by rw [show anns 41 = f41.ann from rfl, f41.eq]; exact h)
theorem f42.run {prim : Prim} {m0 : Value} {w : World} {r : Value × World} (hn : prim.call 42 #[m0] w = none) (h : f42 (R prim) m0 w = some r) : R prim 42 #[m0] w = some r := run_body Try.func42 (by kernel_rfl) hn (by rw [show anns 42 = f42.ann from rfl, f42.eq]; exact h)
theorem f43.run {prim : Prim} {m0 s1 : Value} {w : World} {r : Value × World} (hn : prim.call 43 #[m0, s1] w = none) (h : f43 (R prim) m0 s1 w = some r) : R prim 43 #[m0, s1] w = some r := run_body Try.func43 (by kernel_rfl) hn (by rw [show anns 43 = f43.ann from rfl, f43.eq]; exact h)
theorem f44.run {prim : Prim} {b0 : Value} {w : World} {r : Value × World} (hn : prim.call 44 #[b0] w = none) (h : f44 (R prim) b0 w = some r) : R prim 44 #[b0] w = some r := run_body Try.func44 (by kernel_rfl) hn (by rw [show anns 44 = f44.ann from rfl, f44.eq]; exact h)
theorem f45.run {prim : Prim} {c0 b1 : Value} {w : World} {r : Value × World} (hn : prim.call 45 #[c0, b1] w = none) (h : f45 (R prim) c0 b1 w = some r) : R prim 45 #[c0, b1] w = some r := run_body Try.func45 (by kernel_rfl) hn (by rw [show anns 45 = f45.ann from rfl, f45.eq]; exact h)
theorem f46.run {prim : Prim} {m0 : Value} {w : World} {r : Value × World} (hn : prim.call 46 #[m0] w = none) (h : f46 (R prim) m0 w = some r) : R prim 46 #[m0] w = some r := run_body Try.func46 (by kernel_rfl) hn (by rw [show anns 46 = f46.ann from rfl, f46.eq]; exact h)
theorem f47.run {prim : Prim} {m0 : Value} {w : World} {r : Value × World} (hn : prim.call 47 #[m0] w = none) (h : f47 (R prim) m0 w = some r) : R prim 47 #[m0] w = some r := run_body Try.func47 (by kernel_rfl) hn (by rw [show anns 47 = f47.ann from rfl, f47.eq]; exact h)
theorem f48.run {prim : Prim} {m0 at1 n2 : Value} {w : World} {r : Value × World} (hn : prim.call 48 #[m0, at1, n2] w = none) (h : f48 (R prim) m0 at1 n2 w = some r) : R prim 48 #[m0, at1, n2] w = some r := run_body Try.func48 (by kernel_rfl) hn (by rw [show anns 48 = f48.ann from rfl, f48.eq]; exact h)
theorem f49.run {prim : Prim} {b0 x1 want2 : Value} {w : World} {r : Value × World} (hn : prim.call 49 #[b0, x1, want2] w = none) (h : f49 (R prim) b0 x1 want2 w = some r) : R prim 49 #[b0, x1, want2] w = some r := run_body Try.func49 (by kernel_rfl) hn (by rw [show anns 49 = f49.ann from rfl, f49.eq]; exact h)
theorem f50.run {prim : Prim} {m0 : Value} {w : World} {r : Value × World} (hn : prim.call 50 #[m0] w = none) (h : f50 (R prim) m0 w = some r) : R prim 50 #[m0] w = some r := run_body Try.func50 (by kernel_rfl) hn (by rw [show anns 50 = f50.ann from rfl, f50.eq]; exact h)
theorem f51.run {prim : Prim} {b0 x1 : Value} {w : World} {r : Value × World} (hn : prim.call 51 #[b0, x1] w = none) (h : f51 (R prim) b0 x1 w = some r) : R prim 51 #[b0, x1] w = some r := run_body Try.func51 (by kernel_rfl) hn (by rw [show anns 51 = f51.ann from rfl, f51.eq]; exact h)
theorem f52.run {prim : Prim} {m0 : Value} {w : World} {r : Value × World} (hn : prim.call 52 #[m0] w = none) (h : f52 (R prim) m0 w = some r) : R prim 52 #[m0] w = some r := run_body Try.func52 (by kernel_rfl) hn (by rw [show anns 52 = f52.ann from rfl, f52.eq]; exact h)
theorem f53.run {prim : Prim} {b0 x1 : Value} {w : World} {r : Value × World} (hn : prim.call 53 #[b0, x1] w = none) (h : f53 (R prim) b0 x1 w = some r) : R prim 53 #[b0, x1] w = some r := run_body Try.func53 (by kernel_rfl) hn (by rw [show anns 53 = f53.ann from rfl, f53.eq]; exact h)
theorem f54.run {prim : Prim} {b0 x1 want2 : Value} {w : World} {r : Value × World} (hn : prim.call 54 #[b0, x1, want2] w = none) (h : f54 (R prim) b0 x1 want2 w = some r) : R prim 54 #[b0, x1, want2] w = some r := run_body Try.func54 (by kernel_rfl) hn (by rw [show anns 54 = f54.ann from rfl, f54.eq]; exact h)
theorem f55.run {prim : Prim} {p0 at1 n2 : Value} {w : World} {r : Value × World} (hn : prim.call 55 #[p0, at1, n2] w = none) (h : f55 (R prim) p0 at1 n2 w = some r) : R prim 55 #[p0, at1, n2] w = some r := run_body Try.func55 (by kernel_rfl) hn (by rw [show anns 55 = f55.ann from rfl, f55.eq]; exact h)
theorem f56.run {prim : Prim} {p0 : Value} {w : World} {r : Value × World} (hn : prim.call 56 #[p0] w = none) (h : f56 (R prim) p0 w = some r) : R prim 56 #[p0] w = some r := run_body Try.func56 (by kernel_rfl) hn (by rw [show anns 56 = f56.ann from rfl, f56.eq]; exact h)
theorem f57.run {prim : Prim} {b0 : Value} {w : World} {r : Value × World} (hn : prim.call 57 #[b0] w = none) (h : f57 (R prim) b0 w = some r) : R prim 57 #[b0] w = some r := run_body Try.func57 (by kernel_rfl) hn (by rw [show anns 57 = f57.ann from rfl, f57.eq]; exact h)
theorem f60.run {prim : Prim} {at0 n1 size2 : Value} {w : World} {r : Value × World} (hn : prim.call 60 #[at0, n1, size2] w = none) (h : f60 (R prim) at0 n1 size2 w = some r) : R prim 60 #[at0, n1, size2] w = some r := run_body Try.func60 (by kernel_rfl) hn (by rw [show anns 60 = f60.ann from rfl, f60.eq]; exact h)
theorem f93.run {prim : Prim} {p0 at1 n2 : Value} {w : World} {r : Value × World} (hn : prim.call 93 #[p0, at1, n2] w = none) (h : f93 (R prim) prim.dfr p0 at1 n2 w = some r) : R prim 93 #[p0, at1, n2] w = some r := run_body Try.func93 (by kernel_rfl) hn (by rw [show anns 93 = f93.ann from rfl, f93.eq]; exact h)
theorem f94.run {prim : Prim} {p0 : Value} {w : World} {r : Value × World} (hn : prim.call 94 #[p0] w = none) (h : f94 (R prim) p0 w = some r) : R prim 94 #[p0] w = some r := run_body Try.func94 (by kernel_rfl) hn (by rw [show anns 94 = f94.ann from rfl, f94.eq]; exact h)

/-! ### facts of the types -/
noncomputable def inf (t : Nat) : TypeInfo := (Try.prog.info? t).getD default
@[simp] theorem len22 (ty : TypeId) (a : Option Addr) (n c : Nat) : prun Try.prog (Builtin.len_ #[22] ty #[.slice a n c]) = some (.int .i64 n) := len_slice Try.underlying22 ty a n c
@[simp] theorem len41 (ty : TypeId) (a : Option Addr) (n c : Nat) : prun Try.prog (Builtin.len_ #[41] ty #[.slice a n c]) = some (.int .i64 n) := len_slice Try.underlying41 ty a n c
@[simp] theorem len50 (ty : TypeId) (a : Option Addr) (n c : Nat) : prun Try.prog (Builtin.len_ #[50] ty #[.slice a n c]) = some (.int .i64 n) := len_slice Try.underlying50 ty a n c
@[simp] theorem len53 (ty : TypeId) (a : Option Addr) (n c : Nat) : prun Try.prog (Builtin.len_ #[53] ty #[.slice a n c]) = some (.int .i64 n) := len_slice Try.underlying53 ty a n c
@[simp] theorem len55 (ty : TypeId) (a : Option Addr) (n c : Nat) : prun Try.prog (Builtin.len_ #[55] ty #[.slice a n c]) = some (.int .i64 n) := len_slice Try.underlying55 ty a n c
@[simp] theorem len56 (ty : TypeId) (a : Option Addr) (n c : Nat) : prun Try.prog (Builtin.len_ #[56] ty #[.slice a n c]) = some (.int .i64 n) := len_slice Try.underlying56 ty a n c
@[simp] theorem len57 (ty : TypeId) (a : Option Addr) (n c : Nat) : prun Try.prog (Builtin.len_ #[57] ty #[.slice a n c]) = some (.int .i64 n) := len_slice Try.underlying57 ty a n c
@[simp] theorem len63 (ty : TypeId) (a : Option Addr) (n c : Nat) : prun Try.prog (Builtin.len_ #[63] ty #[.slice a n c]) = some (.int .i64 n) := len_slice Try.underlying63 ty a n c
@[simp] theorem ld3 (a : Addr) (w : World) : rrun Try.prog (Instr.loadAt 3 (.pointer (some a))) w = w.cell? a := load_one Try.underlying3 (by kernel_rfl) a w
@[simp] theorem ld4 (a : Addr) (w : World) : rrun Try.prog (Instr.loadAt 4 (.pointer (some a))) w = w.cell? a := load_one Try.underlying4 (by kernel_rfl) a w
@[simp] theorem ld5 (a : Addr) (w : World) : rrun Try.prog (Instr.loadAt 5 (.pointer (some a))) w = w.cell? a := load_one Try.underlying5 (by kernel_rfl) a w
@[simp] theorem ld22 (a : Addr) (w : World) : rrun Try.prog (Instr.loadAt 22 (.pointer (some a))) w = w.cell? a := load_one Try.underlying22 (by kernel_rfl) a w
@[simp] theorem ld24 (a : Addr) (w : World) : rrun Try.prog (Instr.loadAt 24 (.pointer (some a))) w = w.cell? a := load_one Try.underlying24 (by kernel_rfl) a w
@[simp] theorem ld36 (a : Addr) (w : World) : rrun Try.prog (Instr.loadAt 36 (.pointer (some a))) w = w.cell? a := load_one Try.underlying36 (by kernel_rfl) a w
theorem inf40 : Try.prog.info? 40 = some (inf 40) := by kernel_rfl
theorem size40 : (inf 40).size = 2 := by kernel_rfl
theorem ld40 {a : Addr} {w : World} {v0 v1 : Value} (h0 : w.cell? (a.add 0) = some v0) (h1 : w.cell? (a.add 1) = some v1) : rrun Try.prog (Instr.loadAt 40 (.pointer (some a))) w = some (.agg #[v0, v1]) := load_agg (vs := [v0, v1]) inf40 (by kernel_rfl) (by rw [size40]; rfl) ⟨h0, h1, trivial⟩
@[simp] theorem ld41 (a : Addr) (w : World) : rrun Try.prog (Instr.loadAt 41 (.pointer (some a))) w = w.cell? a := load_one Try.underlying41 (by kernel_rfl) a w
@[simp] theorem ld50 (a : Addr) (w : World) : rrun Try.prog (Instr.loadAt 50 (.pointer (some a))) w = w.cell? a := load_one Try.underlying50 (by kernel_rfl) a w
@[simp] theorem ld55 (a : Addr) (w : World) : rrun Try.prog (Instr.loadAt 55 (.pointer (some a))) w = w.cell? a := load_one Try.underlying55 (by kernel_rfl) a w
@[simp] theorem ld56 (a : Addr) (w : World) : rrun Try.prog (Instr.loadAt 56 (.pointer (some a))) w = w.cell? a := load_one Try.underlying56 (by kernel_rfl) a w
@[simp] theorem ld57 (a : Addr) (w : World) : rrun Try.prog (Instr.loadAt 57 (.pointer (some a))) w = w.cell? a := load_one Try.underlying57 (by kernel_rfl) a w
@[simp] theorem ld61 (a : Addr) (w : World) : rrun Try.prog (Instr.loadAt 61 (.pointer (some a))) w = w.cell? a := load_one Try.underlying61 (by kernel_rfl) a w
@[simp] theorem ld63 (a : Addr) (w : World) : rrun Try.prog (Instr.loadAt 63 (.pointer (some a))) w = w.cell? a := load_one Try.underlying63 (by kernel_rfl) a w
@[simp] theorem ld64 (a : Addr) (w : World) : rrun Try.prog (Instr.loadAt 64 (.pointer (some a))) w = w.cell? a := load_one Try.underlying64 (by kernel_rfl) a w
theorem inf68 : Try.prog.info? 68 = some (inf 68) := by kernel_rfl
theorem size68 : (inf 68).size = 5 := by kernel_rfl
theorem ld68 {a : Addr} {w : World} {v0 v1 v2 v3 v4 : Value} (h0 : w.cell? (a.add 0) = some v0) (h1 : w.cell? (a.add 1) = some v1) (h2 : w.cell? (a.add 2) = some v2) (h3 : w.cell? (a.add 3) = some v3) (h4 : w.cell? (a.add 4) = some v4) : rrun Try.prog (Instr.loadAt 68 (.pointer (some a))) w = some (.agg #[v0, v1, v2, v3, v4]) := load_agg (vs := [v0, v1, v2, v3, v4]) inf68 (by kernel_rfl) (by rw [size68]; rfl) ⟨h0, h1, h2, h3, h4, trivial⟩
@[simp] theorem ld90 (a : Addr) (w : World) : rrun Try.prog (Instr.loadAt 90 (.pointer (some a))) w = w.cell? a := load_one Try.underlying90 (by kernel_rfl) a w
theorem inf3 : Try.prog.info? 3 = some (inf 3) := by kernel_rfl
theorem size3 : (inf 3).size = 1 := by kernel_rfl
theorem st3 {a : Addr} {w : World} {v u : Value} (hv : v.cells = #[v]) (ho : v.oneCell' = true) (hc : w.cell? a = some u) (hf : w.frozen? a = false) : erun Try.prog (Instr.storeAt 3 (.pointer (some a)) v) w = some ((), w.setCell a v) := store_one inf3 size3 hv ho hc hf
theorem inf4 : Try.prog.info? 4 = some (inf 4) := by kernel_rfl
theorem size4 : (inf 4).size = 1 := by kernel_rfl
theorem st4 {a : Addr} {w : World} {v u : Value} (hv : v.cells = #[v]) (ho : v.oneCell' = true) (hc : w.cell? a = some u) (hf : w.frozen? a = false) : erun Try.prog (Instr.storeAt 4 (.pointer (some a)) v) w = some ((), w.setCell a v) := store_one inf4 size4 hv ho hc hf
theorem inf5 : Try.prog.info? 5 = some (inf 5) := by kernel_rfl
theorem size5 : (inf 5).size = 1 := by kernel_rfl
theorem st5 {a : Addr} {w : World} {v u : Value} (hv : v.cells = #[v]) (ho : v.oneCell' = true) (hc : w.cell? a = some u) (hf : w.frozen? a = false) : erun Try.prog (Instr.storeAt 5 (.pointer (some a)) v) w = some ((), w.setCell a v) := store_one inf5 size5 hv ho hc hf
theorem inf22 : Try.prog.info? 22 = some (inf 22) := by kernel_rfl
theorem size22 : (inf 22).size = 1 := by kernel_rfl
theorem st22 {a : Addr} {w : World} {v u : Value} (hv : v.cells = #[v]) (ho : v.oneCell' = true) (hc : w.cell? a = some u) (hf : w.frozen? a = false) : erun Try.prog (Instr.storeAt 22 (.pointer (some a)) v) w = some ((), w.setCell a v) := store_one inf22 size22 hv ho hc hf
theorem inf24 : Try.prog.info? 24 = some (inf 24) := by kernel_rfl
theorem size24 : (inf 24).size = 1 := by kernel_rfl
theorem st24 {a : Addr} {w : World} {v u : Value} (hv : v.cells = #[v]) (ho : v.oneCell' = true) (hc : w.cell? a = some u) (hf : w.frozen? a = false) : erun Try.prog (Instr.storeAt 24 (.pointer (some a)) v) w = some ((), w.setCell a v) := store_one inf24 size24 hv ho hc hf
theorem inf41 : Try.prog.info? 41 = some (inf 41) := by kernel_rfl
theorem size41 : (inf 41).size = 1 := by kernel_rfl
theorem st41 {a : Addr} {w : World} {v u : Value} (hv : v.cells = #[v]) (ho : v.oneCell' = true) (hc : w.cell? a = some u) (hf : w.frozen? a = false) : erun Try.prog (Instr.storeAt 41 (.pointer (some a)) v) w = some ((), w.setCell a v) := store_one inf41 size41 hv ho hc hf
theorem inf50 : Try.prog.info? 50 = some (inf 50) := by kernel_rfl
theorem size50 : (inf 50).size = 1 := by kernel_rfl
theorem st50 {a : Addr} {w : World} {v u : Value} (hv : v.cells = #[v]) (ho : v.oneCell' = true) (hc : w.cell? a = some u) (hf : w.frozen? a = false) : erun Try.prog (Instr.storeAt 50 (.pointer (some a)) v) w = some ((), w.setCell a v) := store_one inf50 size50 hv ho hc hf
theorem inf55 : Try.prog.info? 55 = some (inf 55) := by kernel_rfl
theorem size55 : (inf 55).size = 1 := by kernel_rfl
theorem st55 {a : Addr} {w : World} {v u : Value} (hv : v.cells = #[v]) (ho : v.oneCell' = true) (hc : w.cell? a = some u) (hf : w.frozen? a = false) : erun Try.prog (Instr.storeAt 55 (.pointer (some a)) v) w = some ((), w.setCell a v) := store_one inf55 size55 hv ho hc hf
theorem inf56 : Try.prog.info? 56 = some (inf 56) := by kernel_rfl
theorem size56 : (inf 56).size = 1 := by kernel_rfl
theorem st56 {a : Addr} {w : World} {v u : Value} (hv : v.cells = #[v]) (ho : v.oneCell' = true) (hc : w.cell? a = some u) (hf : w.frozen? a = false) : erun Try.prog (Instr.storeAt 56 (.pointer (some a)) v) w = some ((), w.setCell a v) := store_one inf56 size56 hv ho hc hf
theorem inf57 : Try.prog.info? 57 = some (inf 57) := by kernel_rfl
theorem size57 : (inf 57).size = 1 := by kernel_rfl
theorem st57 {a : Addr} {w : World} {v u : Value} (hv : v.cells = #[v]) (ho : v.oneCell' = true) (hc : w.cell? a = some u) (hf : w.frozen? a = false) : erun Try.prog (Instr.storeAt 57 (.pointer (some a)) v) w = some ((), w.setCell a v) := store_one inf57 size57 hv ho hc hf
theorem inf61 : Try.prog.info? 61 = some (inf 61) := by kernel_rfl
theorem size61 : (inf 61).size = 1 := by kernel_rfl
theorem st61 {a : Addr} {w : World} {v u : Value} (hv : v.cells = #[v]) (ho : v.oneCell' = true) (hc : w.cell? a = some u) (hf : w.frozen? a = false) : erun Try.prog (Instr.storeAt 61 (.pointer (some a)) v) w = some ((), w.setCell a v) := store_one inf61 size61 hv ho hc hf
theorem inf63 : Try.prog.info? 63 = some (inf 63) := by kernel_rfl
theorem size63 : (inf 63).size = 1 := by kernel_rfl
theorem st63 {a : Addr} {w : World} {v u : Value} (hv : v.cells = #[v]) (ho : v.oneCell' = true) (hc : w.cell? a = some u) (hf : w.frozen? a = false) : erun Try.prog (Instr.storeAt 63 (.pointer (some a)) v) w = some ((), w.setCell a v) := store_one inf63 size63 hv ho hc hf
theorem inf64 : Try.prog.info? 64 = some (inf 64) := by kernel_rfl
theorem size64 : (inf 64).size = 1 := by kernel_rfl
theorem st64 {a : Addr} {w : World} {v u : Value} (hv : v.cells = #[v]) (ho : v.oneCell' = true) (hc : w.cell? a = some u) (hf : w.frozen? a = false) : erun Try.prog (Instr.storeAt 64 (.pointer (some a)) v) w = some ((), w.setCell a v) := store_one inf64 size64 hv ho hc hf
@[simp] theorem fa40_0 (a : Addr) : prun Try.prog (Instr.fieldAt 40 (.pointer (some a)) 0) = some (.pointer (some (a.add 0))) := id (by kernel_rfl)
@[simp] theorem fa40_1 (a : Addr) : prun Try.prog (Instr.fieldAt 40 (.pointer (some a)) 1) = some (.pointer (some (a.add 1))) := id (by kernel_rfl)
@[simp] theorem fa59_0 (a : Addr) : prun Try.prog (Instr.fieldAt 59 (.pointer (some a)) 0) = some (.pointer (some (a.add 0))) := id (by kernel_rfl)
@[simp] theorem fa59_1 (a : Addr) : prun Try.prog (Instr.fieldAt 59 (.pointer (some a)) 1) = some (.pointer (some (a.add 1))) := id (by kernel_rfl)
@[simp] theorem fa59_2 (a : Addr) : prun Try.prog (Instr.fieldAt 59 (.pointer (some a)) 2) = some (.pointer (some (a.add 2))) := id (by kernel_rfl)
@[simp] theorem fa59_3 (a : Addr) : prun Try.prog (Instr.fieldAt 59 (.pointer (some a)) 3) = some (.pointer (some (a.add 3))) := id (by kernel_rfl)
@[simp] theorem fa59_4 (a : Addr) : prun Try.prog (Instr.fieldAt 59 (.pointer (some a)) 4) = some (.pointer (some (a.add 4))) := id (by kernel_rfl)
@[simp] theorem fa59_5 (a : Addr) : prun Try.prog (Instr.fieldAt 59 (.pointer (some a)) 5) = some (.pointer (some (a.add 5))) := id (by kernel_rfl)
@[simp] theorem fa59_6 (a : Addr) : prun Try.prog (Instr.fieldAt 59 (.pointer (some a)) 6) = some (.pointer (some (a.add 6))) := id (by kernel_rfl)
@[simp] theorem fa59_7 (a : Addr) : prun Try.prog (Instr.fieldAt 59 (.pointer (some a)) 7) = some (.pointer (some (a.add 7))) := id (by kernel_rfl)
@[simp] theorem fa66_0 (a : Addr) : prun Try.prog (Instr.fieldAt 66 (.pointer (some a)) 0) = some (.pointer (some (a.add 0))) := id (by kernel_rfl)
@[simp] theorem fa66_1 (a : Addr) : prun Try.prog (Instr.fieldAt 66 (.pointer (some a)) 1) = some (.pointer (some (a.add 1))) := id (by kernel_rfl)
@[simp] theorem fa66_2 (a : Addr) : prun Try.prog (Instr.fieldAt 66 (.pointer (some a)) 2) = some (.pointer (some (a.add 2))) := id (by kernel_rfl)
@[simp] theorem fa66_3 (a : Addr) : prun Try.prog (Instr.fieldAt 66 (.pointer (some a)) 3) = some (.pointer (some (a.add 3))) := id (by kernel_rfl)
@[simp] theorem fa68_0 (a : Addr) : prun Try.prog (Instr.fieldAt 68 (.pointer (some a)) 0) = some (.pointer (some (a.add 0))) := id (by kernel_rfl)
@[simp] theorem fa68_1 (a : Addr) : prun Try.prog (Instr.fieldAt 68 (.pointer (some a)) 1) = some (.pointer (some (a.add 1))) := id (by kernel_rfl)
@[simp] theorem fa68_2 (a : Addr) : prun Try.prog (Instr.fieldAt 68 (.pointer (some a)) 2) = some (.pointer (some (a.add 2))) := id (by kernel_rfl)
@[simp] theorem fa68_3 (a : Addr) : prun Try.prog (Instr.fieldAt 68 (.pointer (some a)) 3) = some (.pointer (some (a.add 3))) := id (by kernel_rfl)
@[simp] theorem fa68_4 (a : Addr) : prun Try.prog (Instr.fieldAt 68 (.pointer (some a)) 4) = some (.pointer (some (a.add 4))) := id (by kernel_rfl)
@[simp] theorem fa80_0 (a : Addr) : prun Try.prog (Instr.fieldAt 80 (.pointer (some a)) 0) = some (.pointer (some (a.add 0))) := id (by kernel_rfl)
@[simp] theorem fa80_1 (a : Addr) : prun Try.prog (Instr.fieldAt 80 (.pointer (some a)) 1) = some (.pointer (some (a.add 2))) := id (by kernel_rfl)
@[simp] theorem fa80_2 (a : Addr) : prun Try.prog (Instr.fieldAt 80 (.pointer (some a)) 2) = some (.pointer (some (a.add 3))) := id (by kernel_rfl)
@[simp] theorem fa80_3 (a : Addr) : prun Try.prog (Instr.fieldAt 80 (.pointer (some a)) 3) = some (.pointer (some (a.add 4))) := id (by kernel_rfl)
@[simp] theorem fa80_4 (a : Addr) : prun Try.prog (Instr.fieldAt 80 (.pointer (some a)) 4) = some (.pointer (some (a.add 5))) := id (by kernel_rfl)
@[simp] theorem fa80_5 (a : Addr) : prun Try.prog (Instr.fieldAt 80 (.pointer (some a)) 5) = some (.pointer (some (a.add 6))) := id (by kernel_rfl)
@[simp] theorem fa84_0 (a : Addr) : prun Try.prog (Instr.fieldAt 84 (.pointer (some a)) 0) = some (.pointer (some (a.add 0))) := id (by kernel_rfl)
@[simp] theorem fa84_1 (a : Addr) : prun Try.prog (Instr.fieldAt 84 (.pointer (some a)) 1) = some (.pointer (some (a.add 1))) := id (by kernel_rfl)
@[simp] theorem fa87_0 (a : Addr) : prun Try.prog (Instr.fieldAt 87 (.pointer (some a)) 0) = some (.pointer (some (a.add 0))) := id (by kernel_rfl)
@[simp] theorem fa87_1 (a : Addr) : prun Try.prog (Instr.fieldAt 87 (.pointer (some a)) 1) = some (.pointer (some (a.add 1))) := id (by kernel_rfl)
@[simp] theorem fa87_2 (a : Addr) : prun Try.prog (Instr.fieldAt 87 (.pointer (some a)) 2) = some (.pointer (some (a.add 2))) := id (by kernel_rfl)
@[simp] theorem fa87_3 (a : Addr) : prun Try.prog (Instr.fieldAt 87 (.pointer (some a)) 3) = some (.pointer (some (a.add 3))) := id (by kernel_rfl)
@[simp] theorem fa87_4 (a : Addr) : prun Try.prog (Instr.fieldAt 87 (.pointer (some a)) 4) = some (.pointer (some (a.add 4))) := id (by kernel_rfl)
@[simp] theorem fa99_0 (a : Addr) : prun Try.prog (Instr.fieldAt 99 (.pointer (some a)) 0) = some (.pointer (some (a.add 0))) := id (by kernel_rfl)
@[simp] theorem fa99_1 (a : Addr) : prun Try.prog (Instr.fieldAt 99 (.pointer (some a)) 1) = some (.pointer (some (a.add 1))) := id (by kernel_rfl)
@[simp] theorem fa101_0 (a : Addr) : prun Try.prog (Instr.fieldAt 101 (.pointer (some a)) 0) = some (.pointer (some (a.add 0))) := id (by kernel_rfl)
@[simp] theorem fa101_1 (a : Addr) : prun Try.prog (Instr.fieldAt 101 (.pointer (some a)) 1) = some (.pointer (some (a.add 1))) := id (by kernel_rfl)
@[simp] theorem fa104_0 (a : Addr) : prun Try.prog (Instr.fieldAt 104 (.pointer (some a)) 0) = some (.pointer (some (a.add 0))) := id (by kernel_rfl)
@[simp] theorem fa104_1 (a : Addr) : prun Try.prog (Instr.fieldAt 104 (.pointer (some a)) 1) = some (.pointer (some (a.add 1))) := id (by kernel_rfl)
theorem ix22 (a : Addr) (n c : Nat) (k : IntKind) (j : Int) (h0 : 0 ≤ j) (h1 : j < n) : prun Try.prog (Instr.indexAt 22 (.slice (some a) n c) (.int k j)) = some (.pointer (some (a.add (j.toNat * 1)))) := by
  have h := index_slice Try.underlying22 inf5 a n c k j h0 h1
  rwa [size5] at h
theorem ix41 (a : Addr) (n c : Nat) (k : IntKind) (j : Int) (h0 : 0 ≤ j) (h1 : j < n) : prun Try.prog (Instr.indexAt 41 (.slice (some a) n c) (.int k j)) = some (.pointer (some (a.add (j.toNat * 2)))) := by
  have h := index_slice Try.underlying41 inf40 a n c k j h0 h1
  rwa [size40] at h
theorem ix50 (a : Addr) (n c : Nat) (k : IntKind) (j : Int) (h0 : 0 ≤ j) (h1 : j < n) : prun Try.prog (Instr.indexAt 50 (.slice (some a) n c) (.int k j)) = some (.pointer (some (a.add (j.toNat * 1)))) := by
  have h := index_slice Try.underlying50 inf22 a n c k j h0 h1
  rwa [size22] at h
theorem ix53 (a : Addr) (n c : Nat) (k : IntKind) (j : Int) (h0 : 0 ≤ j) (h1 : j < n) : prun Try.prog (Instr.indexAt 53 (.slice (some a) n c) (.int k j)) = some (.pointer (some (a.add (j.toNat * 5)))) := by
  have h := index_slice Try.underlying53 inf68 a n c k j h0 h1
  rwa [size68] at h
theorem inf99 : Try.prog.info? 99 = some (inf 99) := by kernel_rfl
theorem size99 : (inf 99).size = 2 := by kernel_rfl
theorem ix55 (a : Addr) (n c : Nat) (k : IntKind) (j : Int) (h0 : 0 ≤ j) (h1 : j < n) : prun Try.prog (Instr.indexAt 55 (.slice (some a) n c) (.int k j)) = some (.pointer (some (a.add (j.toNat * 2)))) := by
  have h := index_slice Try.underlying55 inf99 a n c k j h0 h1
  rwa [size99] at h
theorem inf101 : Try.prog.info? 101 = some (inf 101) := by kernel_rfl
theorem size101 : (inf 101).size = 2 := by kernel_rfl
theorem ix56 (a : Addr) (n c : Nat) (k : IntKind) (j : Int) (h0 : 0 ≤ j) (h1 : j < n) : prun Try.prog (Instr.indexAt 56 (.slice (some a) n c) (.int k j)) = some (.pointer (some (a.add (j.toNat * 2)))) := by
  have h := index_slice Try.underlying56 inf101 a n c k j h0 h1
  rwa [size101] at h
theorem ix57 (a : Addr) (n c : Nat) (k : IntKind) (j : Int) (h0 : 0 ≤ j) (h1 : j < n) : prun Try.prog (Instr.indexAt 57 (.slice (some a) n c) (.int k j)) = some (.pointer (some (a.add (j.toNat * 1)))) := by
  have h := index_slice Try.underlying57 inf41 a n c k j h0 h1
  rwa [size41] at h
theorem inf36 : Try.prog.info? 36 = some (inf 36) := by kernel_rfl
theorem size36 : (inf 36).size = 1 := by kernel_rfl
theorem ix63 (a : Addr) (n c : Nat) (k : IntKind) (j : Int) (h0 : 0 ≤ j) (h1 : j < n) : prun Try.prog (Instr.indexAt 63 (.slice (some a) n c) (.int k j)) = some (.pointer (some (a.add (j.toNat * 1)))) := by
  have h := index_slice Try.underlying63 inf36 a n c k j h0 h1
  rwa [size36] at h
theorem inf90 : Try.prog.info? 90 = some (inf 90) := by kernel_rfl
theorem size90 : (inf 90).size = 1 := by kernel_rfl
theorem ix64 (a : Addr) (n c : Nat) (k : IntKind) (j : Int) (h0 : 0 ≤ j) (h1 : j < n) : prun Try.prog (Instr.indexAt 64 (.slice (some a) n c) (.int k j)) = some (.pointer (some (a.add (j.toNat * 1)))) := by
  have h := index_slice Try.underlying64 inf90 a n c k j h0 h1
  rwa [size90] at h
theorem sl22 (a : Option Addr) (n c : Nat) (lo hi mx : Option Value) (l h m : Nat) (hb : prun Try.prog (Instr.sliceBounds true n c lo hi mx) = some (l, h, m)) : prun Try.prog (Instr.sliceAt 22 (.slice a n c) lo hi mx) = some (.slice (if m = l then a else a.map (·.add (l * 1))) (h - l) (m - l)) := by
  have h := slice_at Try.underlying22 inf5 a n c lo hi mx l h m hb
  rwa [size5] at h
theorem sl41 (a : Option Addr) (n c : Nat) (lo hi mx : Option Value) (l h m : Nat) (hb : prun Try.prog (Instr.sliceBounds true n c lo hi mx) = some (l, h, m)) : prun Try.prog (Instr.sliceAt 41 (.slice a n c) lo hi mx) = some (.slice (if m = l then a else a.map (·.add (l * 2))) (h - l) (m - l)) := by
  have h := slice_at Try.underlying41 inf40 a n c lo hi mx l h m hb
  rwa [size40] at h
theorem zero5 : (inf 5).zero = some (.int .u8 0) := by kernel_rfl
theorem bytes5 : (inf 5).bytes = 1 := id (by kernel_rfl)
theorem ap22 {w : World} {base : Nat} {ty : TypeId} {v : Value} {n : Nat} {xs : List Value} (hown : w.ownsRow base 5 1 v n xs) {A : Option Addr} {m c : Nat} {news : List Value} (hl : news.length = m * 1) (hr : Rd w A news) (hnil : A = none → c = 0) (h1 : ∀ u ∈ news, u.oneCell' = true) (h63 : n + m ≤ maxLen) (hbytes : (n + m) * 1 ≤ 140737488355328) (hbase : base ≤ w.heap.size) :
    ∃ v' w', erun Try.prog (Builtin.append_ #[22, 22] ty #[v, .slice A m c]) w = some (v', w') ∧ w'.ownsRow base 5 1 v' (n + m) (xs ++ news) ∧ w.grownBy w' v.ownBlock := e_append Try.underlying22 inf5 zero5 size5 bytes5 rfl (by decide) hown hl hr hnil h1 h63 hbytes hbase
theorem zero40 : (inf 40).zero = some (.agg #[(.int .i64 0), (.int .i64 0)]) := by kernel_rfl
theorem bytes40 : (inf 40).bytes = 16 := id (by kernel_rfl)
theorem ap41 {w : World} {base : Nat} {ty : TypeId} {v : Value} {n : Nat} {xs : List Value} (hown : w.ownsRow base 40 2 v n xs) {A : Option Addr} {m c : Nat} {news : List Value} (hl : news.length = m * 2) (hr : Rd w A news) (hnil : A = none → c = 0) (h1 : ∀ u ∈ news, u.oneCell' = true) (h63 : n + m ≤ maxLen) (hbytes : (n + m) * 16 ≤ 140737488355328) (hbase : base ≤ w.heap.size) :
    ∃ v' w', erun Try.prog (Builtin.append_ #[41, 41] ty #[v, .slice A m c]) w = some (v', w') ∧ w'.ownsRow base 40 2 v' (n + m) (xs ++ news) ∧ w.grownBy w' v.ownBlock := e_append Try.underlying41 inf40 zero40 size40 bytes40 rfl (by decide) hown hl hr hnil h1 h63 hbytes hbase
theorem zero22 : (inf 22).zero = some (.slice none 0 0) := by kernel_rfl
theorem bytes22 : (inf 22).bytes = 24 := id (by kernel_rfl)
theorem ap50 {w : World} {base : Nat} {ty : TypeId} {v : Value} {n : Nat} {xs : List Value} (hown : w.ownsRow base 22 1 v n xs) {A : Option Addr} {m c : Nat} {news : List Value} (hl : news.length = m * 1) (hr : Rd w A news) (hnil : A = none → c = 0) (h1 : ∀ u ∈ news, u.oneCell' = true) (h63 : n + m ≤ maxLen) (hbytes : (n + m) * 24 ≤ 140737488355328) (hbase : base ≤ w.heap.size) :
    ∃ v' w', erun Try.prog (Builtin.append_ #[50, 50] ty #[v, .slice A m c]) w = some (v', w') ∧ w'.ownsRow base 22 1 v' (n + m) (xs ++ news) ∧ w.grownBy w' v.ownBlock := e_append Try.underlying50 inf22 zero22 size22 bytes22 rfl (by decide) hown hl hr hnil h1 h63 hbytes hbase
theorem zero99 : (inf 99).zero = some (.agg #[(.slice none 0 0), (.int .u8 0)]) := by kernel_rfl
theorem bytes99 : (inf 99).bytes = 32 := id (by kernel_rfl)
theorem ap55 {w : World} {base : Nat} {ty : TypeId} {v : Value} {n : Nat} {xs : List Value} (hown : w.ownsRow base 99 2 v n xs) {A : Option Addr} {m c : Nat} {news : List Value} (hl : news.length = m * 2) (hr : Rd w A news) (hnil : A = none → c = 0) (h1 : ∀ u ∈ news, u.oneCell' = true) (h63 : n + m ≤ maxLen) (hbytes : (n + m) * 32 ≤ 140737488355328) (hbase : base ≤ w.heap.size) :
    ∃ v' w', erun Try.prog (Builtin.append_ #[55, 55] ty #[v, .slice A m c]) w = some (v', w') ∧ w'.ownsRow base 99 2 v' (n + m) (xs ++ news) ∧ w.grownBy w' v.ownBlock := e_append Try.underlying55 inf99 zero99 size99 bytes99 rfl (by decide) hown hl hr hnil h1 h63 hbytes hbase
theorem zero101 : (inf 101).zero = some (.agg #[(.slice none 0 0), (.int .i64 0)]) := by kernel_rfl
theorem bytes101 : (inf 101).bytes = 32 := id (by kernel_rfl)
theorem ap56 {w : World} {base : Nat} {ty : TypeId} {v : Value} {n : Nat} {xs : List Value} (hown : w.ownsRow base 101 2 v n xs) {A : Option Addr} {m c : Nat} {news : List Value} (hl : news.length = m * 2) (hr : Rd w A news) (hnil : A = none → c = 0) (h1 : ∀ u ∈ news, u.oneCell' = true) (h63 : n + m ≤ maxLen) (hbytes : (n + m) * 32 ≤ 140737488355328) (hbase : base ≤ w.heap.size) :
    ∃ v' w', erun Try.prog (Builtin.append_ #[56, 56] ty #[v, .slice A m c]) w = some (v', w') ∧ w'.ownsRow base 101 2 v' (n + m) (xs ++ news) ∧ w.grownBy w' v.ownBlock := e_append Try.underlying56 inf101 zero101 size101 bytes101 rfl (by decide) hown hl hr hnil h1 h63 hbytes hbase
theorem zero41 : (inf 41).zero = some (.slice none 0 0) := by kernel_rfl
theorem bytes41 : (inf 41).bytes = 24 := id (by kernel_rfl)
theorem ap57 {w : World} {base : Nat} {ty : TypeId} {v : Value} {n : Nat} {xs : List Value} (hown : w.ownsRow base 41 1 v n xs) {A : Option Addr} {m c : Nat} {news : List Value} (hl : news.length = m * 1) (hr : Rd w A news) (hnil : A = none → c = 0) (h1 : ∀ u ∈ news, u.oneCell' = true) (h63 : n + m ≤ maxLen) (hbytes : (n + m) * 24 ≤ 140737488355328) (hbase : base ≤ w.heap.size) :
    ∃ v' w', erun Try.prog (Builtin.append_ #[57, 57] ty #[v, .slice A m c]) w = some (v', w') ∧ w'.ownsRow base 41 1 v' (n + m) (xs ++ news) ∧ w.grownBy w' v.ownBlock := e_append Try.underlying57 inf41 zero41 size41 bytes41 rfl (by decide) hown hl hr hnil h1 h63 hbytes hbase
theorem zero36 : (inf 36).zero = some .nilIface := by kernel_rfl
theorem bytes36 : (inf 36).bytes = 16 := id (by kernel_rfl)
theorem ap63 {w : World} {base : Nat} {ty : TypeId} {v : Value} {n : Nat} {xs : List Value} (hown : w.ownsRow base 36 1 v n xs) {A : Option Addr} {m c : Nat} {news : List Value} (hl : news.length = m * 1) (hr : Rd w A news) (hnil : A = none → c = 0) (h1 : ∀ u ∈ news, u.oneCell' = true) (h63 : n + m ≤ maxLen) (hbytes : (n + m) * 16 ≤ 140737488355328) (hbase : base ≤ w.heap.size) :
    ∃ v' w', erun Try.prog (Builtin.append_ #[63, 63] ty #[v, .slice A m c]) w = some (v', w') ∧ w'.ownsRow base 36 1 v' (n + m) (xs ++ news) ∧ w.grownBy w' v.ownBlock := e_append Try.underlying63 inf36 zero36 size36 bytes36 rfl (by decide) hown hl hr hnil h1 h63 hbytes hbase
theorem zero90 : (inf 90).zero = some (.pointer none) := by kernel_rfl
theorem bytes90 : (inf 90).bytes = 8 := id (by kernel_rfl)
theorem ap64 {w : World} {base : Nat} {ty : TypeId} {v : Value} {n : Nat} {xs : List Value} (hown : w.ownsRow base 90 1 v n xs) {A : Option Addr} {m c : Nat} {news : List Value} (hl : news.length = m * 1) (hr : Rd w A news) (hnil : A = none → c = 0) (h1 : ∀ u ∈ news, u.oneCell' = true) (h63 : n + m ≤ maxLen) (hbytes : (n + m) * 8 ≤ 140737488355328) (hbase : base ≤ w.heap.size) :
    ∃ v' w', erun Try.prog (Builtin.append_ #[64, 64] ty #[v, .slice A m c]) w = some (v', w') ∧ w'.ownsRow base 90 1 v' (n + m) (xs ++ news) ∧ w.grownBy w' v.ownBlock := e_append Try.underlying64 inf90 zero90 size90 bytes90 rfl (by decide) hown hl hr hnil h1 h63 hbytes hbase
theorem mk22 {w : World} (base : Nat) (n : Nat) (hbytes : 1 * n ≤ 281474976710656) (h63 : n ≤ maxLen) (hbase : base ≤ w.heap.size) :
    ∃ w', erun Try.prog (Instr.makeSlice 22 (.int .i64 (n : Int)) (.int .i64 (n : Int))) w = some (.slice (some ⟨w.heap.size, 0, none⟩) n n, w') ∧ w'.ownsRow base 5 1 (.slice (some ⟨w.heap.size, 0, none⟩) n n) n (madeCells ((.int .u8 0) : Value).cells (n * 1)).toList ∧ w.grownBy w' none := e_make Try.underlying22 inf5 zero5 size5 .i64 .i64 n (by rw [bytes5]; exact hbytes) h63 hbase
@[simp] theorem bs22_0 (w : World) : erun Try.prog (Instr.buildSlice 22 0 #[]) w = some (.slice (some ⟨w.heap.size, 0, none⟩) 0 0, w.alloc (.cells #[] 5)) := id (by kernel_rfl)
@[simp] theorem bs41_0 (w : World) : erun Try.prog (Instr.buildSlice 41 0 #[]) w = some (.slice (some ⟨w.heap.size, 0, none⟩) 0 0, w.alloc (.cells #[] 40)) := id (by kernel_rfl)
@[simp] theorem bs50_0 (w : World) : erun Try.prog (Instr.buildSlice 50 0 #[]) w = some (.slice (some ⟨w.heap.size, 0, none⟩) 0 0, w.alloc (.cells #[] 22)) := id (by kernel_rfl)
@[simp] theorem bs55_0 (w : World) : erun Try.prog (Instr.buildSlice 55 0 #[]) w = some (.slice (some ⟨w.heap.size, 0, none⟩) 0 0, w.alloc (.cells #[] 99)) := id (by kernel_rfl)
@[simp] theorem bs56_0 (w : World) : erun Try.prog (Instr.buildSlice 56 0 #[]) w = some (.slice (some ⟨w.heap.size, 0, none⟩) 0 0, w.alloc (.cells #[] 101)) := id (by kernel_rfl)
@[simp] theorem bs57_0 (w : World) : erun Try.prog (Instr.buildSlice 57 0 #[]) w = some (.slice (some ⟨w.heap.size, 0, none⟩) 0 0, w.alloc (.cells #[] 41)) := id (by kernel_rfl)
@[simp] theorem bs63_0 (w : World) : erun Try.prog (Instr.buildSlice 63 0 #[]) w = some (.slice (some ⟨w.heap.size, 0, none⟩) 0 0, w.alloc (.cells #[] 36)) := id (by kernel_rfl)
@[simp] theorem bs64_0 (w : World) : erun Try.prog (Instr.buildSlice 64 0 #[]) w = some (.slice (some ⟨w.heap.size, 0, none⟩) 0 0, w.alloc (.cells #[] 90)) := id (by kernel_rfl)
theorem tx22_9 {w : World} {A : Option Addr} {c : Nat} {l : List UInt8} {n : Nat} (hn : l.length = n) (hr : Rd w A (bv l)) : rrun Try.prog (convert 22 9 (.slice A n c)) w = some (.string ⟨l.toArray⟩) := e_text Try.underlying22 Try.underlying5 Try.underlying9 hn hr
@[simp] theorem eql4_b (x y : Operand) (a b : Bool) : prun Try.prog (do eqGuard .eql 4 x y (.bool a) (.bool b); binOp .eql 4 (.bool a) (.bool b)) = some (.bool (a == b)) := id (by kernel_rfl)
@[simp] theorem eql9_s (x y : Operand) (a b : ByteArray) : prun Try.prog (do eqGuard .eql 9 x y (.string a) (.string b); binOp .eql 9 (.string a) (.string b)) = some (.bool (a.toList == b.toList)) := id (by kernel_rfl)
@[simp] theorem eql22_some (x y : Operand) (a : Addr) (n c : Nat) (w : World) : rrun Try.prog (do eqGuard .eql 22 x y (.slice (some a) n c) (.slice none 0 0); binOp .eql 22 (.slice (some a) n c) (.slice none 0 0)) w = some (.bool false) := id (by kernel_rfl)
@[simp] theorem eql22_none (x y : Operand) (w : World) : rrun Try.prog (do eqGuard .eql 22 x y (.slice none 0 0) (.slice none 0 0); binOp .eql 22 (.slice none 0 0) (.slice none 0 0)) w = some (.bool true) := id (by kernel_rfl)
@[simp] theorem eql24_some (x y : Operand) (a : Addr) (w : World) : rrun Try.prog (do eqGuard .eql 24 x y (.pointer (some a)) (.pointer none); binOp .eql 24 (.pointer (some a)) (.pointer none)) w = some (.bool false) := id (by kernel_rfl)
@[simp] theorem eql24_none (x y : Operand) (w : World) : rrun Try.prog (do eqGuard .eql 24 x y (.pointer none) (.pointer none); binOp .eql 24 (.pointer none) (.pointer none)) w = some (.bool true) := id (by kernel_rfl)
@[simp] theorem eql36_some (x y : Operand) (u : TypeId) (v : Value) (w : World) : rrun Try.prog (do eqGuard .eql 36 x y (.iface u v) .nilIface; binOp .eql 36 (.iface u v) .nilIface) w = some (.bool false) := id (by kernel_rfl)
@[simp] theorem eql36_none (x : Operand) (c : Value) (w : World) : rrun Try.prog (do eqGuard .eql 36 x (.const c) .nilIface .nilIface; binOp .eql 36 .nilIface .nilIface) w = some (.bool true) := id (by cases x <;> kernel_rfl)
theorem eqf40 (a0 b0 : Int) (a1 b1 : Int) (w : World) : rrun Try.prog (Op.eqFields 9999 #[(.int .i64 a0), (.int .i64 a1)] #[(.int .i64 b0), (.int .i64 b1)] (Try.prog.fieldsOf 40).toList) w = some (a0 == b0 && (a1 == b1 && true)) := by
  simp only [Program.fieldsOf, Try.underlying40]
  exact (rr_eqFields_cons w 9999 _ _ _ _ _ _ _ _ (by decide) (by kernel_rfl) (by kernel_rfl) (rr_equalIn_int w 9998 3 .i64 .i64 a0 b0 Try.underlying3) (rr_eqFields_cons w 9999 _ _ _ _ _ _ _ _ (by decide) (by kernel_rfl) (by kernel_rfl) (rr_equalIn_int w 9998 3 .i64 .i64 a1 b1 Try.underlying3) (rr_eqFields_nil w 9999 _ _)))
@[simp] theorem eql40_st (x y : Operand) (a0 b0 : Int) (a1 b1 : Int) (w : World) : rrun Try.prog (do eqGuard .eql 40 x y (.agg #[(.int .i64 a0), (.int .i64 a1)]) (.agg #[(.int .i64 b0), (.int .i64 b1)]); binOp .eql 40 (.agg #[(.int .i64 a0), (.int .i64 a1)]) (.agg #[(.int .i64 b0), (.int .i64 b1)])) w = some (.bool ((a0 == b0 && a1 == b1))) := by
  have h := rr_eql (P := Try.prog) w 40 x y #[(.int .i64 a0), (.int .i64 a1)] #[(.int .i64 b0), (.int .i64 b1)] _ (by kernel_rfl) (by kernel_rfl) (by kernel_rfl) (eqf40 a0 b0 a1 b1 w)
  simpa only [Bool.and_true, Bool.and_assoc] using h
@[simp] theorem eql41_some (x y : Operand) (a : Addr) (n c : Nat) (w : World) : rrun Try.prog (do eqGuard .eql 41 x y (.slice (some a) n c) (.slice none 0 0); binOp .eql 41 (.slice (some a) n c) (.slice none 0 0)) w = some (.bool false) := id (by kernel_rfl)
@[simp] theorem eql41_none (x y : Operand) (w : World) : rrun Try.prog (do eqGuard .eql 41 x y (.slice none 0 0) (.slice none 0 0); binOp .eql 41 (.slice none 0 0) (.slice none 0 0)) w = some (.bool true) := id (by kernel_rfl)
@[simp] theorem eql90_some (x y : Operand) (a : Addr) (w : World) : rrun Try.prog (do eqGuard .eql 90 x y (.pointer (some a)) (.pointer none); binOp .eql 90 (.pointer (some a)) (.pointer none)) w = some (.bool false) := id (by kernel_rfl)
@[simp] theorem eql90_none (x y : Operand) (w : World) : rrun Try.prog (do eqGuard .eql 90 x y (.pointer none) (.pointer none); binOp .eql 90 (.pointer none) (.pointer none)) w = some (.bool true) := id (by kernel_rfl)
@[simp] theorem neq40_st (x y : Operand) (a0 b0 : Int) (a1 b1 : Int) (w : World) : rrun Try.prog (do eqGuard .neq 40 x y (.agg #[(.int .i64 a0), (.int .i64 a1)]) (.agg #[(.int .i64 b0), (.int .i64 b1)]); binOp .neq 40 (.agg #[(.int .i64 a0), (.int .i64 a1)]) (.agg #[(.int .i64 b0), (.int .i64 b1)])) w = some (.bool (!(a0 == b0 && a1 == b1))) := by
  have h := rr_neq (P := Try.prog) w 40 x y #[(.int .i64 a0), (.int .i64 a1)] #[(.int .i64 b0), (.int .i64 b1)] _ (by kernel_rfl) (by kernel_rfl) (by kernel_rfl) (eqf40 a0 b0 a1 b1 w)
  simpa only [Bool.and_true, Bool.and_assoc] using h
@[simp] theorem mi82 (x : Value) : prun Try.prog (Instr.makeInterface 82 x) = some (.iface 82 x) := id (by kernel_rfl)
end Go.Sh.Ytokpgallfmpmkaa
