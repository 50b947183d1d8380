/- The functions of the seat's program as plain ones over the layer 'Sh', written by a program of this session's own; no condition. -/
import Derived.Test.YtokpgallfmpmkaaProg
import Derived.Test.YtokpgallfmpmkaaShEq
import Derived.KernelRfl
namespace Go.Sh.Ytokpgallfmpmkaa
open Go Go.Proofs
set_option linter.unusedVariables false
set_option maxRecDepth 100000

/-- dailies/dailieslaw15.MediumFull -/
def f3.ann : Ann := (.s .z (.s .z (.s (.s .z (.j [0, 1, 5] .z .z)) (.s .z (.s .z (.s .z (.s (.s .z (.c (.s .z .z) .z)) (.s .z (.s (.s .z (.c (.s .z .z) .z)) (.s .z (.s .z (.s .z (.s (.s .z (.c (.s .z .z) .z)) (.s .z (.s (.s .z (.c (.s .z (.s .z .z)) .z)) (.s .z (.s .z (.s (.s .z (.c (.s .z .z) .z)) (.s .z (.s .z (.s .z .z)))))))))))))))))))))
noncomputable def f3 (call : CallF) (t0 : Value) (o1 : Value) (W0 : World) : Option (Value × World) :=
  ((call 7 #[] W0).bind fun r26 =>
  (prun Try.prog (Builtin.len_ #[22] 3 #[o1])).bind fun v28 =>
  (bin .gtr v28 (Value.int IntKind.i64 1000)).bind fun v29 =>
  (asB v29).bind fun c29 =>
  (if c29 then
    (prun Try.prog (Instr.sliceAt 22 o1 none (some (Value.int IntKind.i64 1000)) none)).bind fun v31 =>
    some (Res.norm [t0, v31, r26.1] r26.2)
   else
    some (Res.norm [t0, o1, r26.1] r26.2)).bind fun (r : Res) => r.cont fun vs W1 =>
  let t0_1 := nth vs 0
  let o1_1 := nth vs 1
  let a5 := nth vs 2
  (erun Try.prog (Instr.makeSlice 22 (Value.int IntKind.i64 268435457) (Value.int IntKind.i64 268435457)) W1).bind fun r32 =>
  (call 8 #[r32.1] r32.2).bind fun r35 =>
  (prun Try.prog (Instr.extract r35.1 0)).bind fun v36 =>
  (prun Try.prog (Instr.extract r35.1 1)).bind fun v37 =>
  (call 8 #[o1_1] r35.2).bind fun r40 =>
  (prun Try.prog (Instr.extract r40.1 0)).bind fun v41 =>
  (prun Try.prog (Instr.extract r40.1 1)).bind fun v42 =>
  (prun Try.prog (Op.unary .not a5)).bind fun v44 =>
  (asB v44).bind fun b45 =>
  (if b45 = false then (rrun Try.prog (do eqGuard .neq 24 (Operand.tmp 46) (Operand.const (Value.pointer none)) v36 (Value.pointer none); binOp .neq 24 v36 (Value.pointer none)) r40.2).bind fun v47 =>
    some (v47, r40.2)
   else some ((Value.bool true), r40.2)).bind fun r48 =>
  (asB r48.1).bind fun b49 =>
  (if b49 = false then (bin .neq v37 (Value.int IntKind.i64 153)).bind fun v51 =>
    some (v51, r48.2)
   else some ((Value.bool true), r48.2)).bind fun r52 =>
  (asB r52.1).bind fun b53 =>
  (if b53 = false then (bin .neq v42 (Value.int IntKind.i64 0)).bind fun v55 =>
    some (v55, r52.2)
   else some ((Value.bool true), r52.2)).bind fun r56 =>
  (asB r56.1).bind fun b57 =>
  (if b57 = false then (rrun Try.prog (do eqGuard .eql 24 (Operand.tmp 58) (Operand.const (Value.pointer none)) v41 (Value.pointer none); binOp .eql 24 v41 (Value.pointer none)) r56.2).bind fun v59 =>
    some (v59, r56.2)
   else some ((Value.bool true), r56.2)).bind fun r60 =>
  (asB r60.1).bind fun b61 =>
  (if b61 = false then (call 9 #[v41, (Value.int IntKind.i64 1), (Value.int IntKind.i64 3)] r60.2).bind fun r63 =>
    (bin .neq r63.1 (Value.int IntKind.i64 0)).bind fun v64 =>
    some (v64, r63.2)
   else some ((Value.bool true), r60.2)).bind fun r65 =>
  (asB r65.1).bind fun c65 =>
  if c65 then
    some (Res.ret [(Value.bool false)] r65.2)
  else
  (prun Try.prog (Builtin.len_ #[22] 3 #[o1_1])).bind fun v70 =>
  (bin .sub (Value.int IntKind.i64 268435456) v70).bind fun v71 =>
  (bin .add v71 (Value.int IntKind.i64 1)).bind fun v72 =>
  (prun Try.prog (Instr.sliceAt 22 r32.1 none (some v72) none)).bind fun v73 =>
  (call 10 #[v41, v73] r65.2).bind fun r74 =>
  (prun Try.prog (Instr.extract r74.1 0)).bind fun v75 =>
  (prun Try.prog (Instr.extract r74.1 1)).bind fun v76 =>
  (bin .neq v76 (Value.int IntKind.i64 153)).bind fun v78 =>
  (asB v78).bind fun b79 =>
  (if b79 = false then (bin .neq v75 (Value.int IntKind.i64 0)).bind fun v81 =>
    some (v81, r74.2)
   else some ((Value.bool true), r74.2)).bind fun r82 =>
  (asB r82.1).bind fun b83 =>
  (if b83 = false then (call 11 #[v41] r82.2).bind fun r85 =>
    (prun Try.prog (Builtin.len_ #[22] 3 #[o1_1])).bind fun v87 =>
    (bin .neq r85.1 v87).bind fun v88 =>
    some (v88, r85.2)
   else some ((Value.bool true), r82.2)).bind fun r89 =>
  (asB r89.1).bind fun b90 =>
  (if b90 = false then (call 12 #[v41] r89.2).bind fun r92 =>
    some (r92.1, r92.2)
   else some ((Value.bool true), r89.2)).bind fun r93 =>
  (asB r93.1).bind fun c93 =>
  if c93 then
    some (Res.ret [(Value.bool false)] r93.2)
  else
  (call 10 #[v41, o1_1] r93.2).bind fun r97 =>
  (prun Try.prog (Instr.extract r97.1 0)).bind fun v98 =>
  (prun Try.prog (Instr.extract r97.1 1)).bind fun v99 =>
  (call 10 #[v41, r32.1] r97.2).bind fun r103 =>
  (prun Try.prog (Instr.extract r103.1 0)).bind fun v104 =>
  (prun Try.prog (Instr.extract r103.1 1)).bind fun v105 =>
  (prun Try.prog (Builtin.len_ #[22] 3 #[o1_1])).bind fun v107 =>
  (prun Try.prog (Builtin.len_ #[22] 3 #[o1_1])).bind fun v109 =>
  (prun Try.prog (Builtin.min_ #[3, 3] 3 #[(Value.int IntKind.i64 3), v109])).bind fun v110 =>
  (bin .add v107 v110).bind fun v111 =>
  (bin .neq v99 (Value.int IntKind.i64 152)).bind fun v113 =>
  (asB v113).bind fun b114 =>
  (if b114 = false then (bin .neq v105 (Value.int IntKind.i64 152)).bind fun v116 =>
    some (v116, r103.2)
   else some ((Value.bool true), r103.2)).bind fun r117 =>
  (asB r117.1).bind fun b118 =>
  (if b118 = false then (call 12 #[v41] r117.2).bind fun r120 =>
    (prun Try.prog (Op.unary .not r120.1)).bind fun v121 =>
    some (v121, r120.2)
   else some ((Value.bool true), r117.2)).bind fun r122 =>
  (asB r122.1).bind fun b123 =>
  (if b123 = false then (call 11 #[v41] r122.2).bind fun r125 =>
    (bin .neq r125.1 v111).bind fun v127 =>
    some (v127, r125.2)
   else some ((Value.bool true), r122.2)).bind fun r128 =>
  (asB r128.1).bind fun c128 =>
  if c128 then
    some (Res.ret [(Value.bool false)] r128.2)
  else
  (call 13 #[v41] r128.2).bind fun r130 =>
  (call 14 #[t0_1, (Value.int IntKind.i64 256)] r130.2).bind fun r132 =>
  (bin .gtr r132.1 (Value.int IntKind.i64 0)).bind fun v133 =>
  (asB v133).bind fun c133 =>
  if c133 then
    (call 10 #[v41, o1_1] r132.2).bind fun r137 =>
    (prun Try.prog (Instr.extract r137.1 0)).bind fun v138 =>
    (prun Try.prog (Instr.extract r137.1 1)).bind fun v139 =>
    (bin .eql v138 v111).bind fun v142 =>
    (asB v142).bind fun b143 =>
    (if b143 = true then (bin .eql v139 (Value.int IntKind.i64 0)).bind fun v145 =>
      some (v145, r137.2)
     else some ((Value.bool false), r137.2)).bind fun r146 =>
    (asB r146.1).bind fun b147 =>
    (if b147 = true then (call 11 #[v41] r146.2).bind fun r149 =>
      (prun Try.prog (Builtin.len_ #[22] 3 #[o1_1])).bind fun v152 =>
      (bin .add v111 v152).bind fun v153 =>
      (bin .eql r149.1 v153).bind fun v154 =>
      some (v154, r149.2)
     else some ((Value.bool false), r146.2)).bind fun r155 =>
    some (Res.ret [r155.1] r155.2)
  else
  (prun Try.prog (Instr.sliceAt 22 r32.1 none (some (Value.int IntKind.i64 268435456)) none)).bind fun v158 =>
  (call 8 #[v158] r132.2).bind fun r159 =>
  (prun Try.prog (Instr.extract r159.1 0)).bind fun v160 =>
  (prun Try.prog (Instr.extract r159.1 1)).bind fun v161 =>
  (bin .neq v161 (Value.int IntKind.i64 0)).bind fun v163 =>
  (asB v163).bind fun b164 =>
  (if b164 = false then (rrun Try.prog (do eqGuard .eql 24 (Operand.tmp 165) (Operand.const (Value.pointer none)) v160 (Value.pointer none); binOp .eql 24 v160 (Value.pointer none)) r159.2).bind fun v166 =>
    some (v166, r159.2)
   else some ((Value.bool true), r159.2)).bind fun r167 =>
  (asB r167.1).bind fun c167 =>
  if c167 then
    some (Res.ret [(Value.bool false)] r167.2)
  else
  (erun Try.prog (Instr.buildSlice 22 1 #[(0, (Value.int IntKind.u8 1))]) r167.2).bind fun r170 =>
  (call 10 #[v160, r170.1] r170.2).bind fun r171 =>
  (prun Try.prog (Instr.extract r171.1 0)).bind fun v172 =>
  (prun Try.prog (Instr.extract r171.1 1)).bind fun v173 =>
  (call 10 #[v160, (Value.slice none 0 0)] r171.2).bind fun r176 =>
  (prun Try.prog (Instr.extract r176.1 0)).bind fun v177 =>
  (prun Try.prog (Instr.extract r176.1 1)).bind fun v178 =>
  (bin .eql v173 (Value.int IntKind.i64 153)).bind fun v180 =>
  (asB v180).bind fun b181 =>
  (if b181 = true then (bin .eql v178 (Value.int IntKind.i64 0)).bind fun v183 =>
    some (v183, r176.2)
   else some ((Value.bool false), r176.2)).bind fun r184 =>
  (asB r184.1).bind fun b185 =>
  (if b185 = true then (bin .eql v177 (Value.int IntKind.i64 268435456)).bind fun v187 =>
    some (v187, r184.2)
   else some ((Value.bool false), r184.2)).bind fun r188 =>
  (asB r188.1).bind fun b189 =>
  (if b189 = true then (call 11 #[v160] r188.2).bind fun r191 =>
    (bin .eql r191.1 (Value.int IntKind.i64 268435456)).bind fun v192 =>
    some (v192, r191.2)
   else some ((Value.bool false), r188.2)).bind fun r193 =>
  some (Res.ret [r193.1] r193.2)).bind Res.done
theorem f3.eq (call dfr : CallF) (t0 : Value) (o1 : Value) (W0 : World) : aFun Try.prog call dfr Try.f3 f3.ann (ofArgs #[t0, o1]) W0 = f3 call t0 o1 W0 := by kernel_rfl

/-- dailies/dailieslaw15.MediumLogged -/
def f4.ann : Ann := (.s .z (.s .z (.s .z (.s (.s .z (.c (.s .z .z) .z)) (.s (.s .z (.c (.s .z .z) .z)) (.s .z (.s .z (.s (.s .z (.c (.s .z .z) .z)) (.s .z (.s (.s .z (.b [6, 11] (.l [0, 1, 6, 8, 9, 11, 12] (.s (.s .z (.c .z .z)) (.s (.b [0, 1, 6, 8, 9, 11, 12] (.s .z (.s .z (.s .z (.s .z (.s .z (.s (.s .z (.j [0, 1, 6, 8, 9, 11, 12, 13, 14, 15, 16, 17] (.s .z (.s .z .z)) .z)) (.s .z (.s (.s .z (.c (.s .z .z) .z)) (.s (.s .z (.j [0, 1, 6, 8, 9, 11, 12] .z .z)) (.s .z (.s .z (.s .z .z))))))))))))) .z))))) (.s .z (.s .z (.s .z (.s .z .z))))))))))))))
noncomputable def f4.l0 (call : CallF) (vs : List Value) (W1 : World) : Option Res :=
  let t0_1 := nth vs 0
  let o1_1 := nth vs 1
  let y6 := nth vs 2
  let v8 := nth vs 3
  let v9 := nth vs 4
  let v11 := nth vs 5
  let v12 := nth vs 6
  (prun Try.prog (Builtin.len_ #[34] 3 #[o1_1])).bind fun v67 =>
  (bin .lss v12 v67).bind fun v68 =>
  (asB v68).bind fun c68 =>
  if c68 then
    ((prun Try.prog (Instr.indexAt 34 o1_1 v12)).bind fun v73 =>
    (prun Try.prog (Instr.fieldAt 43 v73 0)).bind fun v74 =>
    (rrun Try.prog (Instr.loadAt 3 v74) W1).bind fun v75 =>
    (prun Try.prog (Instr.indexAt 34 o1_1 v12)).bind fun v78 =>
    (prun Try.prog (Instr.fieldAt 43 v78 1)).bind fun v79 =>
    (rrun Try.prog (Instr.loadAt 3 v79) W1).bind fun v80 =>
    (prun Try.prog (Builtin.len_ #[22] 3 #[t0_1])).bind fun v82 =>
    (prun Try.prog (Instr.indexAt 34 o1_1 v12)).bind fun v85 =>
    (prun Try.prog (Instr.fieldAt 43 v85 2)).bind fun v86 =>
    (rrun Try.prog (Instr.loadAt 4 v86) W1).bind fun v87 =>
    (asB v87).bind fun c87 =>
    (if c87 then
      (prun Try.prog (Builtin.len_ #[22] 3 #[t0_1])).bind fun v90 =>
      (bin .sub v90 v8).bind fun v92 =>
      (imethod Try.prog v9 "Read" W1).bind fun m97 =>
      (call m97.1 #[m97.2, v75, v80] W1).bind fun r97 =>
      (prun Try.prog (Instr.extract r97.1 0)).bind fun v98 =>
      (prun Try.prog (Instr.extract r97.1 1)).bind fun v99 =>
      some (Res.norm [t0_1, o1_1, y6, v8, v9, v11, v12, v75, v80, v8, v92, v99] r97.2)
     else
      (call 16 #[y6, v75, v80] W1).bind fun r104 =>
      (prun Try.prog (Instr.extract r104.1 0)).bind fun v105 =>
      (prun Try.prog (Instr.extract r104.1 1)).bind fun v106 =>
      some (Res.norm [t0_1, o1_1, y6, v8, v9, v11, v12, v75, v80, (Value.int IntKind.i64 0), v82, v106] r104.2)).bind fun (r : Res) => r.cont fun vs_1 W2 =>
    let t0_2 := nth vs_1 0
    let o1_2 := nth vs_1 1
    let y6_1 := nth vs_1 2
    let v8_1 := nth vs_1 3
    let v9_1 := nth vs_1 4
    let v11_1 := nth vs_1 5
    let v12_1 := nth vs_1 6
    let v13 := nth vs_1 7
    let v14 := nth vs_1 8
    let v15 := nth vs_1 9
    let v16 := nth vs_1 10
    let v17 := nth vs_1 11
    (bin .geq v13 (Value.int IntKind.i64 0)).bind fun v108 =>
    (asB v108).bind fun b109 =>
    (if b109 = true then (bin .geq v14 (Value.int IntKind.i64 0)).bind fun v111 =>
      some (v111, W2)
     else some ((Value.bool false), W2)).bind fun r112 =>
    (asB r112.1).bind fun b113 =>
    (if b113 = true then (bin .leq v13 v16).bind fun v116 =>
      some (v116, r112.2)
     else some ((Value.bool false), r112.2)).bind fun r117 =>
    (asB r117.1).bind fun b118 =>
    (if b118 = true then (bin .sub v16 v13).bind fun v122 =>
      (bin .leq v14 v122).bind fun v123 =>
      some (v123, r117.2)
     else some ((Value.bool false), r117.2)).bind fun r124 =>
    (bin .eql v17 (Value.int IntKind.i64 0)).bind fun v127 =>
    (prun Try.prog (do eqGuard .neq 4 (Operand.tmp 125) (Operand.tmp 127) r124.1 v127; binOp .neq 4 r124.1 v127)).bind fun v128 =>
    (asB v128).bind fun c128 =>
    if c128 then
      some (Res.ret [(Value.bool false)] r124.2)
    else
    (asB r124.1).bind fun c129 =>
    (if c129 then
      (bin .add v15 v13).bind fun v133 =>
      (prun Try.prog (Instr.build 40 #[(0, v133), (1, v14)])).bind fun v135 =>
      (erun Try.prog (Instr.buildSlice 41 1 #[(0, v135)]) r124.2).bind fun r136 =>
      (erun Try.prog (Builtin.append_ #[41, 41] 41 #[v11_1, r136.1]) r136.2).bind fun r137 =>
      some (Res.norm [t0_2, o1_2, y6_1, v8_1, v9_1, r137.1, v12_1] r137.2)
     else
      some (Res.norm [t0_2, o1_2, y6_1, v8_1, v9_1, v11_1, v12_1] r124.2)).bind fun (r : Res) => r.cont fun vs_2 W3 =>
    let t0_3 := nth vs_2 0
    let o1_3 := nth vs_2 1
    let y6_2 := nth vs_2 2
    let v8_2 := nth vs_2 3
    let v9_2 := nth vs_2 4
    let v11_2 := nth vs_2 5
    let v12_2 := nth vs_2 6
    (call 11 #[y6_2] W3).bind fun r139 =>
    (call 12 #[y6_2] r139.2).bind fun r141 =>
    (imethod Try.prog v9_2 "Size" r141.2).bind fun m143 =>
    (call m143.1 #[m143.2] r141.2).bind fun r143 =>
    (call 17 #[y6_2] r143.2).bind fun r145 =>
    some (Res.norm [t0_3, o1_3, y6_2, v8_2, v9_2, v11_2, v12_2] r145.2)).bind fun (r : Res) => (r.unblock 1).cont fun vs_3 W4 =>
    let t0_4 := nth vs_3 0
    let o1_4 := nth vs_3 1
    let y6_3 := nth vs_3 2
    let v8_3 := nth vs_3 3
    let v9_3 := nth vs_3 4
    let v11_3 := nth vs_3 5
    let v12_3 := nth vs_3 6
    (bin .add v12_3 (Value.int IntKind.i64 1)).bind fun v70 =>
    some (Res.norm [t0_4, o1_4, y6_3, v8_3, v9_3, v11_3, v70] W4)
  else
  some (Res.exit 0 [y6, v11] W1)
noncomputable def f4 (call : CallF) (t0 : Value) (o1 : Value) (W0 : World) : Option (Value × World) :=
  ((call 7 #[] W0).bind fun r21 =>
  (call 8 #[t0] r21.2).bind fun r24 =>
  (prun Try.prog (Instr.extract r24.1 0)).bind fun v25 =>
  (prun Try.prog (Instr.extract r24.1 1)).bind fun v26 =>
  (prun Try.prog (Builtin.len_ #[22] 3 #[t0])).bind fun v28 =>
  (bin .gtr v28 (Value.int IntKind.i64 268435456)).bind fun v29 =>
  (asB v29).bind fun c29 =>
  if c29 then
    (asB r21.1).bind fun b31 =>
    (if b31 = true then (bin .eql v26 (Value.int IntKind.i64 153)).bind fun v33 =>
      some (v33, r24.2)
     else some ((Value.bool false), r24.2)).bind fun r34 =>
    some (Res.ret [r34.1] r34.2)
  else
  (prun Try.prog (Op.unary .not r21.1)).bind fun v36 =>
  (asB v36).bind fun b37 =>
  (if b37 = false then (bin .neq v26 (Value.int IntKind.i64 0)).bind fun v39 =>
    some (v39, r24.2)
   else some ((Value.bool true), r24.2)).bind fun r40 =>
  (asB r40.1).bind fun b41 =>
  (if b41 = false then (rrun Try.prog (do eqGuard .eql 24 (Operand.tmp 42) (Operand.const (Value.pointer none)) v25 (Value.pointer none); binOp .eql 24 v25 (Value.pointer none)) r40.2).bind fun v43 =>
    some (v43, r40.2)
   else some ((Value.bool true), r40.2)).bind fun r44 =>
  (asB r44.1).bind fun c44 =>
  if c44 then
    some (Res.ret [(Value.bool false)] r44.2)
  else
  (prun Try.prog (Builtin.len_ #[22] 3 #[t0])).bind fun v46 =>
  (bin .quo v46 (Value.int IntKind.i64 2)).bind fun v47 =>
  (prun Try.prog (Builtin.len_ #[22] 3 #[t0])).bind fun v52 =>
  (bin .sub v52 v47).bind fun v54 =>
  (prun Try.prog (Instr.build 40 #[(0, v47), (1, v54)])).bind fun v55 =>
  (call 15 #[v25, v55] r44.2).bind fun r56 =>
  (prun Try.prog (Instr.extract r56.1 0)).bind fun v57 =>
  (prun Try.prog (Instr.extract r56.1 1)).bind fun v58 =>
  (bin .neq v58 (Value.int IntKind.i64 0)).bind fun v60 =>
  (asB v60).bind fun b61 =>
  (if b61 = false then (rrun Try.prog (do eqGuard .eql 36 (Operand.tmp 62) (Operand.const Value.nilIface) v57 Value.nilIface; binOp .eql 36 v57 Value.nilIface) r56.2).bind fun v63 =>
    some (v63, r56.2)
   else some ((Value.bool true), r56.2)).bind fun r64 =>
  (asB r64.1).bind fun c64 =>
  if c64 then
    some (Res.ret [(Value.bool false)] r64.2)
  else
  (iter (f4.l0 call) [t0, o1, v25, v47, v57, (Value.slice none 0 0), (Value.int IntKind.i64 0)] r64.2).bind fun (r : Res) => (r.unblock 0).cont fun vs_4 W5 =>
  let y6_4 := nth vs_4 0
  let v11_4 := nth vs_4 1
  (call 18 #[y6_4] W5).bind fun r147 =>
  (call 19 #[r147.1, v11_4] r147.2).bind fun r150 =>
  (call 20 #[y6_4] r150.2).bind fun r152 =>
  (asB r150.1).bind fun b154 =>
  (if b154 = true then (call 18 #[y6_4] r152.2).bind fun r156 =>
    (prun Try.prog (Builtin.len_ #[41] 3 #[r156.1])).bind fun v157 =>
    (bin .eql v157 (Value.int IntKind.i64 0)).bind fun v158 =>
    some (v158, r156.2)
   else some ((Value.bool false), r152.2)).bind fun r159 =>
  some (Res.ret [r159.1] r159.2)).bind Res.done
theorem f4.eq (call dfr : CallF) (t0 : Value) (o1 : Value) (W0 : World) : aFun Try.prog call dfr Try.f4 f4.ann (ofArgs #[t0, o1]) W0 = f4 call t0 o1 W0 := by kernel_rfl

/-- dailies/dailieslaw15.MediumLasts -/
def f5.ann : Ann := (.s .z (.s .z (.s .z (.s (.s .z (.c (.s .z .z) .z)) (.s .z (.s .z (.s (.s .z (.c (.s .z .z) .z)) (.s .z (.s (.s .z (.b [8, 9] (.l [0, 1, 2, 8, 9, 10] (.s (.s .z (.c .z .z)) (.s (.b [0, 1, 2, 8, 9, 10] (.s .z (.s (.s .z (.j [0, 1, 2, 8, 9, 10, 11] .z .z)) (.s .z (.s (.s .z (.c (.s (.s .z (.j [0, 1, 2, 8, 9, 10, 11, 12, 13] .z .z)) (.s .z (.s .z (.s .z (.s (.s .z (.c (.s .z .z) .z)) (.s .z .z)))))) .z)) (.s (.s .z (.c (.s .z .z) .z)) .z)))))) .z))))) (.s .z (.s .z (.s .z (.s (.s .z (.c (.s .z .z) .z)) (.s .z (.s .z (.s .z .z))))))))))))))))
noncomputable def f5.l0 (call : CallF) (vs : List Value) (W1 : World) : Option Res :=
  let t0_1 := nth vs 0
  let o1_1 := nth vs 1
  let A2_1 := nth vs 2
  let v8 := nth vs 3
  let v9 := nth vs 4
  let v10 := nth vs 5
  (prun Try.prog (Builtin.len_ #[50] 3 #[t0_1])).bind fun v47 =>
  (bin .lss v10 v47).bind fun v48 =>
  (asB v48).bind fun b49 =>
  (if b49 = true then (bin .lss v10 (Value.int IntKind.i64 200000)).bind fun v51 =>
    some (v51, W1)
   else some ((Value.bool false), W1)).bind fun r52 =>
  (asB r52.1).bind fun c52 =>
  if c52 then
    ((prun Try.prog (Instr.indexAt 50 t0_1 v10)).bind fun v57 =>
    (rrun Try.prog (Instr.loadAt 22 v57) r52.2).bind fun v58 =>
    (prun Try.prog (Builtin.len_ #[22] 3 #[v58])).bind fun v60 =>
    (bin .gtr v60 (Value.int IntKind.i64 1000)).bind fun v61 =>
    (asB v61).bind fun c61 =>
    (if c61 then
      (prun Try.prog (Instr.sliceAt 22 v58 none (some (Value.int IntKind.i64 1000)) none)).bind fun v63 =>
      some (Res.norm [t0_1, o1_1, A2_1, v8, v9, v10, v63] r52.2)
     else
      some (Res.norm [t0_1, o1_1, A2_1, v8, v9, v10, v58] r52.2)).bind fun (r : Res) => r.cont fun vs_1 W2 =>
    let t0_2 := nth vs_1 0
    let o1_2 := nth vs_1 1
    let A2_2 := nth vs_1 2
    let v8_1 := nth vs_1 3
    let v9_1 := nth vs_1 4
    let v10_1 := nth vs_1 5
    let v11 := nth vs_1 6
    (call 10 #[v8_1, v11] W2).bind fun r67 =>
    (prun Try.prog (Instr.extract r67.1 0)).bind fun v68 =>
    (prun Try.prog (Instr.extract r67.1 1)).bind fun v69 =>
    (bin .add v10_1 (Value.int IntKind.i64 1)).bind fun v71 =>
    (bin .eql v71 o1_2).bind fun v73 =>
    (asB v73).bind fun c73 =>
    if c73 then
      (prun Try.prog (Builtin.len_ #[22] 3 #[v11])).bind fun v76 =>
      (bin .gtr A2_2 v76).bind fun v77 =>
      (asB v77).bind fun c77 =>
      (if c77 then
        (prun Try.prog (Builtin.len_ #[22] 3 #[v11])).bind fun v79 =>
        some (Res.norm [t0_2, o1_2, v79, v8_1, v9_1, v10_1, v11, v68, v69] r67.2)
       else
        some (Res.norm [t0_2, o1_2, A2_2, v8_1, v9_1, v10_1, v11, v68, v69] r67.2)).bind fun (r : Res) => r.cont fun vs_2 W3 =>
      let t0_3 := nth vs_2 0
      let o1_3 := nth vs_2 1
      let A2_3 := nth vs_2 2
      let v8_2 := nth vs_2 3
      let v9_2 := nth vs_2 4
      let v10_2 := nth vs_2 5
      let v11_1 := nth vs_2 6
      let v12 := nth vs_2 7
      let v13 := nth vs_2 8
      (prun Try.prog (Instr.sliceAt 22 v11_1 none (some A2_3) none)).bind fun v83 =>
      (erun Try.prog (Builtin.append_ #[22, 22] 22 #[v9_2, v83]) W3).bind fun r84 =>
      (call 16 #[v8_2, (Value.int IntKind.i64 0), (Value.int IntKind.i64 0)] r84.2).bind fun r87 =>
      (prun Try.prog (Instr.extract r87.1 0)).bind fun v88 =>
      (prun Try.prog (Instr.extract r87.1 1)).bind fun v89 =>
      (call 10 #[v8_2, (Value.slice none 0 0)] r87.2).bind fun r92 =>
      (prun Try.prog (Instr.extract r92.1 0)).bind fun v93 =>
      (prun Try.prog (Instr.extract r92.1 1)).bind fun v94 =>
      (bin .neq v13 (Value.int IntKind.i64 152)).bind fun v96 =>
      (asB v96).bind fun b97 =>
      (if b97 = false then (bin .neq v12 (Value.int IntKind.i64 0)).bind fun v99 =>
        some (v99, r92.2)
       else some ((Value.bool true), r92.2)).bind fun r100 =>
      (asB r100.1).bind fun b101 =>
      (if b101 = false then (call 12 #[v8_2] r100.2).bind fun r103 =>
        (prun Try.prog (Op.unary .not r103.1)).bind fun v104 =>
        some (v104, r103.2)
       else some ((Value.bool true), r100.2)).bind fun r105 =>
      (asB r105.1).bind fun b106 =>
      (if b106 = false then (bin .neq v89 (Value.int IntKind.i64 152)).bind fun v108 =>
        some (v108, r105.2)
       else some ((Value.bool true), r105.2)).bind fun r109 =>
      (asB r109.1).bind fun b110 =>
      (if b110 = false then (bin .neq v94 (Value.int IntKind.i64 152)).bind fun v112 =>
        some (v112, r109.2)
       else some ((Value.bool true), r109.2)).bind fun r113 =>
      (asB r113.1).bind fun b114 =>
      (if b114 = false then (call 9 #[v8_2, (Value.int IntKind.i64 0), (Value.int IntKind.i64 0)] r113.2).bind fun r116 =>
        (bin .neq r116.1 (Value.int IntKind.i64 152)).bind fun v117 =>
        some (v117, r116.2)
       else some ((Value.bool true), r113.2)).bind fun r118 =>
      (asB r118.1).bind fun c118 =>
      if c118 then
        some (Res.ret [(Value.bool false)] r118.2)
      else
      (call 13 #[v8_2] r118.2).bind fun r120 =>
      some (Res.exit 1 [t0_3, o1_3, A2_3, v8_2, r84.1, v10_2] r120.2)
    else
    (bin .neq v69 (Value.int IntKind.i64 0)).bind fun v122 =>
    (asB v122).bind fun b123 =>
    (if b123 = false then (prun Try.prog (Builtin.len_ #[22] 3 #[v9_1])).bind fun v126 =>
      (bin .neq v68 v126).bind fun v127 =>
      some (v127, r67.2)
     else some ((Value.bool true), r67.2)).bind fun r128 =>
    (asB r128.1).bind fun c128 =>
    if c128 then
      some (Res.ret [(Value.bool false)] r128.2)
    else
    (erun Try.prog (Builtin.append_ #[22, 22] 22 #[v9_1, v11]) r128.2).bind fun r131 =>
    some (Res.norm [t0_2, o1_2, A2_2, v8_1, r131.1, v10_1] r131.2)).bind fun (r : Res) => (r.unblock 1).cont fun vs_3 W4 =>
    let t0_4 := nth vs_3 0
    let o1_4 := nth vs_3 1
    let A2_4 := nth vs_3 2
    let v8_3 := nth vs_3 3
    let v9_3 := nth vs_3 4
    let v10_3 := nth vs_3 5
    (bin .add v10_3 (Value.int IntKind.i64 1)).bind fun v54 =>
    some (Res.norm [t0_4, o1_4, A2_4, v8_3, v9_3, v54] W4)
  else
  some (Res.exit 0 [v8, v9] r52.2)
noncomputable def f5 (call : CallF) (t0 : Value) (o1 : Value) (A2 : Value) (W0 : World) : Option (Value × World) :=
  ((call 7 #[] W0).bind fun r27 =>
  (call 21 #[] r27.2).bind fun r28 =>
  (prun Try.prog (Op.unary .not r27.1)).bind fun v30 =>
  (asB v30).bind fun b31 =>
  (if b31 = false then (rrun Try.prog (do eqGuard .eql 24 (Operand.tmp 32) (Operand.const (Value.pointer none)) r28.1 (Value.pointer none); binOp .eql 24 r28.1 (Value.pointer none)) r28.2).bind fun v33 =>
    some (v33, r28.2)
   else some ((Value.bool true), r28.2)).bind fun r34 =>
  (asB r34.1).bind fun c34 =>
  if c34 then
    some (Res.ret [(Value.bool false)] r34.2)
  else
  (call 14 #[o1, (Value.int IntKind.i64 200000)] r34.2).bind fun r36 =>
  (bin .add (Value.int IntKind.i64 1) r36.1).bind fun v37 =>
  (call 14 #[A2, (Value.int IntKind.i64 1200)] r36.2).bind fun r39 =>
  (call 9 #[r28.1, v37, r39.1] r39.2).bind fun r43 =>
  (bin .neq r43.1 (Value.int IntKind.i64 0)).bind fun v44 =>
  (asB v44).bind fun c44 =>
  if c44 then
    some (Res.ret [(Value.bool false)] r43.2)
  else
  (iter (f5.l0 call) [t0, v37, r39.1, r28.1, (Value.slice none 0 0), (Value.int IntKind.i64 0)] r43.2).bind fun (r : Res) => (r.unblock 0).cont fun vs_4 W5 =>
  let v8_4 := nth vs_4 0
  let v9_4 := nth vs_4 1
  (call 17 #[v8_4] W5).bind fun r133 =>
  (prun Try.prog (Builtin.len_ #[22] 3 #[v9_4])).bind fun v137 =>
  (call 16 #[v8_4, (Value.int IntKind.i64 0), v137] r133.2).bind fun r138 =>
  (prun Try.prog (Instr.extract r138.1 0)).bind fun v139 =>
  (prun Try.prog (Instr.extract r138.1 1)).bind fun v140 =>
  (prun Try.prog (Builtin.len_ #[22] 3 #[v9_4])).bind fun v144 =>
  (prun Try.prog (Instr.build 40 #[(0, (Value.int IntKind.i64 0)), (1, v144)])).bind fun v145 =>
  (call 15 #[v8_4, v145] r138.2).bind fun r146 =>
  (prun Try.prog (Instr.extract r146.1 0)).bind fun v147 =>
  (prun Try.prog (Instr.extract r146.1 1)).bind fun v148 =>
  (rrun Try.prog (convert 22 9 r133.1) r146.2).bind fun v150 =>
  (rrun Try.prog (convert 22 9 v9_4) r146.2).bind fun v152 =>
  (prun Try.prog (do eqGuard .neq 9 (Operand.tmp 150) (Operand.tmp 152) v150 v152; binOp .neq 9 v150 v152)).bind fun v153 =>
  (asB v153).bind fun b154 =>
  (if b154 = false then (bin .neq v140 (Value.int IntKind.i64 0)).bind fun v156 =>
    some (v156, r146.2)
   else some ((Value.bool true), r146.2)).bind fun r157 =>
  (asB r157.1).bind fun b158 =>
  (if b158 = false then (rrun Try.prog (convert 22 9 v139) r157.2).bind fun v160 =>
    (rrun Try.prog (convert 22 9 v9_4) r157.2).bind fun v162 =>
    (prun Try.prog (do eqGuard .neq 9 (Operand.tmp 160) (Operand.tmp 162) v160 v162; binOp .neq 9 v160 v162)).bind fun v163 =>
    some (v163, r157.2)
   else some ((Value.bool true), r157.2)).bind fun r164 =>
  (asB r164.1).bind fun b165 =>
  (if b165 = false then (bin .neq v148 (Value.int IntKind.i64 0)).bind fun v167 =>
    some (v167, r164.2)
   else some ((Value.bool true), r164.2)).bind fun r168 =>
  (asB r168.1).bind fun b169 =>
  (if b169 = false then (rrun Try.prog (do eqGuard .eql 36 (Operand.tmp 170) (Operand.const Value.nilIface) v147 Value.nilIface; binOp .eql 36 v147 Value.nilIface) r168.2).bind fun v171 =>
    some (v171, r168.2)
   else some ((Value.bool true), r168.2)).bind fun r172 =>
  (asB r172.1).bind fun c172 =>
  if c172 then
    some (Res.ret [(Value.bool false)] r172.2)
  else
  (prun Try.prog (Builtin.len_ #[22] 3 #[v9_4])).bind fun v176 =>
  (bin .quo v176 (Value.int IntKind.i64 2)).bind fun v177 =>
  (prun Try.prog (Builtin.len_ #[22] 3 #[v9_4])).bind fun v179 =>
  (prun Try.prog (Builtin.len_ #[22] 3 #[v9_4])).bind fun v181 =>
  (bin .quo v181 (Value.int IntKind.i64 2)).bind fun v182 =>
  (bin .sub v179 v182).bind fun v183 =>
  (imethod Try.prog v147 "Read" r172.2).bind fun m184 =>
  (call m184.1 #[m184.2, v177, v183] r172.2).bind fun r184 =>
  (prun Try.prog (Instr.extract r184.1 0)).bind fun v185 =>
  (prun Try.prog (Instr.extract r184.1 1)).bind fun v186 =>
  (prun Try.prog (Builtin.len_ #[22] 3 #[v9_4])).bind fun v190 =>
  (bin .quo v190 (Value.int IntKind.i64 2)).bind fun v191 =>
  (prun Try.prog (Builtin.len_ #[22] 3 #[v9_4])).bind fun v193 =>
  (prun Try.prog (Builtin.len_ #[22] 3 #[v9_4])).bind fun v195 =>
  (bin .quo v195 (Value.int IntKind.i64 2)).bind fun v196 =>
  (bin .sub v193 v196).bind fun v197 =>
  (bin .add v197 (Value.int IntKind.i64 1)).bind fun v198 =>
  (imethod Try.prog v147 "Read" r184.2).bind fun m199 =>
  (call m199.1 #[m199.2, v191, v198] r184.2).bind fun r199 =>
  (prun Try.prog (Instr.extract r199.1 0)).bind fun v200 =>
  (prun Try.prog (Instr.extract r199.1 1)).bind fun v201 =>
  ((bin .eql v186 (Value.int IntKind.i64 0)).bind fun v203 =>
  some (v203, r199.2.drew)).bind fun r203 =>
  (if wantedV true r203.1 = true then some (v185, r203.2) else some (undef, r203.2)).bind fun r205 =>
  (if wantedV true r203.1 = true then (rrun Try.prog (convert 22 9 r205.1) r205.2).bind fun v206 =>
  some (v206, r205.2) else some (undef, r205.2)).bind fun r206 =>
  (if wantedV true r203.1 = true then some (v9_4, r206.2) else some (undef, r206.2)).bind fun r207 =>
  (if wantedV true r203.1 = true then some (v9_4, r207.2) else some (undef, r207.2)).bind fun r208 =>
  (if wantedV true r203.1 = true then (prun Try.prog (Builtin.len_ #[22] 3 #[r208.1])).bind fun v209 =>
  some (v209, r208.2) else some (undef, r208.2)).bind fun r209 =>
  (if wantedV true r203.1 = true then (bin .quo r209.1 (Value.int IntKind.i64 2)).bind fun v210 =>
  some (v210, r209.2) else some (undef, r209.2)).bind fun r210 =>
  (if wantedV true r203.1 = true then (prun Try.prog (Instr.sliceAt 22 r207.1 (some r210.1) none none)).bind fun v211 =>
  some (v211, r210.2) else some (undef, r210.2)).bind fun r211 =>
  (if wantedV true r203.1 = true then (rrun Try.prog (convert 22 9 r211.1) r211.2).bind fun v212 =>
  some (v212, r211.2) else some (undef, r211.2)).bind fun r212 =>
  (if wantedV true r203.1 = true then (prun Try.prog (do eqGuard .eql 9 (Operand.tmp 206) (Operand.tmp 212) r206.1 r212.1; binOp .eql 9 r206.1 r212.1)).bind fun v213 =>
  some (v213, r212.2) else some (undef, r212.2)).bind fun r213 =>
  ((pickV r203.1 r213.1 (Value.bool false)).bind fun v214 =>
  some (v214, r213.2)).bind fun r214 =>
  (if wantedV true r214.1 = true then some (v201, r214.2) else some (undef, r214.2)).bind fun r216 =>
  (if wantedV true r214.1 = true then (bin .eql r216.1 (Value.int IntKind.i64 151)).bind fun v217 =>
  some (v217, r216.2) else some (undef, r216.2)).bind fun r217 =>
  ((pickV r214.1 r217.1 (Value.bool false)).bind fun v218 =>
  some (v218, r217.2)).bind fun r218 =>
  (if wantedV true r218.1 = true then some (v147, r218.2) else some (undef, r218.2)).bind fun r220 =>
  (if wantedV true r218.1 = true then (imethod Try.prog r220.1 "Size" r220.2).bind fun m221 =>
  (call m221.1 #[m221.2] r220.2).bind fun r221_1 =>
  some (r221_1.1, r221_1.2) else some (undef, r220.2)).bind fun r221 =>
  (if wantedV true r218.1 = true then some (v9_4, r221.2) else some (undef, r221.2)).bind fun r222 =>
  (if wantedV true r218.1 = true then (prun Try.prog (Builtin.len_ #[22] 3 #[r222.1])).bind fun v223 =>
  some (v223, r222.2) else some (undef, r222.2)).bind fun r223 =>
  (if wantedV true r218.1 = true then (bin .eql r221.1 r223.1).bind fun v224 =>
  some (v224, r223.2) else some (undef, r223.2)).bind fun r224 =>
  ((pickV r218.1 r224.1 (Value.bool false)).bind fun v225 =>
  some (v225, r224.2)).bind fun r225 =>
  chkThen (True)
  (some (Res.ret [r225.1] r225.2))).bind Res.done
theorem f5.eq (call dfr : CallF) (t0 : Value) (o1 : Value) (A2 : Value) (W0 : World) : aFun Try.prog call dfr Try.f5 f5.ann (ofArgs #[t0, o1, A2]) W0 = f5 call t0 o1 A2 W0 := by kernel_rfl

/-- dailies/dailieslaw15.shown -/
def f7.ann : Ann := (.s .z (.s .z (.s (.s .z (.c (.s .z .z) .z)) (.s .z (.s .z (.s .z (.s .z (.s .z .z))))))))
noncomputable def f7 (call : CallF)  (W0 : World) : Option (Value × World) :=
  ((call 21 #[] W0).bind fun r9 =>
  (rrun Try.prog (do eqGuard .eql 24 (Operand.tmp 10) (Operand.const (Value.pointer none)) r9.1 (Value.pointer none); binOp .eql 24 r9.1 (Value.pointer none)) r9.2).bind fun v11 =>
  (asB v11).bind fun c11 =>
  if c11 then
    some (Res.ret [(Value.bool false)] r9.2)
  else
  (erun Try.prog (Instr.buildSlice 22 3 #[(0, (Value.int IntKind.u8 97)), (1, (Value.int IntKind.u8 98)), (2, (Value.int IntKind.u8 99))]) r9.2).bind fun r14 =>
  (erun Try.prog (convert 22 22 r14.1) r14.2).bind fun r15 =>
  (call 10 #[r9.1, r15.1] r15.2).bind fun r16 =>
  (prun Try.prog (Instr.extract r16.1 0)).bind fun v17 =>
  (prun Try.prog (Instr.extract r16.1 1)).bind fun v18 =>
  (erun Try.prog (Instr.buildSlice 22 2 #[(0, (Value.int IntKind.u8 100)), (1, (Value.int IntKind.u8 101))]) r16.2).bind fun r21 =>
  (erun Try.prog (convert 22 22 r21.1) r21.2).bind fun r22 =>
  (call 10 #[r9.1, r22.1] r22.2).bind fun r23 =>
  (prun Try.prog (Instr.extract r23.1 0)).bind fun v24 =>
  (prun Try.prog (Instr.extract r23.1 1)).bind fun v25 =>
  (call 16 #[r9.1, (Value.int IntKind.i64 2), (Value.int IntKind.i64 2)] r23.2).bind fun r28 =>
  (prun Try.prog (Instr.extract r28.1 0)).bind fun v29 =>
  (prun Try.prog (Instr.extract r28.1 1)).bind fun v30 =>
  (call 18 #[r9.1] r28.2).bind fun r32 =>
  (bin .eql v17 (Value.int IntKind.i64 0)).bind fun v34 =>
  (asB v34).bind fun b35 =>
  (if b35 = true then (bin .eql v24 (Value.int IntKind.i64 3)).bind fun v37 =>
    some (v37, r32.2)
   else some ((Value.bool false), r32.2)).bind fun r38 =>
  (asB r38.1).bind fun b39 =>
  (if b39 = true then (bin .eql v18 (Value.int IntKind.i64 0)).bind fun v41 =>
    some (v41, r38.2)
   else some ((Value.bool false), r38.2)).bind fun r42 =>
  (asB r42.1).bind fun b43 =>
  (if b43 = true then (bin .eql v25 (Value.int IntKind.i64 0)).bind fun v45 =>
    some (v45, r42.2)
   else some ((Value.bool false), r42.2)).bind fun r46 =>
  (asB r46.1).bind fun b47 =>
  (if b47 = true then (bin .eql v30 (Value.int IntKind.i64 0)).bind fun v49 =>
    some (v49, r46.2)
   else some ((Value.bool false), r46.2)).bind fun r50 =>
  (asB r50.1).bind fun b51 =>
  (if b51 = true then (rrun Try.prog (convert 22 9 v29) r50.2).bind fun v53 =>
    (prun Try.prog (do eqGuard .eql 9 (Operand.tmp 53) (Operand.const (Value.string { data := #[99, 100] })) v53 (Value.string { data := #[99, 100] }); binOp .eql 9 v53 (Value.string { data := #[99, 100] }))).bind fun v54 =>
    some (v54, r50.2)
   else some ((Value.bool false), r50.2)).bind fun r55 =>
  (asB r55.1).bind fun b56 =>
  (if b56 = true then (prun Try.prog (Builtin.len_ #[41] 3 #[r32.1])).bind fun v58 =>
    (bin .eql v58 (Value.int IntKind.i64 1)).bind fun v59 =>
    some (v59, r55.2)
   else some ((Value.bool false), r55.2)).bind fun r60 =>
  (asB r60.1).bind fun b61 =>
  (if b61 = true then (prun Try.prog (Instr.indexAt 41 r32.1 (Value.int IntKind.i64 0))).bind fun v63 =>
    (rrun Try.prog (Instr.loadAt 40 v63) r60.2).bind fun v64 =>
    (prun Try.prog (Instr.build 40 #[(0, (Value.int IntKind.i64 2)), (1, (Value.int IntKind.i64 2))])).bind fun v65 =>
    (rrun Try.prog (do eqGuard .eql 40 (Operand.tmp 64) (Operand.tmp 65) v64 v65; binOp .eql 40 v64 v65) r60.2).bind fun v66 =>
    some (v66, r60.2)
   else some ((Value.bool false), r60.2)).bind fun r67 =>
  some (Res.ret [r67.1] r67.2)).bind Res.done
theorem f7.eq (call dfr : CallF)  (W0 : World) : aFun Try.prog call dfr Try.f7 f7.ann (ofArgs #[]) W0 = f7 call  W0 := by kernel_rfl

/-- dailies/medium.Load -/
def f8.ann : Ann := (.s .z (.s (.s .z (.c (.s .z .z) .z)) (.s .z .z)))
noncomputable def f8 (call : CallF) (b0 : Value) (W0 : World) : Option (Value × World) :=
  ((prun Try.prog (Builtin.len_ #[22] 3 #[b0])).bind fun v5 =>
  (bin .gtr v5 (Value.int IntKind.i64 268435456)).bind fun v6 =>
  (asB v6).bind fun c6 =>
  if c6 then
    some (Res.ret [(Value.pointer none), (Value.int IntKind.i64 153)] W0)
  else
  (call 26 #[b0] W0).bind fun r8 =>
  (prun Try.prog (Instr.build 80 #[(1, r8.1)])).bind fun v9 =>
  (erun Try.prog (Instr.box 80 v9) r8.2).bind fun r10 =>
  some (Res.ret [r10.1, (Value.int IntKind.i64 0)] r10.2)).bind Res.done
theorem f8.eq (call dfr : CallF) (b0 : Value) (W0 : World) : aFun Try.prog call dfr Try.f8 f8.ann (ofArgs #[b0]) W0 = f8 call b0 W0 := by kernel_rfl

/-- (*dailies/medium.Medium).Arm -/
def f9.ann : Ann := (.s .z (.s .z (.s .z (.s (.b [0, 1, 2] (.s .z (.c (.s .z .z) (.s .z (.c (.s .z .z) .z))))) (.s .z (.s .z .z))))))
noncomputable def f9 (call dfr : CallF) (m0 : Value) (n1 : Value) (keep2 : Value) (W0 : World) : Option (Value × World) :=
  ((nilV Try.prog m0).bind fun v8 =>
  (prun Try.prog (Instr.fieldAt 80 v8 0)).bind fun v9 =>
  (call 27 #[v9] W0).bind fun r10 =>
  (nilV Try.prog m0).bind fun v12 =>
  (prun Try.prog (Instr.fieldAt 80 v12 0)).bind fun v13 =>
  (((nilV Try.prog m0).bind fun v16 =>
  (prun Try.prog (Instr.fieldAt 80 v16 2)).bind fun v17 =>
  (rrun Try.prog (Instr.loadAt 4 v17) r10.2).bind fun v18 =>
  (asB v18).bind fun c14 =>
  if c14 then
    some (Res.ret [(Value.int IntKind.i64 152)] r10.2)
  else
  (bin .lss n1 (Value.int IntKind.i64 0)).bind fun v21 =>
  (asB v21).bind fun b22 =>
  (if b22 = false then (bin .lss keep2 (Value.int IntKind.i64 0)).bind fun v24 =>
    some (v24, r10.2)
   else some ((Value.bool true), r10.2)).bind fun r25 =>
  (asB r25.1).bind fun c19 =>
  if c19 then
    some (Res.ret [(Value.int IntKind.i64 1)] r25.2)
  else
  some (Res.norm [m0, n1, keep2] r25.2)).bind fun (r : Res) => (r.unblock 0).cont fun vs W1 =>
  let m0_1 := nth vs 0
  let n1_1 := nth vs 1
  let keep2_1 := nth vs 2
  (nilV Try.prog m0_1).bind fun v30 =>
  (prun Try.prog (Instr.fieldAt 80 v30 3)).bind fun v31 =>
  (erun Try.prog (Instr.storeAt 3 v31 n1_1) W1).bind fun r =>
  (nilV Try.prog m0_1).bind fun v32 =>
  (prun Try.prog (Instr.fieldAt 80 v32 4)).bind fun v33 =>
  (erun Try.prog (Instr.storeAt 3 v33 keep2_1) r.2).bind fun r_1 =>
  some (Res.ret [(Value.int IntKind.i64 0)] r_1.2)).bind fun (r : Res) => r.after dfr 28 #[v13]).bind Res.done
theorem f9.eq (call dfr : CallF) (m0 : Value) (n1 : Value) (keep2 : Value) (W0 : World) : aFun Try.prog call dfr Try.f9 f9.ann (ofArgs #[m0, n1, keep2]) W0 = f9 call dfr m0 n1 keep2 W0 := by kernel_rfl

/-- (*dailies/medium.Medium).Append -/
def f10.ann : Ann := (.s .z (.s .z (.s .z (.s (.b [0, 1] (.s .z (.c (.s .z .z) (.s .z (.c (.s .z .z) (.s .z (.c (.s .z (.s .z (.s .z .z))) (.s .z (.c .z .z))))))))) (.s .z (.s .z (.s .z .z)))))))
noncomputable def f10 (call dfr : CallF) (m0 : Value) (b1 : Value) (W0 : World) : Option (Value × World) :=
  ((nilV Try.prog m0).bind fun v8 =>
  (prun Try.prog (Instr.fieldAt 80 v8 0)).bind fun v9 =>
  (call 27 #[v9] W0).bind fun r10 =>
  (nilV Try.prog m0).bind fun v12 =>
  (prun Try.prog (Instr.fieldAt 80 v12 0)).bind fun v13 =>
  (((nilV Try.prog m0).bind fun v16 =>
  (prun Try.prog (Instr.fieldAt 80 v16 2)).bind fun v17 =>
  (rrun Try.prog (Instr.loadAt 4 v17) r10.2).bind fun v18 =>
  (asB v18).bind fun c14 =>
  if c14 then
    some (Res.ret [(Value.int IntKind.i64 0), (Value.int IntKind.i64 152)] r10.2)
  else
  (prun Try.prog (Builtin.len_ #[22] 3 #[b1])).bind fun v21 =>
  (nilV Try.prog m0).bind fun v23 =>
  (prun Try.prog (Instr.fieldAt 80 v23 1)).bind fun v24 =>
  (rrun Try.prog (Instr.loadAt 22 v24) r10.2).bind fun v25 =>
  (prun Try.prog (Builtin.len_ #[22] 3 #[v25])).bind fun v26 =>
  (bin .sub (Value.int IntKind.i64 268435456) v26).bind fun v27 =>
  (bin .gtr v21 v27).bind fun v28 =>
  (asB v28).bind fun c19 =>
  if c19 then
    some (Res.ret [(Value.int IntKind.i64 0), (Value.int IntKind.i64 153)] r10.2)
  else
  (nilV Try.prog m0).bind fun v31 =>
  (prun Try.prog (Instr.fieldAt 80 v31 3)).bind fun v32 =>
  (rrun Try.prog (Instr.loadAt 3 v32) r10.2).bind fun v33 =>
  (bin .eql v33 (Value.int IntKind.i64 1)).bind fun v34 =>
  (asB v34).bind fun c29 =>
  if c29 then
    ((nilV Try.prog m0).bind fun v37 =>
    some (v37, r10.2.drew)).bind fun r37 =>
    ((prun Try.prog (Instr.fieldAt 80 r37.1 1)).bind fun v38 =>
    some (v38, r37.2)).bind fun r38 =>
    ((rrun Try.prog (Instr.loadAt 22 r38.1) r38.2).bind fun v39 =>
    some (v39, r38.2)).bind fun r39 =>
    ((nilV Try.prog m0).bind fun v42 =>
    some (v42, r39.2)).bind fun r42 =>
    ((prun Try.prog (Instr.fieldAt 80 r42.1 4)).bind fun v43 =>
    some (v43, r42.2)).bind fun r43 =>
    ((rrun Try.prog (Instr.loadAt 3 r43.1) r43.2).bind fun v44 =>
    some (v44, r43.2)).bind fun r44 =>
    ((prun Try.prog (Builtin.len_ #[22] 3 #[b1])).bind fun v46 =>
    some (v46, r44.2)).bind fun r46 =>
    ((prun Try.prog (Builtin.min_ #[3, 3] 3 #[r44.1, r46.1])).bind fun v47 =>
    some (v47, r46.2)).bind fun r47 =>
    ((prun Try.prog (Instr.sliceAt 22 b1 none (some r47.1) none)).bind fun v48 =>
    some (v48, r47.2)).bind fun r48 =>
    ((erun Try.prog (Builtin.append_ #[22, 22] 22 #[r39.1, r48.1]) r48.2).bind fun r49_1 =>
    some (r49_1.1, r49_1.2)).bind fun r49 =>
    ((nilV Try.prog m0).bind fun v50 =>
    some (v50, r49.2)).bind fun r50 =>
    ((prun Try.prog (Instr.fieldAt 80 r50.1 1)).bind fun v51 =>
    some (v51, r50.2)).bind fun r51 =>
    ((erun Try.prog (Instr.storeAt 22 r51.1 r49.1) r51.2).bind fun r_1 =>
    some (undef, r_1.2)).bind fun r =>
    chkThen (True)
    ((nilV Try.prog m0).bind fun v54 =>
    (prun Try.prog (Instr.fieldAt 80 v54 2)).bind fun v55 =>
    (erun Try.prog (Instr.storeAt 4 v55 (Value.bool true)) r.2).bind fun r_2 =>
    (nilV Try.prog m0).bind fun v56 =>
    (prun Try.prog (Instr.fieldAt 80 v56 3)).bind fun v57 =>
    (erun Try.prog (Instr.storeAt 3 v57 (Value.int IntKind.i64 0)) r_2.2).bind fun r_3 =>
    some (Res.ret [(Value.int IntKind.i64 0), (Value.int IntKind.i64 152)] r_3.2))
  else
  (nilV Try.prog m0).bind fun v60 =>
  (prun Try.prog (Instr.fieldAt 80 v60 3)).bind fun v61 =>
  (rrun Try.prog (Instr.loadAt 3 v61) r10.2).bind fun v62 =>
  (bin .gtr v62 (Value.int IntKind.i64 1)).bind fun v63 =>
  (asB v63).bind fun c58 =>
  if c58 then
    (nilV Try.prog m0).bind fun v65 =>
    (prun Try.prog (Instr.fieldAt 80 v65 3)).bind fun v66 =>
    (rrun Try.prog (Instr.loadAt 3 v66) r10.2).bind fun v67 =>
    (bin .sub v67 (Value.int IntKind.i64 1)).bind fun v68 =>
    (nilV Try.prog m0).bind fun v69 =>
    (prun Try.prog (Instr.fieldAt 80 v69 3)).bind fun v70 =>
    (erun Try.prog (Instr.storeAt 3 v70 v68) r10.2).bind fun r_4 =>
    some (Res.norm [m0, b1] r_4.2)
  else
  some (Res.norm [m0, b1] r10.2)).bind fun (r : Res) => (r.unblock 0).cont fun vs W1 =>
  let m0_1 := nth vs 0
  let b1_1 := nth vs 1
  (nilV Try.prog m0_1).bind fun v72 =>
  (prun Try.prog (Instr.fieldAt 80 v72 1)).bind fun v73 =>
  (rrun Try.prog (Instr.loadAt 22 v73) W1).bind fun v74 =>
  (prun Try.prog (Builtin.len_ #[22] 3 #[v74])).bind fun v75 =>
  (nilV Try.prog m0_1).bind fun v78 =>
  (prun Try.prog (Instr.fieldAt 80 v78 1)).bind fun v79 =>
  (rrun Try.prog (Instr.loadAt 22 v79) W1).bind fun v80 =>
  (erun Try.prog (Builtin.append_ #[22, 22] 22 #[v80, b1_1]) W1).bind fun r82 =>
  (nilV Try.prog m0_1).bind fun v83 =>
  (prun Try.prog (Instr.fieldAt 80 v83 1)).bind fun v84 =>
  (erun Try.prog (Instr.storeAt 22 v84 r82.1) r82.2).bind fun r_5 =>
  some (Res.ret [v75, (Value.int IntKind.i64 0)] r_5.2)).bind fun (r : Res) => r.after dfr 28 #[v13]).bind Res.done
theorem f10.eq (call dfr : CallF) (m0 : Value) (b1 : Value) (W0 : World) : aFun Try.prog call dfr Try.f10 f10.ann (ofArgs #[m0, b1]) W0 = f10 call dfr m0 b1 W0 := by kernel_rfl

/-- (*dailies/medium.Medium).Size -/
def f11.ann : Ann := (.s .z (.s .z (.s .z (.s .z .z))))
noncomputable def f11 (call dfr : CallF) (m0 : Value) (W0 : World) : Option (Value × World) :=
  ((nilV Try.prog m0).bind fun v4 =>
  (prun Try.prog (Instr.fieldAt 80 v4 0)).bind fun v5 =>
  (call 27 #[v5] W0).bind fun r6 =>
  (nilV Try.prog m0).bind fun v8 =>
  (prun Try.prog (Instr.fieldAt 80 v8 0)).bind fun v9 =>
  ((nilV Try.prog m0).bind fun v11 =>
  (prun Try.prog (Instr.fieldAt 80 v11 1)).bind fun v12 =>
  (rrun Try.prog (Instr.loadAt 22 v12) r6.2).bind fun v13 =>
  (prun Try.prog (Builtin.len_ #[22] 3 #[v13])).bind fun v14 =>
  some (Res.ret [v14] r6.2)).bind fun (r : Res) => r.after dfr 28 #[v9]).bind Res.done
theorem f11.eq (call dfr : CallF) (m0 : Value) (W0 : World) : aFun Try.prog call dfr Try.f11 f11.ann (ofArgs #[m0]) W0 = f11 call dfr m0 W0 := by kernel_rfl

/-- (*dailies/medium.Medium).Dead -/
def f12.ann : Ann := (.s .z (.s .z (.s .z (.s .z .z))))
noncomputable def f12 (call dfr : CallF) (m0 : Value) (W0 : World) : Option (Value × World) :=
  ((nilV Try.prog m0).bind fun v4 =>
  (prun Try.prog (Instr.fieldAt 80 v4 0)).bind fun v5 =>
  (call 27 #[v5] W0).bind fun r6 =>
  (nilV Try.prog m0).bind fun v8 =>
  (prun Try.prog (Instr.fieldAt 80 v8 0)).bind fun v9 =>
  ((nilV Try.prog m0).bind fun v11 =>
  (prun Try.prog (Instr.fieldAt 80 v11 2)).bind fun v12 =>
  (rrun Try.prog (Instr.loadAt 4 v12) r6.2).bind fun v13 =>
  some (Res.ret [v13] r6.2)).bind fun (r : Res) => r.after dfr 28 #[v9]).bind Res.done
theorem f12.eq (call dfr : CallF) (m0 : Value) (W0 : World) : aFun Try.prog call dfr Try.f12 f12.ann (ofArgs #[m0]) W0 = f12 call dfr m0 W0 := by kernel_rfl

/-- (*dailies/medium.Medium).Revive -/
def f13.ann : Ann := (.s .z (.s .z .z))
noncomputable def f13 (call dfr : CallF) (m0 : Value) (W0 : World) : Option (Value × World) :=
  ((nilV Try.prog m0).bind fun v3 =>
  (prun Try.prog (Instr.fieldAt 80 v3 0)).bind fun v4 =>
  (call 27 #[v4] W0).bind fun r5 =>
  (nilV Try.prog m0).bind fun v7 =>
  (prun Try.prog (Instr.fieldAt 80 v7 0)).bind fun v8 =>
  ((nilV Try.prog m0).bind fun v11 =>
  (prun Try.prog (Instr.fieldAt 80 v11 2)).bind fun v12 =>
  (erun Try.prog (Instr.storeAt 4 v12 (Value.bool false)) r5.2).bind fun r =>
  (nilV Try.prog m0).bind fun v13 =>
  (prun Try.prog (Instr.fieldAt 80 v13 3)).bind fun v14 =>
  (erun Try.prog (Instr.storeAt 3 v14 (Value.int IntKind.i64 0)) r.2).bind fun r_1 =>
  some (Res.norm [] r_1.2)).bind fun (r : Res) => r.after dfr 28 #[v8]).bind Res.done
theorem f13.eq (call dfr : CallF) (m0 : Value) (W0 : World) : aFun Try.prog call dfr Try.f13 f13.ann (ofArgs #[m0]) W0 = f13 call dfr m0 W0 := by kernel_rfl

/-- dailies/dailieslaw15.place -/
def f14.ann : Ann := (.s .z (.s (.s .z (.j [0, 1] .z .z)) (.s .z .z)))
noncomputable def f14 (call : CallF) (c0 : Value) (n1 : Value) (W0 : World) : Option (Value × World) :=
  ((bin .lss c0 (Value.int IntKind.i64 0)).bind fun v6 =>
  (asB v6).bind fun c6 =>
  (if c6 then
    (bin .add c0 (Value.int IntKind.i64 1)).bind fun v8 =>
    (prun Try.prog (Op.unary .neg v8)).bind fun v9 =>
    some (Res.norm [v9, n1] W0)
   else
    some (Res.norm [c0, n1] W0)).bind fun (r : Res) => r.cont fun vs W1 =>
  let c0_1 := nth vs 0
  let n1_1 := nth vs 1
  (bin .rem c0_1 n1_1).bind fun v12 =>
  some (Res.ret [v12] W1)).bind Res.done
theorem f14.eq (call dfr : CallF) (c0 : Value) (n1 : Value) (W0 : World) : aFun Try.prog call dfr Try.f14 f14.ann (ofArgs #[c0, n1]) W0 = f14 call c0 n1 W0 := by kernel_rfl

/-- (*dailies/medium.Medium).Piece -/
def f15.ann : Ann := (.s .z (.s .z (.s .z (.s (.s .z (.c (.s .z .z) .z)) (.s .z .z)))))
noncomputable def f15 (call dfr : CallF) (m0 : Value) (s1 : Value) (W0 : World) : Option (Value × World) :=
  ((erun Try.prog (Instr.box 40 s1) W0).bind fun r3 =>
  (nilV Try.prog m0).bind fun v7 =>
  (prun Try.prog (Instr.fieldAt 80 v7 0)).bind fun v8 =>
  (call 27 #[v8] r3.2).bind fun r9 =>
  (nilV Try.prog m0).bind fun v11 =>
  (prun Try.prog (Instr.fieldAt 80 v11 0)).bind fun v12 =>
  ((prun Try.prog (Instr.fieldAt 40 r3.1 0)).bind fun v13 =>
  (rrun Try.prog (Instr.loadAt 3 v13) r9.2.drew).bind fun v14 =>
  (prun Try.prog (Instr.fieldAt 40 r3.1 1)).bind fun v15 =>
  (rrun Try.prog (Instr.loadAt 3 v15) r9.2.drew).bind fun v16 =>
  (nilV Try.prog m0).bind fun v18 =>
  (prun Try.prog (Instr.fieldAt 80 v18 1)).bind fun v19 =>
  (rrun Try.prog (Instr.loadAt 22 v19) r9.2.drew).bind fun v20 =>
  (prun Try.prog (Builtin.len_ #[22] 3 #[v20])).bind fun v21 =>
  (call 29 #[v14, v16, v21] r9.2.drew).bind fun r22 =>
  (prun Try.prog (Op.unary .not r22.1)).bind fun v23 =>
  (asB v23).bind fun c23 =>
  if c23 then
    some (Res.ret [Value.nilIface, (Value.int IntKind.i64 151)] r22.2)
  else
  (rrun Try.prog (Instr.loadAt 40 r3.1) r22.2).bind fun v25 =>
  (prun Try.prog (Instr.build 84 #[(0, m0), (1, v25)])).bind fun v26 =>
  (erun Try.prog (Instr.box 84 v26) r22.2).bind fun r27 =>
  (prun Try.prog (Instr.makeInterface 82 r27.1)).bind fun v28 =>
  some (Res.ret [v28, (Value.int IntKind.i64 0)] r27.2)).bind fun (r : Res) => r.after dfr 28 #[v12]).bind Res.done
theorem f15.eq (call dfr : CallF) (m0 : Value) (s1 : Value) (W0 : World) : aFun Try.prog call dfr Try.f15 f15.ann (ofArgs #[m0, s1]) W0 = f15 call dfr m0 s1 W0 := by kernel_rfl

/-- (*dailies/medium.Medium).Read -/
def f16.ann : Ann := (.s .z (.s .z (.s .z (.s .z .z))))
noncomputable def f16 (call dfr : CallF) (m0 : Value) (at1 : Value) (n2 : Value) (W0 : World) : Option (Value × World) :=
  ((nilV Try.prog m0).bind fun v9 =>
  (prun Try.prog (Instr.fieldAt 80 v9 0)).bind fun v10 =>
  (call 27 #[v10] W0).bind fun r11 =>
  (nilV Try.prog m0).bind fun v13 =>
  (prun Try.prog (Instr.fieldAt 80 v13 0)).bind fun v14 =>
  ((call 30 #[m0, at1, n2] r11.2).bind fun r18 =>
  (prun Try.prog (Instr.extract r18.1 0)).bind fun v19 =>
  (prun Try.prog (Instr.extract r18.1 1)).bind fun v20 =>
  some (Res.ret [v19, v20] r18.2)).bind fun (r : Res) => r.after dfr 28 #[v14]).bind Res.done
theorem f16.eq (call dfr : CallF) (m0 : Value) (at1 : Value) (n2 : Value) (W0 : World) : aFun Try.prog call dfr Try.f16 f16.ann (ofArgs #[m0, at1, n2]) W0 = f16 call dfr m0 at1 n2 W0 := by kernel_rfl

/-- (*dailies/medium.Medium).Bytes -/
def f17.ann : Ann := (.s .z (.s .z (.s .z (.s .z .z))))
noncomputable def f17 (call dfr : CallF) (m0 : Value) (W0 : World) : Option (Value × World) :=
  ((nilV Try.prog m0).bind fun v4 =>
  (prun Try.prog (Instr.fieldAt 80 v4 0)).bind fun v5 =>
  (call 27 #[v5] W0).bind fun r6 =>
  (nilV Try.prog m0).bind fun v8 =>
  (prun Try.prog (Instr.fieldAt 80 v8 0)).bind fun v9 =>
  ((nilV Try.prog m0).bind fun v11 =>
  (prun Try.prog (Instr.fieldAt 80 v11 1)).bind fun v12 =>
  (rrun Try.prog (Instr.loadAt 22 v12) r6.2).bind fun v13 =>
  (call 26 #[v13] r6.2).bind fun r14 =>
  (call 31 #[r14.1] r14.2).bind fun r15 =>
  some (Res.ret [r15.1] r15.2)).bind fun (r : Res) => r.after dfr 28 #[v9]).bind Res.done
theorem f17.eq (call dfr : CallF) (m0 : Value) (W0 : World) : aFun Try.prog call dfr Try.f17 f17.ann (ofArgs #[m0]) W0 = f17 call dfr m0 W0 := by kernel_rfl

/-- (*dailies/medium.Medium).Log -/
def f18.ann : Ann := (.s .z (.s .z (.s .z (.s .z .z))))
noncomputable def f18 (call dfr : CallF) (m0 : Value) (W0 : World) : Option (Value × World) :=
  ((nilV Try.prog m0).bind fun v4 =>
  (prun Try.prog (Instr.fieldAt 80 v4 0)).bind fun v5 =>
  (call 27 #[v5] W0).bind fun r6 =>
  (nilV Try.prog m0).bind fun v8 =>
  (prun Try.prog (Instr.fieldAt 80 v8 0)).bind fun v9 =>
  ((nilV Try.prog m0).bind fun v11 =>
  (prun Try.prog (Instr.fieldAt 80 v11 5)).bind fun v12 =>
  (rrun Try.prog (Instr.loadAt 41 v12) r6.2).bind fun v13 =>
  (call 33 #[v13] r6.2).bind fun r14 =>
  (call 32 #[r14.1] r14.2).bind fun r15 =>
  some (Res.ret [r15.1] r15.2)).bind fun (r : Res) => r.after dfr 28 #[v9]).bind Res.done
theorem f18.eq (call dfr : CallF) (m0 : Value) (W0 : World) : aFun Try.prog call dfr Try.f18 f18.ann (ofArgs #[m0]) W0 = f18 call dfr m0 W0 := by kernel_rfl

/-- dailies/dailieslaw15.sameSpans -/
def f19.ann : Ann := (.s .z (.s (.s .z (.c (.s .z .z) .z)) (.s (.s .z (.b [] (.l [0, 1, 5] (.s (.s .z (.c .z .z)) (.s (.b [0, 1, 5] (.s .z (.c (.s .z .z) .z))) .z))))) (.s .z .z))))
noncomputable def f19.l0 (call : CallF) (vs : List Value) (W1 : World) : Option Res :=
  let a0_1 := nth vs 0
  let b1_1 := nth vs 1
  let i5 := nth vs 2
  (prun Try.prog (Builtin.len_ #[41] 3 #[a0_1])).bind fun v13 =>
  (bin .lss i5 v13).bind fun v14 =>
  (asB v14).bind fun c14 =>
  if c14 then
    ((prun Try.prog (Instr.indexAt 41 a0_1 i5)).bind fun v19 =>
    (rrun Try.prog (Instr.loadAt 40 v19) W1.drew).bind fun v20 =>
    (prun Try.prog (Instr.indexAt 41 b1_1 i5)).bind fun v23 =>
    (rrun Try.prog (Instr.loadAt 40 v23) W1.drew).bind fun v24 =>
    (rrun Try.prog (do eqGuard .neq 40 (Operand.tmp 20) (Operand.tmp 24) v20 v24; binOp .neq 40 v20 v24) W1.drew).bind fun v25 =>
    (asB v25).bind fun c25 =>
    if c25 then
      some (Res.ret [(Value.bool false)] W1.drew)
    else
    some (Res.norm [a0_1, b1_1, i5] W1.drew)).bind fun (r : Res) => (r.unblock 1).cont fun vs_1 W2 =>
    let a0_2 := nth vs_1 0
    let b1_2 := nth vs_1 1
    let i5_1 := nth vs_1 2
    (bin .add i5_1 (Value.int IntKind.i64 1)).bind fun v16 =>
    some (Res.norm [a0_2, b1_2, v16] W2)
  else
  some (Res.exit 0 [] W1)
noncomputable def f19 (call : CallF) (a0 : Value) (b1 : Value) (W0 : World) : Option (Value × World) :=
  ((prun Try.prog (Builtin.len_ #[41] 3 #[a0])).bind fun v7 =>
  (prun Try.prog (Builtin.len_ #[41] 3 #[b1])).bind fun v9 =>
  (bin .neq v7 v9).bind fun v10 =>
  (asB v10).bind fun c10 =>
  if c10 then
    some (Res.ret [(Value.bool false)] W0)
  else
  (iter (f19.l0 call) [a0, b1, (Value.int IntKind.i64 0)] W0).bind fun (r : Res) => (r.unblock 0).cont fun vs_2 W3 =>
  some (Res.ret [(Value.bool true)] W3)).bind Res.done
theorem f19.eq (call dfr : CallF) (a0 : Value) (b1 : Value) (W0 : World) : aFun Try.prog call dfr Try.f19 f19.ann (ofArgs #[a0, b1]) W0 = f19 call a0 b1 W0 := by kernel_rfl

/-- (*dailies/medium.Medium).Forget -/
def f20.ann : Ann := (.s .z (.s .z .z))
noncomputable def f20 (call dfr : CallF) (m0 : Value) (W0 : World) : Option (Value × World) :=
  ((nilV Try.prog m0).bind fun v3 =>
  (prun Try.prog (Instr.fieldAt 80 v3 0)).bind fun v4 =>
  (call 27 #[v4] W0).bind fun r5 =>
  (nilV Try.prog m0).bind fun v7 =>
  (prun Try.prog (Instr.fieldAt 80 v7 0)).bind fun v8 =>
  ((nilV Try.prog m0).bind fun v10 =>
  (prun Try.prog (Instr.fieldAt 80 v10 5)).bind fun v11 =>
  (erun Try.prog (Instr.storeAt 41 v11 (Value.slice none 0 0)) r5.2).bind fun r =>
  some (Res.norm [] r.2)).bind fun (r : Res) => r.after dfr 28 #[v8]).bind Res.done
theorem f20.eq (call dfr : CallF) (m0 : Value) (W0 : World) : aFun Try.prog call dfr Try.f20 f20.ann (ofArgs #[m0]) W0 = f20 call dfr m0 W0 := by kernel_rfl

/-- dailies/medium.New -/
def f21.ann : Ann := (.s .z (.s .z .z))
noncomputable def f21 (call : CallF)  (W0 : World) : Option (Value × World) :=
  ((prun Try.prog (Instr.build 80 #[])).bind fun v1 =>
  (erun Try.prog (Instr.box 80 v1) W0).bind fun r2 =>
  some (Res.ret [r2.1] r2.2)).bind Res.done
theorem f21.eq (call dfr : CallF)  (W0 : World) : aFun Try.prog call dfr Try.f21 f21.ann (ofArgs #[]) W0 = f21 call  W0 := by kernel_rfl

/-- slices.Clone[[]byte,byte] -/
def f26.ann : Ann := (.s .z (.s (.s .z (.c (.s .z .z) .z)) (.s .z .z)))
noncomputable def f26 (call : CallF) (s0 : Value) (W0 : World) : Option (Value × World) :=
  ((rrun Try.prog (do eqGuard .eql 22 (Operand.tmp 3) (Operand.const (Value.slice none 0 0)) s0 (Value.slice none 0 0); binOp .eql 22 s0 (Value.slice none 0 0)) W0).bind fun v4 =>
  (asB v4).bind fun c4 =>
  if c4 then
    some (Res.ret [(Value.slice none 0 0)] W0)
  else
  (erun Try.prog (Instr.buildSlice 22 0 #[]) W0).bind fun r5 =>
  (erun Try.prog (Builtin.append_ #[22, 22] 22 #[r5.1, s0]) r5.2).bind fun r7 =>
  some (Res.ret [r7.1] r7.2)).bind Res.done
theorem f26.eq (call dfr : CallF) (s0 : Value) (W0 : World) : aFun Try.prog call dfr Try.f26 f26.ann (ofArgs #[s0]) W0 = f26 call s0 W0 := by kernel_rfl

/-- dailies/medium.lies -/
def f29.ann : Ann := (.s .z (.s .z .z))
noncomputable def f29 (call : CallF) (at0 : Value) (n1 : Value) (size2 : Value) (W0 : World) : Option (Value × World) :=
  ((bin .geq at0 (Value.int IntKind.i64 0)).bind fun v8 =>
  (asB v8).bind fun b9 =>
  (if b9 = true then (bin .geq n1 (Value.int IntKind.i64 0)).bind fun v11 =>
    some (v11, W0)
   else some ((Value.bool false), W0)).bind fun r12 =>
  (asB r12.1).bind fun b13 =>
  (if b13 = true then (bin .leq at0 size2).bind fun v16 =>
    some (v16, r12.2)
   else some ((Value.bool false), r12.2)).bind fun r17 =>
  (asB r17.1).bind fun b18 =>
  (if b18 = true then (bin .sub size2 at0).bind fun v22 =>
    (bin .leq n1 v22).bind fun v23 =>
    some (v23, r17.2)
   else some ((Value.bool false), r17.2)).bind fun r24 =>
  some (Res.ret [r24.1] r24.2)).bind Res.done
theorem f29.eq (call dfr : CallF) (at0 : Value) (n1 : Value) (size2 : Value) (W0 : World) : aFun Try.prog call dfr Try.f29 f29.ann (ofArgs #[at0, n1, size2]) W0 = f29 call at0 n1 size2 W0 := by kernel_rfl

/-- (*dailies/medium.Medium).read -/
def f30.ann : Ann := (.s .z (.s (.b [0, 1, 2] (.s .z (.c (.s .z .z) (.s .z (.c (.s .z .z) .z))))) (.s .z (.s .z .z))))
noncomputable def f30 (call : CallF) (m0 : Value) (at1 : Value) (n2 : Value) (W0 : World) : Option (Value × World) :=
  (((nilV Try.prog m0).bind fun v10 =>
  (prun Try.prog (Instr.fieldAt 80 v10 2)).bind fun v11 =>
  (rrun Try.prog (Instr.loadAt 4 v11) W0).bind fun v12 =>
  (asB v12).bind fun c8 =>
  if c8 then
    some (Res.ret [(Value.slice none 0 0), (Value.int IntKind.i64 152)] W0)
  else
  (nilV Try.prog m0).bind fun v17 =>
  (prun Try.prog (Instr.fieldAt 80 v17 1)).bind fun v18 =>
  (rrun Try.prog (Instr.loadAt 22 v18) W0).bind fun v19 =>
  (prun Try.prog (Builtin.len_ #[22] 3 #[v19])).bind fun v20 =>
  (call 29 #[at1, n2, v20] W0).bind fun r21 =>
  (prun Try.prog (Op.unary .not r21.1)).bind fun v22 =>
  (asB v22).bind fun c13 =>
  if c13 then
    some (Res.ret [(Value.slice none 0 0), (Value.int IntKind.i64 151)] r21.2)
  else
  some (Res.norm [m0, at1, n2] r21.2)).bind fun (r : Res) => (r.unblock 0).cont fun vs W1 =>
  let m0_1 := nth vs 0
  let at1_1 := nth vs 1
  let n2_1 := nth vs 2
  (nilV Try.prog m0_1).bind fun v25 =>
  (prun Try.prog (Instr.fieldAt 80 v25 5)).bind fun v26 =>
  (rrun Try.prog (Instr.loadAt 41 v26) W1).bind fun v27 =>
  (prun Try.prog (Instr.build 40 #[(0, at1_1), (1, n2_1)])).bind fun v30 =>
  (erun Try.prog (Instr.buildSlice 41 1 #[(0, v30)]) W1).bind fun r31 =>
  (erun Try.prog (Builtin.append_ #[41, 41] 41 #[v27, r31.1]) r31.2).bind fun r32 =>
  (nilV Try.prog m0_1).bind fun v33 =>
  (prun Try.prog (Instr.fieldAt 80 v33 5)).bind fun v34 =>
  (erun Try.prog (Instr.storeAt 41 v34 r32.1) r32.2).bind fun r =>
  (nilV Try.prog m0_1).bind fun v36 =>
  (prun Try.prog (Instr.fieldAt 80 v36 1)).bind fun v37 =>
  (rrun Try.prog (Instr.loadAt 22 v37) r.2).bind fun v38 =>
  (bin .add at1_1 n2_1).bind fun v42 =>
  (prun Try.prog (Instr.sliceAt 22 v38 (some at1_1) (some v42) none)).bind fun v43 =>
  (call 26 #[v43] r.2).bind fun r44 =>
  (call 31 #[r44.1] r44.2).bind fun r45 =>
  some (Res.ret [r45.1, (Value.int IntKind.i64 0)] r45.2)).bind Res.done
theorem f30.eq (call dfr : CallF) (m0 : Value) (at1 : Value) (n2 : Value) (W0 : World) : aFun Try.prog call dfr Try.f30 f30.ann (ofArgs #[m0, at1, n2]) W0 = f30 call m0 at1 n2 W0 := by kernel_rfl

/-- slices.Clip[[]byte,byte] -/
def f31.ann : Ann := (.s .z (.s .z .z))
noncomputable def f31 (call : CallF) (s0 : Value) (W0 : World) : Option (Value × World) :=
  ((prun Try.prog (Builtin.len_ #[22] 3 #[s0])).bind fun v5 =>
  (prun Try.prog (Builtin.len_ #[22] 3 #[s0])).bind fun v7 =>
  (prun Try.prog (Instr.sliceAt 22 s0 none (some v5) (some v7))).bind fun v8 =>
  some (Res.ret [v8] W0)).bind Res.done
theorem f31.eq (call dfr : CallF) (s0 : Value) (W0 : World) : aFun Try.prog call dfr Try.f31 f31.ann (ofArgs #[s0]) W0 = f31 call s0 W0 := by kernel_rfl

/-- slices.Clip[[]dailies/api.Span,dailies/api.Span] -/
def f32.ann : Ann := (.s .z (.s .z .z))
noncomputable def f32 (call : CallF) (s0 : Value) (W0 : World) : Option (Value × World) :=
  ((prun Try.prog (Builtin.len_ #[41] 3 #[s0])).bind fun v5 =>
  (prun Try.prog (Builtin.len_ #[41] 3 #[s0])).bind fun v7 =>
  (prun Try.prog (Instr.sliceAt 41 s0 none (some v5) (some v7))).bind fun v8 =>
  some (Res.ret [v8] W0)).bind Res.done
theorem f32.eq (call dfr : CallF) (s0 : Value) (W0 : World) : aFun Try.prog call dfr Try.f32 f32.ann (ofArgs #[s0]) W0 = f32 call s0 W0 := by kernel_rfl

/-- slices.Clone[[]dailies/api.Span,dailies/api.Span] -/
def f33.ann : Ann := (.s .z (.s (.s .z (.c (.s .z .z) .z)) (.s .z .z)))
noncomputable def f33 (call : CallF) (s0 : Value) (W0 : World) : Option (Value × World) :=
  ((rrun Try.prog (do eqGuard .eql 41 (Operand.tmp 3) (Operand.const (Value.slice none 0 0)) s0 (Value.slice none 0 0); binOp .eql 41 s0 (Value.slice none 0 0)) W0).bind fun v4 =>
  (asB v4).bind fun c4 =>
  if c4 then
    some (Res.ret [(Value.slice none 0 0)] W0)
  else
  (erun Try.prog (Instr.buildSlice 41 0 #[]) W0).bind fun r5 =>
  (erun Try.prog (Builtin.append_ #[41, 41] 41 #[r5.1, s0]) r5.2).bind fun r7 =>
  some (Res.ret [r7.1] r7.2)).bind Res.done
theorem f33.eq (call dfr : CallF) (s0 : Value) (W0 : World) : aFun Try.prog call dfr Try.f33 f33.ann (ofArgs #[s0]) W0 = f33 call s0 W0 := by kernel_rfl

/-- (*dailies/medium.Medium).Overwrite -/
def f38.ann : Ann := (.s .z (.s .z (.s .z (.s (.s .z (.c (.s .z .z) .z)) (.s .z (.s .z .z))))))
noncomputable def f38 (call dfr : CallF) (m0 : Value) (at1 : Value) (b2 : Value) (W0 : World) : Option (Value × World) :=
  ((nilV Try.prog m0).bind fun v8 =>
  (prun Try.prog (Instr.fieldAt 80 v8 0)).bind fun v9 =>
  (call 27 #[v9] W0).bind fun r10 =>
  (nilV Try.prog m0).bind fun v12 =>
  (prun Try.prog (Instr.fieldAt 80 v12 0)).bind fun v13 =>
  ((prun Try.prog (Builtin.len_ #[22] 3 #[b2])).bind fun v16 =>
  (nilV Try.prog m0).bind fun v18 =>
  (prun Try.prog (Instr.fieldAt 80 v18 1)).bind fun v19 =>
  (rrun Try.prog (Instr.loadAt 22 v19) r10.2).bind fun v20 =>
  (prun Try.prog (Builtin.len_ #[22] 3 #[v20])).bind fun v21 =>
  (call 29 #[at1, v16, v21] r10.2).bind fun r22 =>
  (prun Try.prog (Op.unary .not r22.1)).bind fun v23 =>
  (asB v23).bind fun c23 =>
  if c23 then
    some (Res.ret [(Value.int IntKind.i64 151)] r22.2)
  else
  (nilV Try.prog m0).bind fun v25 =>
  (prun Try.prog (Instr.fieldAt 80 v25 1)).bind fun v26 =>
  (rrun Try.prog (Instr.loadAt 22 v26) r22.2).bind fun v27 =>
  (prun Try.prog (Instr.sliceAt 22 v27 (some at1) none none)).bind fun v29 =>
  (erun Try.prog (Builtin.copy_ #[22, 22] 3 #[v29, b2]) r22.2).bind fun r31 =>
  some (Res.ret [(Value.int IntKind.i64 0)] r31.2)).bind fun (r : Res) => r.after dfr 28 #[v13]).bind Res.done
theorem f38.eq (call dfr : CallF) (m0 : Value) (at1 : Value) (b2 : Value) (W0 : World) : aFun Try.prog call dfr Try.f38 f38.ann (ofArgs #[m0, at1, b2]) W0 = f38 call dfr m0 at1 b2 W0 := by kernel_rfl

/-- (*dailies/medium.Medium).Truncate -/
def f40.ann : Ann := (.s .z (.s .z (.s .z (.s (.s .z (.c (.s .z .z) .z)) (.s .z (.s .z .z))))))
noncomputable def f40 (call dfr : CallF) (m0 : Value) (n1 : Value) (W0 : World) : Option (Value × World) :=
  ((nilV Try.prog m0).bind fun v6 =>
  (prun Try.prog (Instr.fieldAt 80 v6 0)).bind fun v7 =>
  (call 27 #[v7] W0).bind fun r8 =>
  (nilV Try.prog m0).bind fun v10 =>
  (prun Try.prog (Instr.fieldAt 80 v10 0)).bind fun v11 =>
  ((bin .lss n1 (Value.int IntKind.i64 0)).bind fun v13 =>
  (asB v13).bind fun b14 =>
  (if b14 = false then (nilV Try.prog m0).bind fun v17 =>
    (prun Try.prog (Instr.fieldAt 80 v17 1)).bind fun v18 =>
    (rrun Try.prog (Instr.loadAt 22 v18) r8.2).bind fun v19 =>
    (prun Try.prog (Builtin.len_ #[22] 3 #[v19])).bind fun v20 =>
    (bin .gtr n1 v20).bind fun v21 =>
    some (v21, r8.2)
   else some ((Value.bool true), r8.2)).bind fun r22 =>
  (asB r22.1).bind fun c22 =>
  if c22 then
    some (Res.ret [(Value.int IntKind.i64 151)] r22.2)
  else
  (nilV Try.prog m0).bind fun v25 =>
  (prun Try.prog (Instr.fieldAt 80 v25 1)).bind fun v26 =>
  (rrun Try.prog (Instr.loadAt 22 v26) r22.2).bind fun v27 =>
  (prun Try.prog (Instr.sliceAt 22 v27 none (some n1) none)).bind fun v29 =>
  (nilV Try.prog m0).bind fun v30 =>
  (prun Try.prog (Instr.fieldAt 80 v30 1)).bind fun v31 =>
  (erun Try.prog (Instr.storeAt 22 v31 v29) r22.2).bind fun r =>
  some (Res.ret [(Value.int IntKind.i64 0)] r.2)).bind fun (r : Res) => r.after dfr 28 #[v11]).bind Res.done
theorem f40.eq (call dfr : CallF) (m0 : Value) (n1 : Value) (W0 : World) : aFun Try.prog call dfr Try.f40 f40.ann (ofArgs #[m0, n1]) W0 = f40 call dfr m0 n1 W0 := by kernel_rfl

/-- (*dailies/medium.piece).Read -/
def f93.ann : Ann := (.s .z (.s .z (.s .z (.s (.b [0, 1, 2] (.s .z (.c (.s .z .z) (.s .z (.c (.s .z .z) .z))))) (.s .z .z)))))
noncomputable def f93 (call dfr : CallF) (p0 : Value) (at1 : Value) (n2 : Value) (W0 : World) : Option (Value × World) :=
  ((nilV Try.prog p0).bind fun v9 =>
  (prun Try.prog (Instr.fieldAt 84 v9 0)).bind fun v10 =>
  (rrun Try.prog (Instr.loadAt 24 v10) W0).bind fun v11 =>
  (nilV Try.prog v11).bind fun v12 =>
  (prun Try.prog (Instr.fieldAt 80 v12 0)).bind fun v13 =>
  (call 27 #[v13] W0).bind fun r14 =>
  (nilV Try.prog p0).bind fun v16 =>
  (prun Try.prog (Instr.fieldAt 84 v16 0)).bind fun v17 =>
  (rrun Try.prog (Instr.loadAt 24 v17) r14.2).bind fun v18 =>
  (nilV Try.prog v18).bind fun v19 =>
  (prun Try.prog (Instr.fieldAt 80 v19 0)).bind fun v20 =>
  (((nilV Try.prog p0).bind fun v23 =>
  (prun Try.prog (Instr.fieldAt 84 v23 0)).bind fun v24 =>
  (rrun Try.prog (Instr.loadAt 24 v24) r14.2).bind fun v25 =>
  (nilV Try.prog v25).bind fun v26 =>
  (prun Try.prog (Instr.fieldAt 80 v26 2)).bind fun v27 =>
  (rrun Try.prog (Instr.loadAt 4 v27) r14.2).bind fun v28 =>
  (asB v28).bind fun c21 =>
  if c21 then
    some (Res.ret [(Value.slice none 0 0), (Value.int IntKind.i64 152)] r14.2)
  else
  (nilV Try.prog p0).bind fun v33 =>
  (prun Try.prog (Instr.fieldAt 84 v33 1)).bind fun v34 =>
  (prun Try.prog (Instr.fieldAt 40 v34 1)).bind fun v35 =>
  (rrun Try.prog (Instr.loadAt 3 v35) r14.2).bind fun v36 =>
  (call 29 #[at1, n2, v36] r14.2).bind fun r37 =>
  (prun Try.prog (Op.unary .not r37.1)).bind fun v38 =>
  (asB v38).bind fun c29 =>
  if c29 then
    some (Res.ret [(Value.slice none 0 0), (Value.int IntKind.i64 151)] r37.2)
  else
  some (Res.norm [p0, at1, n2] r37.2)).bind fun (r : Res) => (r.unblock 0).cont fun vs W1 =>
  let p0_1 := nth vs 0
  let at1_1 := nth vs 1
  let n2_1 := nth vs 2
  ((nilV Try.prog p0_1).bind fun v40 =>
  some (v40, W1.drew)).bind fun r40 =>
  ((prun Try.prog (Instr.fieldAt 84 r40.1 0)).bind fun v41 =>
  some (v41, r40.2)).bind fun r41 =>
  ((rrun Try.prog (Instr.loadAt 24 r41.1) r41.2).bind fun v42 =>
  some (v42, r41.2)).bind fun r42 =>
  ((nilV Try.prog p0_1).bind fun v44 =>
  some (v44, r42.2)).bind fun r44 =>
  ((prun Try.prog (Instr.fieldAt 84 r44.1 1)).bind fun v45 =>
  some (v45, r44.2)).bind fun r45 =>
  ((prun Try.prog (Instr.fieldAt 40 r45.1 0)).bind fun v46 =>
  some (v46, r45.2)).bind fun r46 =>
  ((rrun Try.prog (Instr.loadAt 3 r46.1) r46.2).bind fun v47 =>
  some (v47, r46.2)).bind fun r47 =>
  ((bin .add r47.1 at1_1).bind fun v49 =>
  some (v49, r47.2)).bind fun r49 =>
  ((call 30 #[r42.1, r49.1, n2_1] r49.2).bind fun r51_1 =>
  some (r51_1.1, r51_1.2)).bind fun r51 =>
  ((prun Try.prog (Instr.extract r51.1 0)).bind fun v52 =>
  some (v52, r51.2)).bind fun r52 =>
  ((prun Try.prog (Instr.extract r51.1 1)).bind fun v53 =>
  some (v53, r52.2)).bind fun r53 =>
  chkThen (True)
  (some (Res.ret [r52.1, r53.1] r53.2))).bind fun (r : Res) => r.after dfr 28 #[v20]).bind Res.done
theorem f93.eq (call dfr : CallF) (p0 : Value) (at1 : Value) (n2 : Value) (W0 : World) : aFun Try.prog call dfr Try.f93 f93.ann (ofArgs #[p0, at1, n2]) W0 = f93 call dfr p0 at1 n2 W0 := by kernel_rfl

/-- (*dailies/medium.piece).Size -/
def f94.ann : Ann := (.s .z (.s .z .z))
noncomputable def f94 (call : CallF) (p0 : Value) (W0 : World) : Option (Value × World) :=
  ((nilV Try.prog p0).bind fun v4 =>
  (prun Try.prog (Instr.fieldAt 84 v4 1)).bind fun v5 =>
  (prun Try.prog (Instr.fieldAt 40 v5 1)).bind fun v6 =>
  (rrun Try.prog (Instr.loadAt 3 v6) W0).bind fun v7 =>
  some (Res.ret [v7] W0)).bind Res.done
theorem f94.eq (call dfr : CallF) (p0 : Value) (W0 : World) : aFun Try.prog call dfr Try.f94 f94.ann (ofArgs #[p0]) W0 = f94 call p0 W0 := by kernel_rfl

def anns (f : FuncId) : Ann := match f with
  | 3 => f3.ann
  | 4 => f4.ann
  | 5 => f5.ann
  | 7 => f7.ann
  | 8 => f8.ann
  | 9 => f9.ann
  | 10 => f10.ann
  | 11 => f11.ann
  | 12 => f12.ann
  | 13 => f13.ann
  | 14 => f14.ann
  | 15 => f15.ann
  | 16 => f16.ann
  | 17 => f17.ann
  | 18 => f18.ann
  | 19 => f19.ann
  | 20 => f20.ann
  | 21 => f21.ann
  | 26 => f26.ann
  | 29 => f29.ann
  | 30 => f30.ann
  | 31 => f31.ann
  | 32 => f32.ann
  | 33 => f33.ann
  | 38 => f38.ann
  | 40 => f40.ann
  | 93 => f93.ann
  | 94 => f94.ann
  | _ => .z
noncomputable abbrev R (prim : Prim) : CallF := Go.Sh.run Try.prog anns prim
theorem f3.run {prim : Prim} {t0 o1 : Value} {w : World} {r : Value × World} (hn : prim.call 3 #[t0, o1] w = none) (h : f3 (R prim) t0 o1 w = some r) : R prim 3 #[t0, o1] w = some r := run_body Try.func3 (by kernel_rfl) hn (by rw [show anns 3 = f3.ann from rfl, f3.eq]; exact h)
theorem f4.run {prim : Prim} {t0 o1 : Value} {w : World} {r : Value × World} (hn : prim.call 4 #[t0, o1] w = none) (h : f4 (R prim) t0 o1 w = some r) : R prim 4 #[t0, o1] w = some r := run_body Try.func4 (by kernel_rfl) hn (by rw [show anns 4 = f4.ann from rfl, f4.eq]; exact h)
theorem f5.run {prim : Prim} {t0 o1 A2 : Value} {w : World} {r : Value × World} (hn : prim.call 5 #[t0, o1, A2] w = none) (h : f5 (R prim) t0 o1 A2 w = some r) : R prim 5 #[t0, o1, A2] w = some r := run_body Try.func5 (by kernel_rfl) hn (by rw [show anns 5 = f5.ann from rfl, f5.eq]; exact h)
theorem f7.run {prim : Prim} {w : World} {r : Value × World} (hn : prim.call 7 #[] w = none) (h : f7 (R prim)  w = some r) : R prim 7 #[] w = some r := run_body Try.func7 (by kernel_rfl) hn (by rw [show anns 7 = f7.ann from rfl, f7.eq]; exact h)
theorem f8.run {prim : Prim} {b0 : Value} {w : World} {r : Value × World} (hn : prim.call 8 #[b0] w = none) (h : f8 (R prim) b0 w = some r) : R prim 8 #[b0] w = some r := run_body Try.func8 (by kernel_rfl) hn (by rw [show anns 8 = f8.ann from rfl, f8.eq]; exact h)
theorem f9.run {prim : Prim} {m0 n1 keep2 : Value} {w : World} {r : Value × World} (hn : prim.call 9 #[m0, n1, keep2] w = none) (h : f9 (R prim) prim.dfr m0 n1 keep2 w = some r) : R prim 9 #[m0, n1, keep2] w = some r := run_body Try.func9 (by kernel_rfl) hn (by rw [show anns 9 = f9.ann from rfl, f9.eq]; exact h)
theorem f10.run {prim : Prim} {m0 b1 : Value} {w : World} {r : Value × World} (hn : prim.call 10 #[m0, b1] w = none) (h : f10 (R prim) prim.dfr m0 b1 w = some r) : R prim 10 #[m0, b1] w = some r := run_body Try.func10 (by kernel_rfl) hn (by rw [show anns 10 = f10.ann from rfl, f10.eq]; exact h)
theorem f11.run {prim : Prim} {m0 : Value} {w : World} {r : Value × World} (hn : prim.call 11 #[m0] w = none) (h : f11 (R prim) prim.dfr m0 w = some r) : R prim 11 #[m0] w = some r := run_body Try.func11 (by kernel_rfl) hn (by rw [show anns 11 = f11.ann from rfl, f11.eq]; exact h)
theorem f12.run {prim : Prim} {m0 : Value} {w : World} {r : Value × World} (hn : prim.call 12 #[m0] w = none) (h : f12 (R prim) prim.dfr m0 w = some r) : R prim 12 #[m0] w = some r := run_body Try.func12 (by kernel_rfl) hn (by rw [show anns 12 = f12.ann from rfl, f12.eq]; exact h)
theorem f13.run {prim : Prim} {m0 : Value} {w : World} {r : Value × World} (hn : prim.call 13 #[m0] w = none) (h : f13 (R prim) prim.dfr m0 w = some r) : R prim 13 #[m0] w = some r := run_body Try.func13 (by kernel_rfl) hn (by rw [show anns 13 = f13.ann from rfl, f13.eq]; exact h)
theorem f14.run {prim : Prim} {c0 n1 : Value} {w : World} {r : Value × World} (hn : prim.call 14 #[c0, n1] w = none) (h : f14 (R prim) c0 n1 w = some r) : R prim 14 #[c0, n1] w = some r := run_body Try.func14 (by kernel_rfl) hn (by rw [show anns 14 = f14.ann from rfl, f14.eq]; exact h)
theorem f15.run {prim : Prim} {m0 s1 : Value} {w : World} {r : Value × World} (hn : prim.call 15 #[m0, s1] w = none) (h : f15 (R prim) prim.dfr m0 s1 w = some r) : R prim 15 #[m0, s1] w = some r := run_body Try.func15 (by kernel_rfl) hn (by rw [show anns 15 = f15.ann from rfl, f15.eq]; exact h)
theorem f16.run {prim : Prim} {m0 at1 n2 : Value} {w : World} {r : Value × World} (hn : prim.call 16 #[m0, at1, n2] w = none) (h : f16 (R prim) prim.dfr m0 at1 n2 w = some r) : R prim 16 #[m0, at1, n2] w = some r := run_body Try.func16 (by kernel_rfl) hn (by rw [show anns 16 = f16.ann from rfl, f16.eq]; exact h)
theorem f17.run {prim : Prim} {m0 : Value} {w : World} {r : Value × World} (hn : prim.call 17 #[m0] w = none) (h : f17 (R prim) prim.dfr m0 w = some r) : R prim 17 #[m0] w = some r := run_body Try.func17 (by kernel_rfl) hn (by rw [show anns 17 = f17.ann from rfl, f17.eq]; exact h)
theorem f18.run {prim : Prim} {m0 : Value} {w : World} {r : Value × World} (hn : prim.call 18 #[m0] w = none) (h : f18 (R prim) prim.dfr m0 w = some r) : R prim 18 #[m0] w = some r := run_body Try.func18 (by kernel_rfl) hn (by rw [show anns 18 = f18.ann from rfl, f18.eq]; exact h)
theorem f19.run {prim : Prim} {a0 b1 : Value} {w : World} {r : Value × World} (hn : prim.call 19 #[a0, b1] w = none) (h : f19 (R prim) a0 b1 w = some r) : R prim 19 #[a0, b1] w = some r := run_body Try.func19 (by kernel_rfl) hn (by rw [show anns 19 = f19.ann from rfl, f19.eq]; exact h)
theorem f20.run {prim : Prim} {m0 : Value} {w : World} {r : Value × World} (hn : prim.call 20 #[m0] w = none) (h : f20 (R prim) prim.dfr m0 w = some r) : R prim 20 #[m0] w = some r := run_body Try.func20 (by kernel_rfl) hn (by rw [show anns 20 = f20.ann from rfl, f20.eq]; exact h)
theorem f21.run {prim : Prim} {w : World} {r : Value × World} (hn : prim.call 21 #[] w = none) (h : f21 (R prim)  w = some r) : R prim 21 #[] w = some r := run_body Try.func21 (by kernel_rfl) hn (by rw [show anns 21 = f21.ann from rfl, f21.eq]; exact h)
theorem f26.run {prim : Prim} {s0 : Value} {w : World} {r : Value × World} (hn : prim.call 26 #[s0] w = none) (h : f26 (R prim) s0 w = some r) : R prim 26 #[s0] w = some r := run_body Try.func26 (by kernel_rfl) hn (by rw [show anns 26 = f26.ann from rfl, f26.eq]; exact h)
theorem f29.run {prim : Prim} {at0 n1 size2 : Value} {w : World} {r : Value × World} (hn : prim.call 29 #[at0, n1, size2] w = none) (h : f29 (R prim) at0 n1 size2 w = some r) : R prim 29 #[at0, n1, size2] w = some r := run_body Try.func29 (by kernel_rfl) hn (by rw [show anns 29 = f29.ann from rfl, f29.eq]; exact h)
theorem f30.run {prim : Prim} {m0 at1 n2 : Value} {w : World} {r : Value × World} (hn : prim.call 30 #[m0, at1, n2] w = none) (h : f30 (R prim) m0 at1 n2 w = some r) : R prim 30 #[m0, at1, n2] w = some r := run_body Try.func30 (by kernel_rfl) hn (by rw [show anns 30 = f30.ann from rfl, f30.eq]; exact h)
theorem f31.run {prim : Prim} {s0 : Value} {w : World} {r : Value × World} (hn : prim.call 31 #[s0] w = none) (h : f31 (R prim) s0 w = some r) : R prim 31 #[s0] w = some r := run_body Try.func31 (by kernel_rfl) hn (by rw [show anns 31 = f31.ann from rfl, f31.eq]; exact h)
theorem f32.run {prim : Prim} {s0 : Value} {w : World} {r : Value × World} (hn : prim.call 32 #[s0] w = none) (h : f32 (R prim) s0 w = some r) : R prim 32 #[s0] w = some r := run_body Try.func32 (by kernel_rfl) hn (by rw [show anns 32 = f32.ann from rfl, f32.eq]; exact h)
theorem f33.run {prim : Prim} {s0 : Value} {w : World} {r : Value × World} (hn : prim.call 33 #[s0] w = none) (h : f33 (R prim) s0 w = some r) : R prim 33 #[s0] w = some r := run_body Try.func33 (by kernel_rfl) hn (by rw [show anns 33 = f33.ann from rfl, f33.eq]; exact h)
theorem f38.run {prim : Prim} {m0 at1 b2 : Value} {w : World} {r : Value × World} (hn : prim.call 38 #[m0, at1, b2] w = none) (h : f38 (R prim) prim.dfr m0 at1 b2 w = some r) : R prim 38 #[m0, at1, b2] w = some r := run_body Try.func38 (by kernel_rfl) hn (by rw [show anns 38 = f38.ann from rfl, f38.eq]; exact h)
theorem f40.run {prim : Prim} {m0 n1 : Value} {w : World} {r : Value × World} (hn : prim.call 40 #[m0, n1] w = none) (h : f40 (R prim) prim.dfr m0 n1 w = some r) : R prim 40 #[m0, n1] w = some r := run_body Try.func40 (by kernel_rfl) hn (by rw [show anns 40 = f40.ann from rfl, f40.eq]; exact h)
theorem f93.run {prim : Prim} {p0 at1 n2 : Value} {w : World} {r : Value × World} (hn : prim.call 93 #[p0, at1, n2] w = none) (h : f93 (R prim) prim.dfr p0 at1 n2 w = some r) : R prim 93 #[p0, at1, n2] w = some r := run_body Try.func93 (by kernel_rfl) hn (by rw [show anns 93 = f93.ann from rfl, f93.eq]; exact h)
theorem f94.run {prim : Prim} {p0 : Value} {w : World} {r : Value × World} (hn : prim.call 94 #[p0] w = none) (h : f94 (R prim) p0 w = some r) : R prim 94 #[p0] w = some r := run_body Try.func94 (by kernel_rfl) hn (by rw [show anns 94 = f94.ann from rfl, f94.eq]; exact h)

/-! ### facts of the types -/
noncomputable def inf (t : Nat) : TypeInfo := (Try.prog.info? t).getD default
@[simp] theorem len22 (ty : TypeId) (a : Option Addr) (n c : Nat) : prun Try.prog (Builtin.len_ #[22] ty #[.slice a n c]) = some (.int .i64 n) := len_slice Try.underlying22 ty a n c
@[simp] theorem len34 (ty : TypeId) (a : Option Addr) (n c : Nat) : prun Try.prog (Builtin.len_ #[34] ty #[.slice a n c]) = some (.int .i64 n) := len_slice Try.underlying34 ty a n c
@[simp] theorem len41 (ty : TypeId) (a : Option Addr) (n c : Nat) : prun Try.prog (Builtin.len_ #[41] ty #[.slice a n c]) = some (.int .i64 n) := len_slice Try.underlying41 ty a n c
@[simp] theorem len50 (ty : TypeId) (a : Option Addr) (n c : Nat) : prun Try.prog (Builtin.len_ #[50] ty #[.slice a n c]) = some (.int .i64 n) := len_slice Try.underlying50 ty a n c
@[simp] theorem ld3 (a : Addr) (w : World) : rrun Try.prog (Instr.loadAt 3 (.pointer (some a))) w = w.cell? a := load_one Try.underlying3 (by kernel_rfl) a w
@[simp] theorem ld4 (a : Addr) (w : World) : rrun Try.prog (Instr.loadAt 4 (.pointer (some a))) w = w.cell? a := load_one Try.underlying4 (by kernel_rfl) a w
@[simp] theorem ld22 (a : Addr) (w : World) : rrun Try.prog (Instr.loadAt 22 (.pointer (some a))) w = w.cell? a := load_one Try.underlying22 (by kernel_rfl) a w
@[simp] theorem ld24 (a : Addr) (w : World) : rrun Try.prog (Instr.loadAt 24 (.pointer (some a))) w = w.cell? a := load_one Try.underlying24 (by kernel_rfl) a w
theorem inf40 : Try.prog.info? 40 = some (inf 40) := by kernel_rfl
theorem size40 : (inf 40).size = 2 := by kernel_rfl
theorem ld40 {a : Addr} {w : World} {v0 v1 : Value} (h0 : w.cell? (a.add 0) = some v0) (h1 : w.cell? (a.add 1) = some v1) : rrun Try.prog (Instr.loadAt 40 (.pointer (some a))) w = some (.agg #[v0, v1]) := load_agg (vs := [v0, v1]) inf40 (by kernel_rfl) (by rw [size40]; rfl) ⟨h0, h1, trivial⟩
@[simp] theorem ld41 (a : Addr) (w : World) : rrun Try.prog (Instr.loadAt 41 (.pointer (some a))) w = w.cell? a := load_one Try.underlying41 (by kernel_rfl) a w
theorem inf3 : Try.prog.info? 3 = some (inf 3) := by kernel_rfl
theorem size3 : (inf 3).size = 1 := by kernel_rfl
theorem st3 {a : Addr} {w : World} {v u : Value} (hv : v.cells = #[v]) (ho : v.oneCell' = true) (hc : w.cell? a = some u) (hf : w.frozen? a = false) : erun Try.prog (Instr.storeAt 3 (.pointer (some a)) v) w = some ((), w.setCell a v) := store_one inf3 size3 hv ho hc hf
theorem inf4 : Try.prog.info? 4 = some (inf 4) := by kernel_rfl
theorem size4 : (inf 4).size = 1 := by kernel_rfl
theorem st4 {a : Addr} {w : World} {v u : Value} (hv : v.cells = #[v]) (ho : v.oneCell' = true) (hc : w.cell? a = some u) (hf : w.frozen? a = false) : erun Try.prog (Instr.storeAt 4 (.pointer (some a)) v) w = some ((), w.setCell a v) := store_one inf4 size4 hv ho hc hf
theorem inf22 : Try.prog.info? 22 = some (inf 22) := by kernel_rfl
theorem size22 : (inf 22).size = 1 := by kernel_rfl
theorem st22 {a : Addr} {w : World} {v u : Value} (hv : v.cells = #[v]) (ho : v.oneCell' = true) (hc : w.cell? a = some u) (hf : w.frozen? a = false) : erun Try.prog (Instr.storeAt 22 (.pointer (some a)) v) w = some ((), w.setCell a v) := store_one inf22 size22 hv ho hc hf
theorem inf41 : Try.prog.info? 41 = some (inf 41) := by kernel_rfl
theorem size41 : (inf 41).size = 1 := by kernel_rfl
theorem st41 {a : Addr} {w : World} {v u : Value} (hv : v.cells = #[v]) (ho : v.oneCell' = true) (hc : w.cell? a = some u) (hf : w.frozen? a = false) : erun Try.prog (Instr.storeAt 41 (.pointer (some a)) v) w = some ((), w.setCell a v) := store_one inf41 size41 hv ho hc hf
@[simp] theorem fa40_0 (a : Addr) : prun Try.prog (Instr.fieldAt 40 (.pointer (some a)) 0) = some (.pointer (some (a.add 0))) := id (by kernel_rfl)
@[simp] theorem fa40_1 (a : Addr) : prun Try.prog (Instr.fieldAt 40 (.pointer (some a)) 1) = some (.pointer (some (a.add 1))) := id (by kernel_rfl)
@[simp] theorem fa43_0 (a : Addr) : prun Try.prog (Instr.fieldAt 43 (.pointer (some a)) 0) = some (.pointer (some (a.add 0))) := id (by kernel_rfl)
@[simp] theorem fa43_1 (a : Addr) : prun Try.prog (Instr.fieldAt 43 (.pointer (some a)) 1) = some (.pointer (some (a.add 1))) := id (by kernel_rfl)
@[simp] theorem fa43_2 (a : Addr) : prun Try.prog (Instr.fieldAt 43 (.pointer (some a)) 2) = some (.pointer (some (a.add 2))) := id (by kernel_rfl)
@[simp] theorem fa80_0 (a : Addr) : prun Try.prog (Instr.fieldAt 80 (.pointer (some a)) 0) = some (.pointer (some (a.add 0))) := id (by kernel_rfl)
@[simp] theorem fa80_1 (a : Addr) : prun Try.prog (Instr.fieldAt 80 (.pointer (some a)) 1) = some (.pointer (some (a.add 2))) := id (by kernel_rfl)
@[simp] theorem fa80_2 (a : Addr) : prun Try.prog (Instr.fieldAt 80 (.pointer (some a)) 2) = some (.pointer (some (a.add 3))) := id (by kernel_rfl)
@[simp] theorem fa80_3 (a : Addr) : prun Try.prog (Instr.fieldAt 80 (.pointer (some a)) 3) = some (.pointer (some (a.add 4))) := id (by kernel_rfl)
@[simp] theorem fa80_4 (a : Addr) : prun Try.prog (Instr.fieldAt 80 (.pointer (some a)) 4) = some (.pointer (some (a.add 5))) := id (by kernel_rfl)
@[simp] theorem fa80_5 (a : Addr) : prun Try.prog (Instr.fieldAt 80 (.pointer (some a)) 5) = some (.pointer (some (a.add 6))) := id (by kernel_rfl)
@[simp] theorem fa84_0 (a : Addr) : prun Try.prog (Instr.fieldAt 84 (.pointer (some a)) 0) = some (.pointer (some (a.add 0))) := id (by kernel_rfl)
@[simp] theorem fa84_1 (a : Addr) : prun Try.prog (Instr.fieldAt 84 (.pointer (some a)) 1) = some (.pointer (some (a.add 1))) := id (by kernel_rfl)
theorem inf43 : Try.prog.info? 43 = some (inf 43) := by kernel_rfl
theorem size43 : (inf 43).size = 3 := by kernel_rfl
theorem ix34 (a : Addr) (n c : Nat) (k : IntKind) (j : Int) (h0 : 0 ≤ j) (h1 : j < n) : prun Try.prog (Instr.indexAt 34 (.slice (some a) n c) (.int k j)) = some (.pointer (some (a.add (j.toNat * 3)))) := by
  have h := index_slice Try.underlying34 inf43 a n c k j h0 h1
  rwa [size43] at h
theorem ix41 (a : Addr) (n c : Nat) (k : IntKind) (j : Int) (h0 : 0 ≤ j) (h1 : j < n) : prun Try.prog (Instr.indexAt 41 (.slice (some a) n c) (.int k j)) = some (.pointer (some (a.add (j.toNat * 2)))) := by
  have h := index_slice Try.underlying41 inf40 a n c k j h0 h1
  rwa [size40] at h
theorem ix50 (a : Addr) (n c : Nat) (k : IntKind) (j : Int) (h0 : 0 ≤ j) (h1 : j < n) : prun Try.prog (Instr.indexAt 50 (.slice (some a) n c) (.int k j)) = some (.pointer (some (a.add (j.toNat * 1)))) := by
  have h := index_slice Try.underlying50 inf22 a n c k j h0 h1
  rwa [size22] at h
theorem inf5 : Try.prog.info? 5 = some (inf 5) := by kernel_rfl
theorem size5 : (inf 5).size = 1 := by kernel_rfl
theorem sl22 (a : Option Addr) (n c : Nat) (lo hi mx : Option Value) (l h m : Nat) (hb : prun Try.prog (Instr.sliceBounds true n c lo hi mx) = some (l, h, m)) : prun Try.prog (Instr.sliceAt 22 (.slice a n c) lo hi mx) = some (.slice (if m = l then a else a.map (·.add (l * 1))) (h - l) (m - l)) := by
  have h := slice_at Try.underlying22 inf5 a n c lo hi mx l h m hb
  rwa [size5] at h
theorem sl41 (a : Option Addr) (n c : Nat) (lo hi mx : Option Value) (l h m : Nat) (hb : prun Try.prog (Instr.sliceBounds true n c lo hi mx) = some (l, h, m)) : prun Try.prog (Instr.sliceAt 41 (.slice a n c) lo hi mx) = some (.slice (if m = l then a else a.map (·.add (l * 2))) (h - l) (m - l)) := by
  have h := slice_at Try.underlying41 inf40 a n c lo hi mx l h m hb
  rwa [size40] at h
theorem zero5 : (inf 5).zero = some (.int .u8 0) := by kernel_rfl
theorem bytes5 : (inf 5).bytes = 1 := id (by kernel_rfl)
theorem ap22 {w : World} {base : Nat} {ty : TypeId} {v : Value} {n : Nat} {xs : List Value} (hown : w.ownsRow base 5 1 v n xs) {A : Option Addr} {m c : Nat} {news : List Value} (hl : news.length = m * 1) (hr : Rd w A news) (hnil : A = none → c = 0) (h1 : ∀ u ∈ news, u.oneCell' = true) (h63 : n + m ≤ maxLen) (hbytes : (n + m) * 1 ≤ 140737488355328) (hbase : base ≤ w.heap.size) :
    ∃ v' w', erun Try.prog (Builtin.append_ #[22, 22] ty #[v, .slice A m c]) w = some (v', w') ∧ w'.ownsRow base 5 1 v' (n + m) (xs ++ news) ∧ w.grownBy w' v.ownBlock := e_append Try.underlying22 inf5 zero5 size5 bytes5 rfl (by decide) hown hl hr hnil h1 h63 hbytes hbase
theorem zero40 : (inf 40).zero = some (.agg #[(.int .i64 0), (.int .i64 0)]) := by kernel_rfl
theorem bytes40 : (inf 40).bytes = 16 := id (by kernel_rfl)
theorem ap41 {w : World} {base : Nat} {ty : TypeId} {v : Value} {n : Nat} {xs : List Value} (hown : w.ownsRow base 40 2 v n xs) {A : Option Addr} {m c : Nat} {news : List Value} (hl : news.length = m * 2) (hr : Rd w A news) (hnil : A = none → c = 0) (h1 : ∀ u ∈ news, u.oneCell' = true) (h63 : n + m ≤ maxLen) (hbytes : (n + m) * 16 ≤ 140737488355328) (hbase : base ≤ w.heap.size) :
    ∃ v' w', erun Try.prog (Builtin.append_ #[41, 41] ty #[v, .slice A m c]) w = some (v', w') ∧ w'.ownsRow base 40 2 v' (n + m) (xs ++ news) ∧ w.grownBy w' v.ownBlock := e_append Try.underlying41 inf40 zero40 size40 bytes40 rfl (by decide) hown hl hr hnil h1 h63 hbytes hbase
theorem mk22 {w : World} (base : Nat) (n : Nat) (hbytes : 1 * n ≤ 281474976710656) (h63 : n ≤ maxLen) (hbase : base ≤ w.heap.size) :
    ∃ w', erun Try.prog (Instr.makeSlice 22 (.int .i64 (n : Int)) (.int .i64 (n : Int))) w = some (.slice (some ⟨w.heap.size, 0, none⟩) n n, w') ∧ w'.ownsRow base 5 1 (.slice (some ⟨w.heap.size, 0, none⟩) n n) n (madeCells ((.int .u8 0) : Value).cells (n * 1)).toList ∧ w.grownBy w' none := e_make Try.underlying22 inf5 zero5 size5 .i64 .i64 n (by rw [bytes5]; exact hbytes) h63 hbase
@[simp] theorem bs22_0 (w : World) : erun Try.prog (Instr.buildSlice 22 0 #[]) w = some (.slice (some ⟨w.heap.size, 0, none⟩) 0 0, w.alloc (.cells #[] 5)) := id (by kernel_rfl)
@[simp] theorem bs41_0 (w : World) : erun Try.prog (Instr.buildSlice 41 0 #[]) w = some (.slice (some ⟨w.heap.size, 0, none⟩) 0 0, w.alloc (.cells #[] 40)) := id (by kernel_rfl)
theorem tx22_9 {w : World} {A : Option Addr} {c : Nat} {l : List UInt8} {n : Nat} (hn : l.length = n) (hr : Rd w A (bv l)) : rrun Try.prog (convert 22 9 (.slice A n c)) w = some (.string ⟨l.toArray⟩) := e_text Try.underlying22 Try.underlying5 Try.underlying9 hn hr
@[simp] theorem eql9_s (x y : Operand) (a b : ByteArray) : prun Try.prog (do eqGuard .eql 9 x y (.string a) (.string b); binOp .eql 9 (.string a) (.string b)) = some (.bool (a.toList == b.toList)) := id (by kernel_rfl)
@[simp] theorem eql22_some (x y : Operand) (a : Addr) (n c : Nat) (w : World) : rrun Try.prog (do eqGuard .eql 22 x y (.slice (some a) n c) (.slice none 0 0); binOp .eql 22 (.slice (some a) n c) (.slice none 0 0)) w = some (.bool false) := id (by kernel_rfl)
@[simp] theorem eql22_none (x y : Operand) (w : World) : rrun Try.prog (do eqGuard .eql 22 x y (.slice none 0 0) (.slice none 0 0); binOp .eql 22 (.slice none 0 0) (.slice none 0 0)) w = some (.bool true) := id (by kernel_rfl)
@[simp] theorem eql24_some (x y : Operand) (a : Addr) (w : World) : rrun Try.prog (do eqGuard .eql 24 x y (.pointer (some a)) (.pointer none); binOp .eql 24 (.pointer (some a)) (.pointer none)) w = some (.bool false) := id (by kernel_rfl)
@[simp] theorem eql24_none (x y : Operand) (w : World) : rrun Try.prog (do eqGuard .eql 24 x y (.pointer none) (.pointer none); binOp .eql 24 (.pointer none) (.pointer none)) w = some (.bool true) := id (by kernel_rfl)
@[simp] theorem eql36_some (x y : Operand) (u : TypeId) (v : Value) (w : World) : rrun Try.prog (do eqGuard .eql 36 x y (.iface u v) .nilIface; binOp .eql 36 (.iface u v) .nilIface) w = some (.bool false) := id (by kernel_rfl)
@[simp] theorem eql36_none (x : Operand) (c : Value) (w : World) : rrun Try.prog (do eqGuard .eql 36 x (.const c) .nilIface .nilIface; binOp .eql 36 .nilIface .nilIface) w = some (.bool true) := id (by cases x <;> kernel_rfl)
theorem eqf40 (a0 b0 : Int) (a1 b1 : Int) (w : World) : rrun Try.prog (Op.eqFields 9999 #[(.int .i64 a0), (.int .i64 a1)] #[(.int .i64 b0), (.int .i64 b1)] (Try.prog.fieldsOf 40).toList) w = some (a0 == b0 && (a1 == b1 && true)) := by
  simp only [Program.fieldsOf, Try.underlying40]
  exact (rr_eqFields_cons w 9999 _ _ _ _ _ _ _ _ (by decide) (by kernel_rfl) (by kernel_rfl) (rr_equalIn_int w 9998 3 .i64 .i64 a0 b0 Try.underlying3) (rr_eqFields_cons w 9999 _ _ _ _ _ _ _ _ (by decide) (by kernel_rfl) (by kernel_rfl) (rr_equalIn_int w 9998 3 .i64 .i64 a1 b1 Try.underlying3) (rr_eqFields_nil w 9999 _ _)))
@[simp] theorem eql40_st (x y : Operand) (a0 b0 : Int) (a1 b1 : Int) (w : World) : rrun Try.prog (do eqGuard .eql 40 x y (.agg #[(.int .i64 a0), (.int .i64 a1)]) (.agg #[(.int .i64 b0), (.int .i64 b1)]); binOp .eql 40 (.agg #[(.int .i64 a0), (.int .i64 a1)]) (.agg #[(.int .i64 b0), (.int .i64 b1)])) w = some (.bool ((a0 == b0 && a1 == b1))) := by
  have h := rr_eql (P := Try.prog) w 40 x y #[(.int .i64 a0), (.int .i64 a1)] #[(.int .i64 b0), (.int .i64 b1)] _ (by kernel_rfl) (by kernel_rfl) (by kernel_rfl) (eqf40 a0 b0 a1 b1 w)
  simpa using h
@[simp] theorem eql41_some (x y : Operand) (a : Addr) (n c : Nat) (w : World) : rrun Try.prog (do eqGuard .eql 41 x y (.slice (some a) n c) (.slice none 0 0); binOp .eql 41 (.slice (some a) n c) (.slice none 0 0)) w = some (.bool false) := id (by kernel_rfl)
@[simp] theorem eql41_none (x y : Operand) (w : World) : rrun Try.prog (do eqGuard .eql 41 x y (.slice none 0 0) (.slice none 0 0); binOp .eql 41 (.slice none 0 0) (.slice none 0 0)) w = some (.bool true) := id (by kernel_rfl)
@[simp] theorem neq4_b (x y : Operand) (a b : Bool) : prun Try.prog (do eqGuard .neq 4 x y (.bool a) (.bool b); binOp .neq 4 (.bool a) (.bool b)) = some (.bool (!(a == b))) := id (by kernel_rfl)
@[simp] theorem neq9_s (x y : Operand) (a b : ByteArray) : prun Try.prog (do eqGuard .neq 9 x y (.string a) (.string b); binOp .neq 9 (.string a) (.string b)) = some (.bool !(a.toList == b.toList)) := id (by kernel_rfl)
@[simp] theorem neq24_some (x y : Operand) (a : Addr) (w : World) : rrun Try.prog (do eqGuard .neq 24 x y (.pointer (some a)) (.pointer none); binOp .neq 24 (.pointer (some a)) (.pointer none)) w = some (.bool true) := id (by kernel_rfl)
@[simp] theorem neq24_none (x y : Operand) (w : World) : rrun Try.prog (do eqGuard .neq 24 x y (.pointer none) (.pointer none); binOp .neq 24 (.pointer none) (.pointer none)) w = some (.bool false) := id (by kernel_rfl)
@[simp] theorem neq40_st (x y : Operand) (a0 b0 : Int) (a1 b1 : Int) (w : World) : rrun Try.prog (do eqGuard .neq 40 x y (.agg #[(.int .i64 a0), (.int .i64 a1)]) (.agg #[(.int .i64 b0), (.int .i64 b1)]); binOp .neq 40 (.agg #[(.int .i64 a0), (.int .i64 a1)]) (.agg #[(.int .i64 b0), (.int .i64 b1)])) w = some (.bool (!(a0 == b0 && a1 == b1))) := by
  have h := rr_neq (P := Try.prog) w 40 x y #[(.int .i64 a0), (.int .i64 a1)] #[(.int .i64 b0), (.int .i64 b1)] _ (by kernel_rfl) (by kernel_rfl) (by kernel_rfl) (eqf40 a0 b0 a1 b1 w)
  simpa using h
@[simp] theorem mi82 (x : Value) : prun Try.prog (Instr.makeInterface 82 x) = some (.iface 82 x) := id (by kernel_rfl)
end Go.Sh.Ytokpgallfmpmkaa
