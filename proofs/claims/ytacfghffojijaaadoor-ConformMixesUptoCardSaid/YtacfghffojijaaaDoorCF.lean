/- The functions of the seat's program as plain ones over the layer 'Sh', written by a program of this session's own; no condition. -/
import Derived.Test.YtacfghffojijaaaDoorProg
import Derived.Test.YtacfghffojijaaaDoorShEq
import Derived.KernelRfl
namespace Go.Sh.YtacfghffojijaaaDoor
open Go Go.Proofs
set_option linter.unusedVariables false
set_option maxRecDepth 100000

/-- dailies/dailieslaw20.ConformBetween -/
def f4.ann : Ann := (.s .z (.s .z (.s .z (.s .z (.s .z (.s .z (.s (.s .z (.c (.s .z .z) .z)) (.s (.s .z (.c (.s .z .z) .z)) (.s .z (.s .z (.s .z (.s .z (.s .z (.s .z (.s (.s .z (.c (.s .z .z) .z)) (.s (.s .z (.b [] (.l [4, 5, 10, 12, 23] (.s (.s .z (.c .z .z)) (.s (.b [4, 5, 10, 12, 23] (.s (.s .z (.c (.s .z .z) .z)) (.s .z (.b [4, 5, 10, 12, 23] (.l [4, 5, 10, 12, 23, 24] (.s (.s .z (.c .z .z)) (.s (.b [4, 5, 10, 12, 23, 24] (.s .z (.s .z (.s .z (.s .z (.s .z (.c (.s .z .z) .z))))))) .z))))))) .z))))) (.s .z .z)))))))))))))))))
noncomputable def f4.l0 (call : CallF) (vs_1 : List Value) (W2 : World) : Option Res :=
  let r4_2 := nth vs_1 0
  let a5_1 := nth vs_1 1
  let v10_1 := nth vs_1 2
  let v12_1 := nth vs_1 3
  let v23_1 := nth vs_1 4
  let v24 := nth vs_1 5
  (prun Tryd.prog (Instr.fieldAt 30 r4_2 1)).bind fun v180 =>
  (rrun Tryd.prog (Instr.loadAt 28 v180) W2).bind fun v181 =>
  (prun Tryd.prog (Instr.indexAt 28 v181 v23_1)).bind fun v183 =>
  (rrun Tryd.prog (Instr.loadAt 38 v183) W2).bind fun v184 =>
  (prun Tryd.prog (Builtin.len_ #[38] 3 #[v184])).bind fun v185 =>
  (bin .lss v24 v185).bind fun v186 =>
  (asB v186).bind fun c186 =>
  if c186 then
    ((prun Tryd.prog (Instr.fieldAt 30 r4_2 1)).bind fun v189 =>
    (rrun Tryd.prog (Instr.loadAt 28 v189) W2).bind fun v190 =>
    (prun Tryd.prog (Instr.indexAt 28 v190 v23_1)).bind fun v192 =>
    (rrun Tryd.prog (Instr.loadAt 38 v192) W2).bind fun v193 =>
    (prun Tryd.prog (Instr.indexAt 38 v193 v24)).bind fun v195 =>
    (rrun Tryd.prog (Instr.loadAt 39 v195) W2).bind fun v196 =>
    (prun Tryd.prog (Instr.fieldAt 30 a5_1 1)).bind fun v197 =>
    (rrun Tryd.prog (Instr.loadAt 28 v197) W2).bind fun v198 =>
    (prun Tryd.prog (Instr.indexAt 28 v198 v23_1)).bind fun v200 =>
    (rrun Tryd.prog (Instr.loadAt 38 v200) W2).bind fun v201 =>
    (prun Tryd.prog (Instr.indexAt 38 v201 v24)).bind fun v203 =>
    (rrun Tryd.prog (Instr.loadAt 39 v203) W2).bind fun v204 =>
    (prun Tryd.prog (Instr.fieldAt 30 v10_1 1)).bind fun v205 =>
    (rrun Tryd.prog (Instr.loadAt 28 v205) W2).bind fun v206 =>
    (prun Tryd.prog (Instr.indexAt 28 v206 v23_1)).bind fun v208 =>
    (rrun Tryd.prog (Instr.loadAt 38 v208) W2).bind fun v209 =>
    (prun Tryd.prog (Instr.indexAt 38 v209 v24)).bind fun v211 =>
    (rrun Tryd.prog (Instr.loadAt 39 v211) W2).bind fun v212 =>
    (prun Tryd.prog (Instr.fieldAt 30 v12_1 1)).bind fun v213 =>
    (rrun Tryd.prog (Instr.loadAt 28 v213) W2).bind fun v214 =>
    (prun Tryd.prog (Instr.indexAt 28 v214 v23_1)).bind fun v216 =>
    (rrun Tryd.prog (Instr.loadAt 38 v216) W2).bind fun v217 =>
    (prun Tryd.prog (Instr.indexAt 38 v217 v24)).bind fun v219 =>
    (rrun Tryd.prog (Instr.loadAt 39 v219) W2).bind fun v220 =>
    (prun Tryd.prog (Builtin.min_ #[39, 39] 39 #[v196, v204])).bind fun v224 =>
    (bin .lss v212 v224).bind fun v225 =>
    (asB v225).bind fun b226 =>
    (if b226 = false then (prun Tryd.prog (Builtin.max_ #[39, 39] 39 #[v196, v204])).bind fun v230 =>
      (bin .gtr v212 v230).bind fun v231 =>
      some (v231, W2)
     else some ((Value.bool true), W2)).bind fun r232 =>
    (asB r232.1).bind fun b233 =>
    (if b233 = false then (bin .leq v196 v204).bind fun v236 =>
      (asB v236).bind fun b237 =>
      (if b237 = true then (bin .gtr v212 v220).bind fun v240 =>
        some (v240, r232.2)
       else some ((Value.bool false), r232.2)).bind fun r241 =>
      some (r241.1, r241.2)
     else some ((Value.bool true), r232.2)).bind fun r242 =>
    (asB r242.1).bind fun b243 =>
    (if b243 = false then (bin .geq v196 v204).bind fun v246 =>
      (asB v246).bind fun b247 =>
      (if b247 = true then (bin .lss v212 v220).bind fun v250 =>
        some (v250, r242.2)
       else some ((Value.bool false), r242.2)).bind fun r251 =>
      some (r251.1, r251.2)
     else some ((Value.bool true), r242.2)).bind fun r252 =>
    (asB r252.1).bind fun c252 =>
    if c252 then
      some (Res.ret [(Value.bool false)] r252.2)
    else
    some (Res.norm [r4_2, a5_1, v10_1, v12_1, v23_1, v24] r252.2)).bind fun (r : Res) => (r.unblock 3).cont fun vs_2 W3 =>
    let r4_3 := nth vs_2 0
    let a5_2 := nth vs_2 1
    let v10_2 := nth vs_2 2
    let v12_2 := nth vs_2 3
    let v23_2 := nth vs_2 4
    let v24_1 := nth vs_2 5
    (bin .add v24_1 (Value.int IntKind.i64 1)).bind fun v188 =>
    some (Res.norm [r4_3, a5_2, v10_2, v12_2, v23_2, v188] W3)
  else
  some (Res.exit 2 [r4_2, a5_1, v10_1, v12_1, v23_1] W2)
noncomputable def f4.l1 (call : CallF) (vs : List Value) (W1 : World) : Option Res :=
  let r4_1 := nth vs 0
  let a5 := nth vs 1
  let v10 := nth vs 2
  let v12 := nth vs 3
  let v23 := nth vs 4
  (prun Tryd.prog (Instr.fieldAt 30 r4_1 1)).bind fun v127 =>
  (rrun Tryd.prog (Instr.loadAt 28 v127) W1).bind fun v128 =>
  (prun Tryd.prog (Builtin.len_ #[28] 3 #[v128])).bind fun v129 =>
  (bin .lss v23 v129).bind fun v130 =>
  (asB v130).bind fun c130 =>
  if c130 then
    ((prun Tryd.prog (Instr.fieldAt 30 v10 1)).bind fun v133 =>
    (rrun Tryd.prog (Instr.loadAt 28 v133) W1.drew).bind fun v134 =>
    (prun Tryd.prog (Builtin.len_ #[28] 3 #[v134])).bind fun v135 =>
    (prun Tryd.prog (Instr.fieldAt 30 r4_1 1)).bind fun v136 =>
    (rrun Tryd.prog (Instr.loadAt 28 v136) W1.drew).bind fun v137 =>
    (prun Tryd.prog (Builtin.len_ #[28] 3 #[v137])).bind fun v138 =>
    (bin .neq v135 v138).bind fun v139 =>
    (asB v139).bind fun b140 =>
    (if b140 = false then (prun Tryd.prog (Instr.fieldAt 30 v12 1)).bind fun v141 =>
      (rrun Tryd.prog (Instr.loadAt 28 v141) W1.drew).bind fun v142 =>
      (prun Tryd.prog (Builtin.len_ #[28] 3 #[v142])).bind fun v143 =>
      (prun Tryd.prog (Instr.fieldAt 30 r4_1 1)).bind fun v144 =>
      (rrun Tryd.prog (Instr.loadAt 28 v144) W1.drew).bind fun v145 =>
      (prun Tryd.prog (Builtin.len_ #[28] 3 #[v145])).bind fun v146 =>
      (bin .neq v143 v146).bind fun v147 =>
      some (v147, W1.drew)
     else some ((Value.bool true), W1.drew)).bind fun r148 =>
    (asB r148.1).bind fun b149 =>
    (if b149 = false then (prun Tryd.prog (Instr.fieldAt 30 v10 1)).bind fun v150 =>
      (rrun Tryd.prog (Instr.loadAt 28 v150) r148.2).bind fun v151 =>
      (prun Tryd.prog (Instr.indexAt 28 v151 v23)).bind fun v153 =>
      (rrun Tryd.prog (Instr.loadAt 38 v153) r148.2).bind fun v154 =>
      (prun Tryd.prog (Builtin.len_ #[38] 3 #[v154])).bind fun v155 =>
      (prun Tryd.prog (Instr.fieldAt 30 r4_1 1)).bind fun v156 =>
      (rrun Tryd.prog (Instr.loadAt 28 v156) r148.2).bind fun v157 =>
      (prun Tryd.prog (Instr.indexAt 28 v157 v23)).bind fun v159 =>
      (rrun Tryd.prog (Instr.loadAt 38 v159) r148.2).bind fun v160 =>
      (prun Tryd.prog (Builtin.len_ #[38] 3 #[v160])).bind fun v161 =>
      (bin .neq v155 v161).bind fun v162 =>
      some (v162, r148.2)
     else some ((Value.bool true), r148.2)).bind fun r163 =>
    (asB r163.1).bind fun b164 =>
    (if b164 = false then (prun Tryd.prog (Instr.fieldAt 30 v12 1)).bind fun v165 =>
      (rrun Tryd.prog (Instr.loadAt 28 v165) r163.2).bind fun v166 =>
      (prun Tryd.prog (Instr.indexAt 28 v166 v23)).bind fun v168 =>
      (rrun Tryd.prog (Instr.loadAt 38 v168) r163.2).bind fun v169 =>
      (prun Tryd.prog (Builtin.len_ #[38] 3 #[v169])).bind fun v170 =>
      (prun Tryd.prog (Instr.fieldAt 30 r4_1 1)).bind fun v171 =>
      (rrun Tryd.prog (Instr.loadAt 28 v171) r163.2).bind fun v172 =>
      (prun Tryd.prog (Instr.indexAt 28 v172 v23)).bind fun v174 =>
      (rrun Tryd.prog (Instr.loadAt 38 v174) r163.2).bind fun v175 =>
      (prun Tryd.prog (Builtin.len_ #[38] 3 #[v175])).bind fun v176 =>
      (bin .neq v170 v176).bind fun v177 =>
      some (v177, r163.2)
     else some ((Value.bool true), r163.2)).bind fun r178 =>
    (asB r178.1).bind fun c178 =>
    if c178 then
      some (Res.ret [(Value.bool false)] r178.2)
    else
    (iter (f4.l0 call) [r4_1, a5, v10, v12, v23, (Value.int IntKind.i64 0)] r178.2).bind fun (r : Res) => (r.unblock 2).cont fun vs_3 W4 =>
    let r4_4 := nth vs_3 0
    let a5_3 := nth vs_3 1
    let v10_3 := nth vs_3 2
    let v12_3 := nth vs_3 3
    let v23_3 := nth vs_3 4
    some (Res.norm [r4_4, a5_3, v10_3, v12_3, v23_3] W4)).bind fun (r : Res) => (r.unblock 1).cont fun vs_4 W5 =>
    let r4_5 := nth vs_4 0
    let a5_4 := nth vs_4 1
    let v10_4 := nth vs_4 2
    let v12_4 := nth vs_4 3
    let v23_4 := nth vs_4 4
    (bin .add v23_4 (Value.int IntKind.i64 1)).bind fun v132 =>
    some (Res.norm [r4_5, a5_4, v10_4, v12_4, v132] W5)
  else
  some (Res.exit 0 [] W1)
noncomputable def f4 (call : CallF) (t0 : Value) (o1 : Value) (A2 : Value) (r3 : Value) (W0 : World) : Option (Value × World) :=
  ((erun Tryd.prog (Instr.box 30 t0) W0).bind fun r4 =>
  (erun Tryd.prog (Instr.box 30 o1) r4.2).bind fun r5 =>
  (call 5 #[] r5.2).bind fun r29 =>
  (call 13 #[r3, (Value.int IntKind.i64 101)] r29.2).bind fun r31 =>
  (bin .add (Value.int IntKind.i64 1) r31.1).bind fun v32 =>
  (call 13 #[A2, v32] r31.2).bind fun r35 =>
  (rrun Tryd.prog (Instr.loadAt 30 r4.1) r35.2).bind fun v37 =>
  (rrun Tryd.prog (Instr.loadAt 30 r5.1) r35.2).bind fun v38 =>
  (call 8 #[v37, v38, r35.1, v32] r35.2).bind fun r41 =>
  (prun Tryd.prog (Instr.extract r41.1 0)).bind fun v42 =>
  (prun Tryd.prog (Instr.extract r41.1 1)).bind fun v43 =>
  (erun Tryd.prog (Instr.alloc 30 true (.tuple #[])) r41.2).bind fun r10 =>
  (erun Tryd.prog (Instr.storeAt 30 r10.1 v42) r10.2).bind fun r =>
  (rrun Tryd.prog (Instr.loadAt 30 r4.1) r.2).bind fun v45 =>
  (rrun Tryd.prog (Instr.loadAt 30 r5.1) r.2).bind fun v46 =>
  (bin .add r35.1 (Value.int IntKind.i64 1)).bind fun v48 =>
  (call 8 #[v45, v46, v48, v32] r.2).bind fun r50 =>
  (prun Tryd.prog (Instr.extract r50.1 0)).bind fun v51 =>
  (prun Tryd.prog (Instr.extract r50.1 1)).bind fun v52 =>
  (erun Tryd.prog (Instr.alloc 30 true (.tuple #[])) r50.2).bind fun r12 =>
  (erun Tryd.prog (Instr.storeAt 30 r12.1 v51) r12.2).bind fun r_1 =>
  (prun Tryd.prog (Op.unary .not r29.1)).bind fun v54 =>
  (asB v54).bind fun b55 =>
  (if b55 = false then (bin .neq v43 v52).bind fun v58 =>
    some (v58, r_1.2)
   else some ((Value.bool true), r_1.2)).bind fun r59 =>
  (asB r59.1).bind fun c59 =>
  if c59 then
    some (Res.ret [(Value.bool false)] r59.2)
  else
  (bin .neq v43 (Value.int IntKind.i64 0)).bind fun v61 =>
  (asB v61).bind fun c61 =>
  if c61 then
    (prun Tryd.prog (Instr.fieldAt 30 r10.1 1)).bind fun v62 =>
    (rrun Tryd.prog (Instr.loadAt 28 v62) r59.2).bind fun v63 =>
    (prun Tryd.prog (Builtin.len_ #[28] 3 #[v63])).bind fun v64 =>
    (bin .eql v64 (Value.int IntKind.i64 0)).bind fun v65 =>
    (asB v65).bind fun b66 =>
    (if b66 = true then (prun Tryd.prog (Instr.fieldAt 30 r12.1 1)).bind fun v67 =>
      (rrun Tryd.prog (Instr.loadAt 28 v67) r59.2).bind fun v68 =>
      (prun Tryd.prog (Builtin.len_ #[28] 3 #[v68])).bind fun v69 =>
      (bin .eql v69 (Value.int IntKind.i64 0)).bind fun v70 =>
      some (v70, r59.2)
     else some ((Value.bool false), r59.2)).bind fun r71 =>
    some (Res.ret [r71.1] r71.2)
  else
  (rrun Tryd.prog (Instr.loadAt 30 r4.1) r59.2).bind fun v73 =>
  (rrun Tryd.prog (Instr.loadAt 30 r5.1) r59.2).bind fun v74 =>
  (call 8 #[v73, v74, (Value.int IntKind.i64 0), v32] r59.2).bind fun r76 =>
  (prun Tryd.prog (Instr.extract r76.1 0)).bind fun v77 =>
  (prun Tryd.prog (Instr.extract r76.1 1)).bind fun v78 =>
  (erun Tryd.prog (Instr.alloc 30 true (.tuple #[])) r76.2).bind fun r14 =>
  (erun Tryd.prog (Instr.storeAt 30 r14.1 v77) r14.2).bind fun r_2 =>
  (rrun Tryd.prog (Instr.loadAt 30 r4.1) r_2.2).bind fun v80 =>
  (rrun Tryd.prog (Instr.loadAt 30 r5.1) r_2.2).bind fun v81 =>
  (call 8 #[v80, v81, v32, v32] r_2.2).bind fun r84 =>
  (prun Tryd.prog (Instr.extract r84.1 0)).bind fun v85 =>
  (prun Tryd.prog (Instr.extract r84.1 1)).bind fun v86 =>
  (erun Tryd.prog (Instr.alloc 30 true (.tuple #[])) r84.2).bind fun r16 =>
  (erun Tryd.prog (Instr.storeAt 30 r16.1 v85) r16.2).bind fun r_3 =>
  (rrun Tryd.prog (Instr.loadAt 30 r4.1) r_3.2).bind fun v88 =>
  (rrun Tryd.prog (Instr.loadAt 30 r4.1) r_3.2).bind fun v89 =>
  (call 8 #[v88, v89, r35.1, v32] r_3.2).bind fun r92 =>
  (prun Tryd.prog (Instr.extract r92.1 0)).bind fun v93 =>
  (prun Tryd.prog (Instr.extract r92.1 1)).bind fun v94 =>
  (erun Tryd.prog (Instr.alloc 30 true (.tuple #[])) r92.2).bind fun r18 =>
  (erun Tryd.prog (Instr.storeAt 30 r18.1 v93) r18.2).bind fun r_4 =>
  (rrun Tryd.prog (Instr.loadAt 30 r14.1) r_4.2).bind fun v95 =>
  (rrun Tryd.prog (Instr.loadAt 30 r4.1) r_4.2).bind fun v96 =>
  (call 12 #[v95, v96] r_4.2).bind fun r97 =>
  (rrun Tryd.prog (Instr.loadAt 30 r16.1) r97.2).bind fun v98 =>
  (rrun Tryd.prog (Instr.loadAt 30 r5.1) r97.2).bind fun v99 =>
  (call 12 #[v98, v99] r97.2).bind fun r100 =>
  (rrun Tryd.prog (Instr.loadAt 30 r18.1) r100.2).bind fun v101 =>
  (rrun Tryd.prog (Instr.loadAt 30 r4.1) r100.2).bind fun v102 =>
  (call 12 #[v101, v102] r100.2).bind fun r103 =>
  (bin .neq v78 (Value.int IntKind.i64 0)).bind fun v105 =>
  (asB v105).bind fun b106 =>
  (if b106 = false then (bin .neq v86 (Value.int IntKind.i64 0)).bind fun v108 =>
    some (v108, r103.2)
   else some ((Value.bool true), r103.2)).bind fun r109 =>
  (asB r109.1).bind fun b110 =>
  (if b110 = false then (bin .neq v94 (Value.int IntKind.i64 0)).bind fun v112 =>
    some (v112, r109.2)
   else some ((Value.bool true), r109.2)).bind fun r113 =>
  (asB r113.1).bind fun b114 =>
  (if b114 = false then (prun Tryd.prog (Op.unary .not r97.1)).bind fun v116 =>
    some (v116, r113.2)
   else some ((Value.bool true), r113.2)).bind fun r117 =>
  (asB r117.1).bind fun b118 =>
  (if b118 = false then (prun Tryd.prog (Op.unary .not r100.1)).bind fun v120 =>
    some (v120, r117.2)
   else some ((Value.bool true), r117.2)).bind fun r121 =>
  (asB r121.1).bind fun b122 =>
  (if b122 = false then (prun Tryd.prog (Op.unary .not r103.1)).bind fun v124 =>
    some (v124, r121.2)
   else some ((Value.bool true), r121.2)).bind fun r125 =>
  (asB r125.1).bind fun c125 =>
  if c125 then
    some (Res.ret [(Value.bool false)] r125.2)
  else
  (iter (f4.l1 call) [r4.1, r5.1, r10.1, r12.1, (Value.int IntKind.i64 0)] r125.2).bind fun (r : Res) => (r.unblock 0).cont fun vs_5 W6 =>
  some (Res.ret [(Value.bool true)] W6)).bind Res.done
theorem f4.eq (call dfr : CallF) (t0 : Value) (o1 : Value) (A2 : Value) (r3 : Value) (W0 : World) : aFun Tryd.prog call dfr Tryd.f4 f4.ann (ofArgs #[t0, o1, A2, r3]) W0 = f4 call t0 o1 A2 r3 W0 := by kernel_rfl

/-- dailies/dailieslaw20.awake -/
def f5.ann : Ann := (.s .z (.s .z (.s .z (.s .z .z))))
noncomputable def f5 (call : CallF)  (W0 : World) : Option (Value × World) :=
  ((call 14 #[(Value.int IntKind.u16 10)] W0).bind fun r6 =>
  (call 14 #[(Value.int IntKind.u16 20)] r6.2).bind fun r7 =>
  (call 8 #[r6.1, r7.1, (Value.int IntKind.i64 1), (Value.int IntKind.i64 3)] r7.2).bind fun r8 =>
  (prun Tryd.prog (Instr.extract r8.1 0)).bind fun v9 =>
  (prun Tryd.prog (Instr.extract r8.1 1)).bind fun v10 =>
  (erun Tryd.prog (Instr.alloc 30 true (.tuple #[])) r8.2).bind fun r1 =>
  (erun Tryd.prog (Instr.storeAt 30 r1.1 v9) r1.2).bind fun r =>
  (prun Tryd.prog (Instr.build 52 #[(0, (Value.string { data := #[120] })), (1, (Value.int IntKind.i64 2))])).bind fun v12 =>
  (call 15 #[v12, (Value.map none)] r.2).bind fun r13 =>
  (prun Tryd.prog (Instr.extract r13.1 0)).bind fun v14 =>
  (prun Tryd.prog (Instr.extract r13.1 1)).bind fun v15 =>
  (bin .eql v10 (Value.int IntKind.i64 0)).bind fun v17 =>
  (asB v17).bind fun b18 =>
  (if b18 = true then (rrun Tryd.prog (do eqGuard .eql 46 (Operand.tmp 19) (Operand.const Value.nilIface) v15 Value.nilIface; binOp .eql 46 v15 Value.nilIface) r13.2).bind fun v20 =>
    some (v20, r13.2)
   else some ((Value.bool false), r13.2)).bind fun r21 =>
  (asB r21.1).bind fun b22 =>
  (if b22 = true then (prun Tryd.prog (Builtin.len_ #[44] 3 #[v14])).bind fun v24 =>
    (bin .eql v24 (Value.int IntKind.i64 0)).bind fun v25 =>
    some (v25, r21.2)
   else some ((Value.bool false), r21.2)).bind fun r26 =>
  (asB r26.1).bind fun b27 =>
  (if b27 = true then (prun Tryd.prog (Instr.fieldAt 30 r1.1 1)).bind fun v28 =>
    (rrun Tryd.prog (Instr.loadAt 28 v28) r26.2).bind fun v29 =>
    (prun Tryd.prog (Builtin.len_ #[28] 3 #[v29])).bind fun v30 =>
    (bin .eql v30 (Value.int IntKind.i64 3)).bind fun v31 =>
    some (v31, r26.2)
   else some ((Value.bool false), r26.2)).bind fun r32 =>
  (asB r32.1).bind fun b33 =>
  (if b33 = true then (prun Tryd.prog (Instr.fieldAt 30 r1.1 1)).bind fun v34 =>
    (rrun Tryd.prog (Instr.loadAt 28 v34) r32.2).bind fun v35 =>
    (prun Tryd.prog (Instr.indexAt 28 v35 (Value.int IntKind.i64 0))).bind fun v36 =>
    (rrun Tryd.prog (Instr.loadAt 38 v36) r32.2).bind fun v37 =>
    (prun Tryd.prog (Builtin.len_ #[38] 3 #[v37])).bind fun v38 =>
    (bin .eql v38 (Value.int IntKind.i64 256)).bind fun v39 =>
    some (v39, r32.2)
   else some ((Value.bool false), r32.2)).bind fun r40 =>
  (asB r40.1).bind fun b41 =>
  (if b41 = true then (prun Tryd.prog (Instr.fieldAt 30 r1.1 1)).bind fun v42 =>
    (rrun Tryd.prog (Instr.loadAt 28 v42) r40.2).bind fun v43 =>
    (prun Tryd.prog (Instr.indexAt 28 v43 (Value.int IntKind.i64 0))).bind fun v44 =>
    (rrun Tryd.prog (Instr.loadAt 38 v44) r40.2).bind fun v45 =>
    (prun Tryd.prog (Instr.indexAt 38 v45 (Value.int IntKind.i64 9))).bind fun v46 =>
    (rrun Tryd.prog (Instr.loadAt 39 v46) r40.2).bind fun v47 =>
    (bin .eql v47 (Value.int IntKind.u16 13)).bind fun v48 =>
    some (v48, r40.2)
   else some ((Value.bool false), r40.2)).bind fun r49 =>
  some (Res.ret [r49.1] r49.2)).bind Res.done
theorem f5.eq (call dfr : CallF)  (W0 : World) : aFun Tryd.prog call dfr Tryd.f5 f5.ann (ofArgs #[]) W0 = f5 call  W0 := by kernel_rfl

/-- dailies/dailieslaw20.weight -/
def f6.ann : Ann := (.s .z (.s .z (.s (.s .z (.b [3] (.l [1, 3, 4] (.s (.s .z (.c .z .z)) (.s (.b [1, 3, 4] .z) .z))))) (.s .z .z))))
noncomputable def f6.l0 (call : CallF) (vs : List Value) (W1 : World) : Option Res :=
  let f1 := nth vs 0
  let n3 := nth vs 1
  let p4 := nth vs 2
  (prun Tryd.prog (Instr.fieldAt 30 f1 1)).bind fun v6 =>
  (rrun Tryd.prog (Instr.loadAt 28 v6) W1).bind fun v7 =>
  (prun Tryd.prog (Builtin.len_ #[28] 3 #[v7])).bind fun v8 =>
  (bin .lss p4 v8).bind fun v9 =>
  (asB v9).bind fun b10 =>
  (if b10 = true then (bin .leq n3 (Value.int IntKind.i64 2147483647)).bind fun v12 =>
    some (v12, W1)
   else some ((Value.bool false), W1)).bind fun r13 =>
  (asB r13.1).bind fun c13 =>
  if c13 then
    ((bin .add n3 (Value.int IntKind.i64 1)).bind fun v17 =>
    (prun Tryd.prog (Instr.fieldAt 30 f1 1)).bind fun v18 =>
    (rrun Tryd.prog (Instr.loadAt 28 v18) r13.2).bind fun v19 =>
    (prun Tryd.prog (Instr.indexAt 28 v19 p4)).bind fun v21 =>
    (rrun Tryd.prog (Instr.loadAt 38 v21) r13.2).bind fun v22 =>
    (prun Tryd.prog (Builtin.len_ #[38] 3 #[v22])).bind fun v23 =>
    (bin .add v17 v23).bind fun v24 =>
    some (Res.norm [f1, v24, p4] r13.2)).bind fun (r : Res) => (r.unblock 1).cont fun vs_1 W2 =>
    let f1_1 := nth vs_1 0
    let n3_1 := nth vs_1 1
    let p4_1 := nth vs_1 2
    (bin .add p4_1 (Value.int IntKind.i64 1)).bind fun v15 =>
    some (Res.norm [f1_1, n3_1, v15] W2)
  else
  some (Res.exit 0 [n3] r13.2)
noncomputable def f6 (call : CallF) (f0 : Value) (W0 : World) : Option (Value × World) :=
  ((erun Tryd.prog (Instr.box 30 f0) W0).bind fun r1 =>
  (iter (f6.l0 call) [r1.1, (Value.int IntKind.i64 1), (Value.int IntKind.i64 0)] r1.2).bind fun (r : Res) => (r.unblock 0).cont fun vs_2 W3 =>
  let n3_2 := nth vs_2 0
  some (Res.ret [n3_2] W3)).bind Res.done
theorem f6.eq (call dfr : CallF) (f0 : Value) (W0 : World) : aFun Tryd.prog call dfr Tryd.f6 f6.ann (ofArgs #[f0]) W0 = f6 call f0 W0 := by kernel_rfl

/-- dailies/dailieslaw20.copied -/
def f7.ann : Ann := (.s .z (.s .z (.s (.s .z (.b [1, 2, 3] (.l [1, 2, 3, 4] (.s (.s .z (.c .z .z)) (.s (.b [1, 2, 3, 4] (.s .z (.s .z .z))) .z))))) (.s .z .z))))
noncomputable def f7.l0 (call : CallF) (vs : List Value) (W1 : World) : Option Res :=
  let f1 := nth vs 0
  let v2 := nth vs 1
  let l3 := nth vs 2
  let i4 := nth vs 3
  (prun Tryd.prog (Instr.fieldAt 30 f1 1)).bind fun v7 =>
  (rrun Tryd.prog (Instr.loadAt 28 v7) W1).bind fun v8 =>
  (prun Tryd.prog (Builtin.len_ #[28] 3 #[v8])).bind fun v9 =>
  (bin .lss i4 v9).bind fun v10 =>
  (asB v10).bind fun c10 =>
  if c10 then
    ((prun Tryd.prog (Instr.fieldAt 30 f1 1)).bind fun v13 =>
    (rrun Tryd.prog (Instr.loadAt 28 v13) W1).bind fun v14 =>
    (prun Tryd.prog (Instr.indexAt 28 v14 i4)).bind fun v16 =>
    (rrun Tryd.prog (Instr.loadAt 38 v16) W1).bind fun v17 =>
    (prun Tryd.prog (Builtin.len_ #[38] 3 #[v17])).bind fun v18 =>
    (bin .add v18 (Value.int IntKind.i64 2)).bind fun v19 =>
    (erun Tryd.prog (Instr.makeSlice 38 (Value.int IntKind.i64 0) v19) W1).bind fun r20 =>
    (prun Tryd.prog (Instr.fieldAt 30 f1 1)).bind fun v22 =>
    (rrun Tryd.prog (Instr.loadAt 28 v22) r20.2).bind fun v23 =>
    (prun Tryd.prog (Instr.indexAt 28 v23 i4)).bind fun v25 =>
    (rrun Tryd.prog (Instr.loadAt 38 v25) r20.2).bind fun v26 =>
    (erun Tryd.prog (Builtin.append_ #[38, 38] 38 #[r20.1, v26]) r20.2).bind fun r27 =>
    ((erun Tryd.prog (Instr.buildSlice 38 2 #[(0, (Value.int IntKind.u16 60001)), (1, (Value.int IntKind.u16 60002))]) r27.2.drew).bind fun r30_1 =>
    some (r30_1.1, r30_1.2)).bind fun r30 =>
    ((erun Tryd.prog (Builtin.append_ #[38, 38] 38 #[r27.1, r30.1]) r30.2).bind fun r31_1 =>
    some (r31_1.1, r31_1.2)).bind fun r31 =>
    ((prun Tryd.prog (Instr.fieldAt 30 f1 1)).bind fun v32 =>
    some (v32, r31.2)).bind fun r32 =>
    ((rrun Tryd.prog (Instr.loadAt 28 r32.1) r32.2).bind fun v33 =>
    some (v33, r32.2)).bind fun r33 =>
    ((prun Tryd.prog (Instr.indexAt 28 r33.1 i4)).bind fun v35 =>
    some (v35, r33.2)).bind fun r35 =>
    ((rrun Tryd.prog (Instr.loadAt 38 r35.1) r35.2).bind fun v36 =>
    some (v36, r35.2)).bind fun r36 =>
    ((prun Tryd.prog (Builtin.len_ #[38] 3 #[r36.1])).bind fun v37 =>
    some (v37, r36.2)).bind fun r37 =>
    ((prun Tryd.prog (Instr.sliceAt 38 r31.1 none (some r37.1) none)).bind fun v38 =>
    some (v38, r37.2)).bind fun r38 =>
    ((erun Tryd.prog (Instr.buildSlice 28 1 #[(0, r38.1)]) r38.2).bind fun r39_1 =>
    some (r39_1.1, r39_1.2)).bind fun r39 =>
    ((erun Tryd.prog (Builtin.append_ #[28, 28] 28 #[l3, r39.1]) r39.2).bind fun r40_1 =>
    some (r40_1.1, r40_1.2)).bind fun r40 =>
    chkThen ((((rrun Tryd.prog (Instr.loadAt 28 r32.1) r27.2.drew).bind fun v33_3 => some v33_3) = some r33.1 ∧ ((rrun Tryd.prog (Instr.loadAt 28 r32.1) r30.2).bind fun v33_4 => some v33_4) = some r33.1) ∧ (((rrun Tryd.prog (Instr.loadAt 28 r32.1) r30.2).bind fun v33_1 => some v33_1) = some r33.1 ∧ ((rrun Tryd.prog (Instr.loadAt 28 r32.1) r31.2).bind fun v33_2 => some v33_2) = some r33.1) ∧ (((rrun Tryd.prog (Instr.loadAt 38 r35.1) r27.2.drew).bind fun v36_3 => some v36_3) = some r36.1 ∧ ((rrun Tryd.prog (Instr.loadAt 38 r35.1) r30.2).bind fun v36_4 => some v36_4) = some r36.1) ∧ (((rrun Tryd.prog (Instr.loadAt 38 r35.1) r30.2).bind fun v36_1 => some v36_1) = some r36.1 ∧ ((rrun Tryd.prog (Instr.loadAt 38 r35.1) r31.2).bind fun v36_2 => some v36_2) = some r36.1) ∧ True)
    (some (Res.norm [f1, v2, r40.1, i4] r40.2))).bind fun (r : Res) => (r.unblock 1).cont fun vs_1 W2 =>
    let f1_1 := nth vs_1 0
    let v2_1 := nth vs_1 1
    let l3_1 := nth vs_1 2
    let i4_1 := nth vs_1 3
    (bin .add i4_1 (Value.int IntKind.i64 1)).bind fun v12 =>
    some (Res.norm [f1_1, v2_1, l3_1, v12] W2)
  else
  some (Res.exit 0 [f1, v2, l3] W1)
noncomputable def f7 (call : CallF) (f0 : Value) (W0 : World) : Option (Value × World) :=
  ((erun Tryd.prog (Instr.box 30 f0) W0).bind fun r1 =>
  (erun Tryd.prog (Instr.alloc 30 true (.tuple #[])) r1.2).bind fun r2 =>
  (iter (f7.l0 call) [r1.1, r2.1, (Value.slice none 0 0), (Value.int IntKind.i64 0)] r2.2).bind fun (r : Res) => (r.unblock 0).cont fun vs_2 W3 =>
  let f1_2 := nth vs_2 0
  let v2_2 := nth vs_2 1
  let l3_2 := nth vs_2 2
  (prun Tryd.prog (Instr.fieldAt 30 f1_2 0)).bind fun v41 =>
  (rrun Tryd.prog (Instr.loadAt 27 v41) W3).bind fun v42 =>
  (prun Tryd.prog (Instr.build 30 #[(0, v42), (1, l3_2)])).bind fun v44 =>
  (erun Tryd.prog (Instr.storeAt 30 v2_2 v44) W3).bind fun r =>
  some (Res.ret [v2_2] r.2)).bind (Res.doneR Tryd.prog [.cell 2 30])
theorem f7.eq (call dfr : CallF) (f0 : Value) (W0 : World) : aFun Tryd.prog call dfr Tryd.f7 f7.ann (ofArgs #[f0]) W0 = f7 call f0 W0 := by kernel_rfl

/-- dailies/conform.Mix -/
def f8.ann : Ann := (.s .z (.s (.s .z (.c (.s .z .z) .z)) (.s (.s .z (.b [2, 3, 4, 5, 8] (.l [2, 3, 4, 5, 8, 36, 37] (.s .z (.s (.c .z .z) (.s (.b [2, 3, 4, 5, 8, 36, 37] (.s .z (.s .z (.s .z (.c (.s .z .z) .z))))) .z)))))) (.s (.s .z (.c (.s .z .z) .z)) (.s .z (.s (.s .z (.b [8, 13] (.l [2, 3, 4, 5, 8, 13, 60, 61, 62] (.s .z (.s (.c .z .z) (.s (.b [2, 3, 4, 5, 8, 13, 60, 61, 62] (.s .z (.s .z (.b [2, 3, 4, 5, 8, 13, 60, 61, 62] (.l [2, 3, 4, 5, 8, 13, 15, 16, 60, 61, 62, 68, 69] (.s .z (.s (.c .z .z) (.s (.b [2, 3, 4, 5, 8, 13, 15, 16, 60, 61, 62, 68, 69] (.s .z .z)) .z)))))))) .z)))))) (.s .z .z)))))))
noncomputable def f8.l0 (call : CallF) (vs : List Value) (W1 : World) : Option Res :=
  let part2_1 := nth vs 0
  let of3_1 := nth vs 1
  let a4 := nth vs 2
  let b5 := nth vs 3
  let v8 := nth vs 4
  let v36_1 := nth vs 5
  let v37 := nth vs 6
  (bin .lss v37 (Value.int IntKind.i64 2)).bind fun v38 =>
  (asB v38).bind fun c38 =>
  if c38 then
    ((prun Tryd.prog (Instr.index 53 v36_1 v37)).bind fun v39 =>
    (erun Tryd.prog (Instr.alloc 30 true (.tuple #[])) W1).bind fun r11 =>
    (erun Tryd.prog (Instr.storeAt 30 r11.1 v39) r11.2).bind fun r_1 =>
    (rrun Tryd.prog (Instr.loadAt 30 r11.1) r_1.2).bind fun v40 =>
    (call 16 #[v40] r_1.2).bind fun r41 =>
    (bin .neq r41.1 (Value.int IntKind.i64 0)).bind fun v43 =>
    (asB v43).bind fun c43 =>
    if c43 then
      (prun Tryd.prog (Instr.build 30 #[])).bind fun v44 =>
      (erun Tryd.prog (Instr.storeAt 30 v8 v44) r41.2).bind fun r_2 =>
      some (Res.ret [v8, r41.1] r_2.2)
    else
    some (Res.norm [part2_1, of3_1, a4, b5, v8, v36_1, v37] r41.2)).bind fun (r : Res) => (r.unblock 1).cont fun vs_1 W2 =>
    let part2_2 := nth vs_1 0
    let of3_2 := nth vs_1 1
    let a4_1 := nth vs_1 2
    let b5_1 := nth vs_1 3
    let v8_1 := nth vs_1 4
    let v36_2 := nth vs_1 5
    let v37_1 := nth vs_1 6
    (bin .add v37_1 (Value.int IntKind.i64 1)).bind fun v46 =>
    some (Res.norm [part2_2, of3_2, a4_1, b5_1, v8_1, v36_2, v46] W2)
  else
  some (Res.exit 0 [part2_1, of3_1, a4, b5, v8] W1)
noncomputable def f8.l1 (call : CallF) (vs_4 : List Value) (W5 : World) : Option Res :=
  let part2_5 := nth vs_4 0
  let of3_5 := nth vs_4 1
  let a4_4 := nth vs_4 2
  let b5_4 := nth vs_4 3
  let v8_4 := nth vs_4 4
  let out13_1 := nth vs_4 5
  let i15 := nth vs_4 6
  let p16 := nth vs_4 7
  let v60_2 := nth vs_4 8
  let v61_2 := nth vs_4 9
  let v62_1 := nth vs_4 10
  let v68_1 := nth vs_4 11
  let v69 := nth vs_4 12
  (bin .lss v69 v68_1).bind fun v70 =>
  (asB v70).bind fun c70 =>
  if c70 then
    ((prun Tryd.prog (Instr.fieldAt 30 a4_4 1)).bind fun v74 =>
    (rrun Tryd.prog (Instr.loadAt 28 v74) W5.drew).bind fun v75 =>
    (prun Tryd.prog (Instr.indexAt 28 v75 i15)).bind fun v77 =>
    (rrun Tryd.prog (Instr.loadAt 38 v77) W5.drew).bind fun v78 =>
    (prun Tryd.prog (Instr.indexAt 38 v78 v69)).bind fun v80 =>
    (rrun Tryd.prog (Instr.loadAt 39 v80) W5.drew).bind fun v81 =>
    (prun Tryd.prog (convert 39 3 v81)).bind fun v82 =>
    (bin .sub of3_5 part2_5).bind fun v85 =>
    (bin .mul v82 v85).bind fun v86 =>
    (prun Tryd.prog (Instr.fieldAt 30 b5_4 1)).bind fun v87 =>
    (rrun Tryd.prog (Instr.loadAt 28 v87) W5.drew).bind fun v88 =>
    (prun Tryd.prog (Instr.indexAt 28 v88 i15)).bind fun v90 =>
    (rrun Tryd.prog (Instr.loadAt 38 v90) W5.drew).bind fun v91 =>
    (prun Tryd.prog (Instr.indexAt 38 v91 v69)).bind fun v93 =>
    (rrun Tryd.prog (Instr.loadAt 39 v93) W5.drew).bind fun v94 =>
    (prun Tryd.prog (convert 39 3 v94)).bind fun v95 =>
    (bin .mul v95 part2_5).bind fun v97 =>
    (bin .add v86 v97).bind fun v98 =>
    (bin .quo of3_5 (Value.int IntKind.i64 2)).bind fun v100 =>
    (bin .add v98 v100).bind fun v101 =>
    (bin .quo v101 of3_5).bind fun v103 =>
    (prun Tryd.prog (convert 3 39 v103)).bind fun v104 =>
    (prun Tryd.prog (Instr.indexAt 38 p16 v69)).bind fun v105 =>
    (erun Tryd.prog (Instr.storeAt 39 v105 v104) W5.drew).bind fun r_5 =>
    some (Res.norm [part2_5, of3_5, a4_4, b5_4, v8_4, out13_1, i15, p16, v60_2, v61_2, v62_1, v68_1, v69] r_5.2)).bind fun (r : Res) => (r.unblock 5).cont fun vs_5 W6 =>
    let part2_6 := nth vs_5 0
    let of3_6 := nth vs_5 1
    let a4_5 := nth vs_5 2
    let b5_5 := nth vs_5 3
    let v8_5 := nth vs_5 4
    let out13_2 := nth vs_5 5
    let i15_1 := nth vs_5 6
    let p16_1 := nth vs_5 7
    let v60_3 := nth vs_5 8
    let v61_3 := nth vs_5 9
    let v62_2 := nth vs_5 10
    let v68_2 := nth vs_5 11
    let v69_1 := nth vs_5 12
    (bin .add v69_1 (Value.int IntKind.i64 1)).bind fun v106 =>
    some (Res.norm [part2_6, of3_6, a4_5, b5_5, v8_5, out13_2, i15_1, p16_1, v60_3, v61_3, v62_2, v68_2, v106] W6)
  else
  some (Res.exit 4 [part2_5, of3_5, a4_4, b5_4, v8_4, out13_1, v60_2, v61_2, v62_1] W5)
noncomputable def f8.l2 (call : CallF) (vs_3 : List Value) (W4 : World) : Option Res :=
  let part2_4 := nth vs_3 0
  let of3_4 := nth vs_3 1
  let a4_3 := nth vs_3 2
  let b5_3 := nth vs_3 3
  let v8_3 := nth vs_3 4
  let out13 := nth vs_3 5
  let v60_1 := nth vs_3 6
  let v61_1 := nth vs_3 7
  let v62 := nth vs_3 8
  (bin .lss v62 v61_1).bind fun v63 =>
  (asB v63).bind fun c63 =>
  if c63 then
    ((prun Tryd.prog (Instr.indexAt 28 v60_1 v62)).bind fun v65 =>
    (rrun Tryd.prog (Instr.loadAt 38 v65) W4).bind fun v66 =>
    (prun Tryd.prog (Builtin.len_ #[38] 3 #[v66])).bind fun v68 =>
    (iter (f8.l1 call) [part2_4, of3_4, a4_3, b5_3, v8_3, out13, v62, v66, v60_1, v61_1, v62, v68, (Value.int IntKind.i64 0)] W4).bind fun (r : Res) => (r.unblock 4).cont fun vs_6 W7 =>
    let part2_7 := nth vs_6 0
    let of3_7 := nth vs_6 1
    let a4_6 := nth vs_6 2
    let b5_6 := nth vs_6 3
    let v8_6 := nth vs_6 4
    let out13_3 := nth vs_6 5
    let v60_4 := nth vs_6 6
    let v61_4 := nth vs_6 7
    let v62_3 := nth vs_6 8
    some (Res.norm [part2_7, of3_7, a4_6, b5_6, v8_6, out13_3, v60_4, v61_4, v62_3] W7)).bind fun (r : Res) => (r.unblock 3).cont fun vs_7 W8 =>
    let part2_8 := nth vs_7 0
    let of3_8 := nth vs_7 1
    let a4_7 := nth vs_7 2
    let b5_7 := nth vs_7 3
    let v8_7 := nth vs_7 4
    let out13_4 := nth vs_7 5
    let v60_5 := nth vs_7 6
    let v61_5 := nth vs_7 7
    let v62_4 := nth vs_7 8
    (bin .add v62_4 (Value.int IntKind.i64 1)).bind fun v107 =>
    some (Res.norm [part2_8, of3_8, a4_7, b5_7, v8_7, out13_4, v60_5, v61_5, v107] W8)
  else
  some (Res.exit 2 [v8_3, out13] W4)
noncomputable def f8 (call : CallF) (a0 : Value) (b1 : Value) (part2 : Value) (of3 : Value) (W0 : World) : Option (Value × World) :=
  ((erun Tryd.prog (Instr.box 30 a0) W0).bind fun r4 =>
  (erun Tryd.prog (Instr.box 30 b1) r4.2).bind fun r5 =>
  (erun Tryd.prog (Instr.alloc 30 true (.tuple #[])) r5.2).bind fun r8 =>
  (bin .lss of3 (Value.int IntKind.i64 1)).bind fun v19 =>
  (asB v19).bind fun b20 =>
  (if b20 = false then (bin .gtr of3 (Value.int IntKind.i64 101)).bind fun v22 =>
    some (v22, r8.2)
   else some ((Value.bool true), r8.2)).bind fun r23 =>
  (asB r23.1).bind fun b24 =>
  (if b24 = false then (bin .lss part2 (Value.int IntKind.i64 0)).bind fun v26 =>
    some (v26, r23.2)
   else some ((Value.bool true), r23.2)).bind fun r27 =>
  (asB r27.1).bind fun b28 =>
  (if b28 = false then (bin .gtr part2 of3).bind fun v31 =>
    some (v31, r27.2)
   else some ((Value.bool true), r27.2)).bind fun r32 =>
  (asB r32.1).bind fun c32 =>
  if c32 then
    (prun Tryd.prog (Instr.build 30 #[])).bind fun v33 =>
    (erun Tryd.prog (Instr.storeAt 30 r8.1 v33) r32.2).bind fun r =>
    some (Res.ret [r8.1, (Value.int IntKind.i64 1)] r.2)
  else
  (rrun Tryd.prog (Instr.loadAt 30 r4.1) r32.2).bind fun v34 =>
  (rrun Tryd.prog (Instr.loadAt 30 r5.1) r32.2).bind fun v35 =>
  (prun Tryd.prog (Instr.build 53 #[(0, v34), (1, v35)])).bind fun v36 =>
  (iter (f8.l0 call) [part2, of3, r4.1, r5.1, r8.1, v36, (Value.int IntKind.i64 0)] r32.2).bind fun (r : Res) => (r.unblock 0).cont fun vs_2 W3 =>
  let part2_3 := nth vs_2 0
  let of3_3 := nth vs_2 1
  let a4_2 := nth vs_2 2
  let b5_2 := nth vs_2 3
  let v8_2 := nth vs_2 4
  (prun Tryd.prog (Instr.fieldAt 30 a4_2 0)).bind fun v47 =>
  (rrun Tryd.prog (Instr.loadAt 27 v47) W3).bind fun v48 =>
  (prun Tryd.prog (Instr.fieldAt 30 b5_2 0)).bind fun v49 =>
  (rrun Tryd.prog (Instr.loadAt 27 v49) W3).bind fun v50 =>
  (rrun Tryd.prog (do eqGuard .neq 27 (Operand.tmp 48) (Operand.tmp 50) v48 v50; binOp .neq 27 v48 v50) W3).bind fun v51 =>
  (asB v51).bind fun c51 =>
  if c51 then
    (prun Tryd.prog (Instr.build 30 #[])).bind fun v52 =>
    (erun Tryd.prog (Instr.storeAt 30 v8_2 v52) W3).bind fun r_3 =>
    some (Res.ret [v8_2, (Value.int IntKind.i64 204)] r_3.2)
  else
  (prun Tryd.prog (Instr.fieldAt 30 a4_2 0)).bind fun v54 =>
  (rrun Tryd.prog (Instr.loadAt 27 v54) W3).bind fun v55 =>
  (call 17 #[v55] W3).bind fun r56 =>
  (prun Tryd.prog (Instr.extract r56.1 0)).bind fun v57 =>
  (prun Tryd.prog (Instr.extract r56.1 1)).bind fun v58 =>
  (erun Tryd.prog (Instr.alloc 30 true (.tuple #[])) r56.2).bind fun r13 =>
  (erun Tryd.prog (Instr.storeAt 30 r13.1 v57) r13.2).bind fun r_4 =>
  (prun Tryd.prog (Instr.fieldAt 30 r13.1 1)).bind fun v59 =>
  (rrun Tryd.prog (Instr.loadAt 28 v59) r_4.2).bind fun v60 =>
  (prun Tryd.prog (Builtin.len_ #[28] 3 #[v60])).bind fun v61 =>
  (iter (f8.l2 call) [part2_3, of3_3, a4_2, b5_2, v8_2, r13.1, v60, v61, (Value.int IntKind.i64 0)] r_4.2).bind fun (r : Res) => (r.unblock 2).cont fun vs_8 W9 =>
  let v8_8 := nth vs_8 0
  let out13_5 := nth vs_8 1
  (rrun Tryd.prog (Instr.loadAt 30 out13_5) W9).bind fun v108 =>
  (erun Tryd.prog (Instr.storeAt 30 v8_8 v108) W9).bind fun r_6 =>
  some (Res.ret [v8_8, (Value.int IntKind.i64 0)] r_6.2)).bind (Res.doneR Tryd.prog [.cell 8 30, .tmp 9])
theorem f8.eq (call dfr : CallF) (a0 : Value) (b1 : Value) (part2 : Value) (of3 : Value) (W0 : World) : aFun Tryd.prog call dfr Tryd.f8 f8.ann (ofArgs #[a0, b1, part2, of3]) W0 = f8 call a0 b1 part2 of3 W0 := by kernel_rfl

/-- dailies/dailieslaw20.still -/
def f9.ann : Ann := (.s .z (.s .z (.s (.s .z (.b [5] (.l [2, 5, 6] (.s (.s .z (.c .z .z)) (.s (.b [2, 5, 6] (.s .z (.s .z (.s .z (.b [2, 5, 6] (.l [2, 5, 6, 7, 8] (.s (.s .z (.c .z .z)) (.s (.b [2, 5, 6, 7, 8] .z) .z)))))))) .z))))) (.s .z .z))))
noncomputable def f9.l0 (call : CallF) (vs_1 : List Value) (W2 : World) : Option Res :=
  let x2_1 := nth vs_1 0
  let ok5_1 := nth vs_1 1
  let p6_1 := nth vs_1 2
  let l7 := nth vs_1 3
  let i8 := nth vs_1 4
  (prun Tryd.prog (Builtin.len_ #[38] 3 #[l7])).bind fun v53 =>
  (bin .lss i8 v53).bind fun v54 =>
  (asB v54).bind fun c54 =>
  if c54 then
    ((prun Tryd.prog (Instr.indexAt 38 l7 i8)).bind fun v59 =>
    (erun Tryd.prog (Instr.storeAt 39 v59 (Value.int IntKind.u16 7)) W2).bind fun r =>
    some (Res.norm [x2_1, ok5_1, p6_1, l7, i8] r.2)).bind fun (r : Res) => (r.unblock 3).cont fun vs_2 W3 =>
    let x2_2 := nth vs_2 0
    let ok5_2 := nth vs_2 1
    let p6_2 := nth vs_2 2
    let l7_1 := nth vs_2 3
    let i8_1 := nth vs_2 4
    (bin .add i8_1 (Value.int IntKind.i64 1)).bind fun v56 =>
    some (Res.norm [x2_2, ok5_2, p6_2, l7_1, v56] W3)
  else
  some (Res.exit 2 [x2_1, ok5_1, p6_1] W2)
noncomputable def f9.l1 (call : CallF) (vs : List Value) (W1 : World) : Option Res :=
  let x2 := nth vs 0
  let ok5 := nth vs 1
  let p6 := nth vs 2
  (prun Tryd.prog (Instr.fieldAt 30 x2 1)).bind fun v13 =>
  (rrun Tryd.prog (Instr.loadAt 28 v13) W1).bind fun v14 =>
  (prun Tryd.prog (Builtin.len_ #[28] 3 #[v14])).bind fun v15 =>
  (bin .lss p6 v15).bind fun v16 =>
  (asB v16).bind fun c16 =>
  if c16 then
    ((prun Tryd.prog (Instr.fieldAt 30 x2 1)).bind fun v19 =>
    (rrun Tryd.prog (Instr.loadAt 28 v19) W1.drew).bind fun v20 =>
    (prun Tryd.prog (Instr.indexAt 28 v20 p6)).bind fun v22 =>
    (rrun Tryd.prog (Instr.loadAt 38 v22) W1.drew).bind fun v23 =>
    (prun Tryd.prog (Instr.fieldAt 30 x2 1)).bind fun v24 =>
    (rrun Tryd.prog (Instr.loadAt 28 v24) W1.drew).bind fun v25 =>
    (prun Tryd.prog (Instr.indexAt 28 v25 p6)).bind fun v27 =>
    (rrun Tryd.prog (Instr.loadAt 38 v27) W1.drew).bind fun v28 =>
    (prun Tryd.prog (Builtin.len_ #[38] 3 #[v28])).bind fun v29 =>
    (bin .add v29 (Value.int IntKind.i64 2)).bind fun v30 =>
    (prun Tryd.prog (Instr.sliceAt 38 v23 none (some v30) none)).bind fun v31 =>
    (asB ok5).bind fun b33 =>
    (if b33 = true then (prun Tryd.prog (Builtin.len_ #[38] 3 #[v31])).bind fun v36 =>
      (bin .sub v36 (Value.int IntKind.i64 2)).bind fun v37 =>
      (prun Tryd.prog (Instr.indexAt 38 v31 v37)).bind fun v38 =>
      (rrun Tryd.prog (Instr.loadAt 39 v38) W1.drew).bind fun v39 =>
      (bin .eql v39 (Value.int IntKind.u16 60001)).bind fun v40 =>
      some (v40, W1.drew)
     else some ((Value.bool false), W1.drew)).bind fun r41 =>
    (asB r41.1).bind fun b42 =>
    (if b42 = true then (prun Tryd.prog (Builtin.len_ #[38] 3 #[v31])).bind fun v45 =>
      (bin .sub v45 (Value.int IntKind.i64 1)).bind fun v46 =>
      (prun Tryd.prog (Instr.indexAt 38 v31 v46)).bind fun v47 =>
      (rrun Tryd.prog (Instr.loadAt 39 v47) r41.2).bind fun v48 =>
      (bin .eql v48 (Value.int IntKind.u16 60002)).bind fun v49 =>
      some (v49, r41.2)
     else some ((Value.bool false), r41.2)).bind fun r50 =>
    (iter (f9.l0 call) [x2, r50.1, p6, v31, (Value.int IntKind.i64 0)] r50.2).bind fun (r : Res) => (r.unblock 2).cont fun vs_3 W4 =>
    let x2_3 := nth vs_3 0
    let ok5_3 := nth vs_3 1
    let p6_3 := nth vs_3 2
    some (Res.norm [x2_3, ok5_3, p6_3] W4)).bind fun (r : Res) => (r.unblock 1).cont fun vs_4 W5 =>
    let x2_4 := nth vs_4 0
    let ok5_4 := nth vs_4 1
    let p6_4 := nth vs_4 2
    (bin .add p6_4 (Value.int IntKind.i64 1)).bind fun v18 =>
    some (Res.norm [x2_4, ok5_4, v18] W5)
  else
  some (Res.exit 0 [ok5] W1)
noncomputable def f9 (call : CallF) (x0 : Value) (f1 : Value) (W0 : World) : Option (Value × World) :=
  ((erun Tryd.prog (Instr.box 30 x0) W0).bind fun r2 =>
  (erun Tryd.prog (Instr.box 30 f1) r2.2).bind fun r3 =>
  (rrun Tryd.prog (Instr.loadAt 30 r2.1) r3.2).bind fun v9 =>
  (rrun Tryd.prog (Instr.loadAt 30 r3.1) r3.2).bind fun v10 =>
  (call 12 #[v9, v10] r3.2).bind fun r11 =>
  (iter (f9.l1 call) [r2.1, r11.1, (Value.int IntKind.i64 0)] r11.2).bind fun (r : Res) => (r.unblock 0).cont fun vs_5 W6 =>
  let ok5_5 := nth vs_5 0
  some (Res.ret [ok5_5] W6)).bind Res.done
theorem f9.eq (call dfr : CallF) (x0 : Value) (f1 : Value) (W0 : World) : aFun Tryd.prog call dfr Tryd.f9 f9.ann (ofArgs #[x0, f1]) W0 = f9 call x0 f1 W0 := by kernel_rfl

/-- dailies/dailiesref20.Mix -/
def f10.ann : Ann := (.s .z (.s (.s .z (.c (.s .z .z) .z)) (.s .z (.s (.s .z (.c (.s .z .z) .z)) (.s .z (.s (.s .z (.c (.s .z .z) .z)) (.s (.s .z (.c (.s .z .z) .z)) (.s .z (.s (.s .z (.b [8, 11] (.l [2, 3, 4, 5, 8, 11, 12] (.s (.s .z (.c .z .z)) (.s (.b [2, 3, 4, 5, 8, 11, 12] (.s .z (.s (.s .z (.b [2, 3, 4, 5, 8, 11, 12, 13] (.l [2, 3, 4, 5, 8, 11, 12, 13, 14] (.s (.s .z (.c .z .z)) (.s (.b [2, 3, 4, 5, 8, 11, 12, 13, 14] .z) .z))))) .z))) .z))))) (.s .z .z))))))))))
noncomputable def f10.l0 (call : CallF) (vs_1 : List Value) (W2 : World) : Option Res :=
  let part2_2 := nth vs_1 0
  let of3_2 := nth vs_1 1
  let a4_1 := nth vs_1 2
  let b5_1 := nth vs_1 3
  let v8_1 := nth vs_1 4
  let out11_1 := nth vs_1 5
  let p12_1 := nth vs_1 6
  let l13 := nth vs_1 7
  let i14 := nth vs_1 8
  (prun Tryd.prog (Builtin.len_ #[38] 3 #[l13])).bind fun v68 =>
  (bin .lss i14 v68).bind fun v69 =>
  (asB v69).bind fun c69 =>
  if c69 then
    ((prun Tryd.prog (Instr.fieldAt 30 a4_1 1)).bind fun v74 =>
    (rrun Tryd.prog (Instr.loadAt 28 v74) W2.drew).bind fun v75 =>
    (prun Tryd.prog (Instr.indexAt 28 v75 p12_1)).bind fun v77 =>
    (rrun Tryd.prog (Instr.loadAt 38 v77) W2.drew).bind fun v78 =>
    (prun Tryd.prog (Instr.indexAt 38 v78 i14)).bind fun v80 =>
    (rrun Tryd.prog (Instr.loadAt 39 v80) W2.drew).bind fun v81 =>
    (prun Tryd.prog (convert 39 3 v81)).bind fun v82 =>
    (bin .sub of3_2 part2_2).bind fun v85 =>
    (bin .mul v82 v85).bind fun v86 =>
    (prun Tryd.prog (Instr.fieldAt 30 b5_1 1)).bind fun v87 =>
    (rrun Tryd.prog (Instr.loadAt 28 v87) W2.drew).bind fun v88 =>
    (prun Tryd.prog (Instr.indexAt 28 v88 p12_1)).bind fun v90 =>
    (rrun Tryd.prog (Instr.loadAt 38 v90) W2.drew).bind fun v91 =>
    (prun Tryd.prog (Instr.indexAt 38 v91 i14)).bind fun v93 =>
    (rrun Tryd.prog (Instr.loadAt 39 v93) W2.drew).bind fun v94 =>
    (prun Tryd.prog (convert 39 3 v94)).bind fun v95 =>
    (bin .mul v95 part2_2).bind fun v97 =>
    (bin .add v86 v97).bind fun v98 =>
    (bin .quo of3_2 (Value.int IntKind.i64 2)).bind fun v100 =>
    (bin .add v98 v100).bind fun v101 =>
    (bin .quo v101 of3_2).bind fun v103 =>
    (prun Tryd.prog (convert 3 39 v103)).bind fun v104 =>
    (prun Tryd.prog (Instr.indexAt 38 l13 i14)).bind fun v105 =>
    (erun Tryd.prog (Instr.storeAt 39 v105 v104) W2.drew).bind fun r_5 =>
    some (Res.norm [part2_2, of3_2, a4_1, b5_1, v8_1, out11_1, p12_1, l13, i14] r_5.2)).bind fun (r : Res) => (r.unblock 3).cont fun vs_2 W3 =>
    let part2_3 := nth vs_2 0
    let of3_3 := nth vs_2 1
    let a4_2 := nth vs_2 2
    let b5_2 := nth vs_2 3
    let v8_2 := nth vs_2 4
    let out11_2 := nth vs_2 5
    let p12_2 := nth vs_2 6
    let l13_1 := nth vs_2 7
    let i14_1 := nth vs_2 8
    (bin .add i14_1 (Value.int IntKind.i64 1)).bind fun v71 =>
    some (Res.norm [part2_3, of3_3, a4_2, b5_2, v8_2, out11_2, p12_2, l13_1, v71] W3)
  else
  some (Res.exit 2 [part2_2, of3_2, a4_1, b5_1, v8_1, out11_1, p12_1, l13] W2)
noncomputable def f10.l1 (call : CallF) (vs : List Value) (W1 : World) : Option Res :=
  let part2_1 := nth vs 0
  let of3_1 := nth vs 1
  let a4 := nth vs 2
  let b5 := nth vs 3
  let v8 := nth vs 4
  let out11 := nth vs 5
  let p12 := nth vs 6
  (prun Tryd.prog (Instr.fieldAt 30 a4 1)).bind fun v53 =>
  (rrun Tryd.prog (Instr.loadAt 28 v53) W1).bind fun v54 =>
  (prun Tryd.prog (Builtin.len_ #[28] 3 #[v54])).bind fun v55 =>
  (bin .lss p12 v55).bind fun v56 =>
  (asB v56).bind fun c56 =>
  if c56 then
    ((prun Tryd.prog (Instr.fieldAt 30 a4 1)).bind fun v59 =>
    (rrun Tryd.prog (Instr.loadAt 28 v59) W1).bind fun v60 =>
    (prun Tryd.prog (Instr.indexAt 28 v60 p12)).bind fun v62 =>
    (rrun Tryd.prog (Instr.loadAt 38 v62) W1).bind fun v63 =>
    (prun Tryd.prog (Builtin.len_ #[38] 3 #[v63])).bind fun v64 =>
    (erun Tryd.prog (Instr.makeSlice 38 v64 v64) W1).bind fun r65 =>
    (iter (f10.l0 call) [part2_1, of3_1, a4, b5, v8, out11, p12, r65.1, (Value.int IntKind.i64 0)] r65.2).bind fun (r : Res) => (r.unblock 2).cont fun vs_3 W4 =>
    let part2_4 := nth vs_3 0
    let of3_4 := nth vs_3 1
    let a4_3 := nth vs_3 2
    let b5_3 := nth vs_3 3
    let v8_3 := nth vs_3 4
    let out11_3 := nth vs_3 5
    let p12_3 := nth vs_3 6
    let l13_2 := nth vs_3 7
    (prun Tryd.prog (Instr.fieldAt 30 out11_3 1)).bind fun v106 =>
    (rrun Tryd.prog (Instr.loadAt 28 v106) W4).bind fun v107 =>
    (erun Tryd.prog (Instr.buildSlice 28 1 #[(0, l13_2)]) W4).bind fun r109 =>
    (erun Tryd.prog (Builtin.append_ #[28, 28] 28 #[v107, r109.1]) r109.2).bind fun r110 =>
    (prun Tryd.prog (Instr.fieldAt 30 out11_3 1)).bind fun v111 =>
    (erun Tryd.prog (Instr.storeAt 28 v111 r110.1) r110.2).bind fun r_6 =>
    some (Res.norm [part2_4, of3_4, a4_3, b5_3, v8_3, out11_3, p12_3] r_6.2)).bind fun (r : Res) => (r.unblock 1).cont fun vs_4 W5 =>
    let part2_5 := nth vs_4 0
    let of3_5 := nth vs_4 1
    let a4_4 := nth vs_4 2
    let b5_4 := nth vs_4 3
    let v8_4 := nth vs_4 4
    let out11_4 := nth vs_4 5
    let p12_4 := nth vs_4 6
    (bin .add p12_4 (Value.int IntKind.i64 1)).bind fun v58 =>
    some (Res.norm [part2_5, of3_5, a4_4, b5_4, v8_4, out11_4, v58] W5)
  else
  some (Res.exit 0 [v8, out11] W1)
noncomputable def f10 (call : CallF) (a0 : Value) (b1 : Value) (part2 : Value) (of3 : Value) (W0 : World) : Option (Value × World) :=
  ((erun Tryd.prog (Instr.box 30 a0) W0).bind fun r4 =>
  (erun Tryd.prog (Instr.box 30 b1) r4.2).bind fun r5 =>
  (erun Tryd.prog (Instr.alloc 30 true (.tuple #[])) r5.2).bind fun r8 =>
  (bin .lss of3 (Value.int IntKind.i64 1)).bind fun v16 =>
  (asB v16).bind fun b17 =>
  (if b17 = false then (bin .gtr of3 (Value.int IntKind.i64 101)).bind fun v19 =>
    some (v19, r8.2)
   else some ((Value.bool true), r8.2)).bind fun r20 =>
  (asB r20.1).bind fun b21 =>
  (if b21 = false then (bin .lss part2 (Value.int IntKind.i64 0)).bind fun v23 =>
    some (v23, r20.2)
   else some ((Value.bool true), r20.2)).bind fun r24 =>
  (asB r24.1).bind fun b25 =>
  (if b25 = false then (bin .gtr part2 of3).bind fun v28 =>
    some (v28, r24.2)
   else some ((Value.bool true), r24.2)).bind fun r29 =>
  (asB r29.1).bind fun c29 =>
  if c29 then
    (prun Tryd.prog (Instr.build 30 #[])).bind fun v30 =>
    (erun Tryd.prog (Instr.storeAt 30 r8.1 v30) r29.2).bind fun r =>
    some (Res.ret [r8.1, (Value.int IntKind.i64 1)] r.2)
  else
  (rrun Tryd.prog (Instr.loadAt 30 r4.1) r29.2).bind fun v31 =>
  (call 18 #[v31] r29.2).bind fun r32 =>
  (bin .neq r32.1 (Value.int IntKind.i64 0)).bind fun v34 =>
  (asB v34).bind fun c34 =>
  if c34 then
    (prun Tryd.prog (Instr.build 30 #[])).bind fun v35 =>
    (erun Tryd.prog (Instr.storeAt 30 r8.1 v35) r32.2).bind fun r_1 =>
    some (Res.ret [r8.1, r32.1] r_1.2)
  else
  (rrun Tryd.prog (Instr.loadAt 30 r5.1) r32.2).bind fun v37 =>
  (call 18 #[v37] r32.2).bind fun r38 =>
  (bin .neq r38.1 (Value.int IntKind.i64 0)).bind fun v40 =>
  (asB v40).bind fun c40 =>
  if c40 then
    (prun Tryd.prog (Instr.build 30 #[])).bind fun v41 =>
    (erun Tryd.prog (Instr.storeAt 30 r8.1 v41) r38.2).bind fun r_2 =>
    some (Res.ret [r8.1, r38.1] r_2.2)
  else
  (prun Tryd.prog (Instr.fieldAt 30 r4.1 0)).bind fun v43 =>
  (rrun Tryd.prog (Instr.loadAt 27 v43) r38.2).bind fun v44 =>
  (prun Tryd.prog (Instr.fieldAt 30 r5.1 0)).bind fun v45 =>
  (rrun Tryd.prog (Instr.loadAt 27 v45) r38.2).bind fun v46 =>
  (rrun Tryd.prog (do eqGuard .neq 27 (Operand.tmp 44) (Operand.tmp 46) v44 v46; binOp .neq 27 v44 v46) r38.2).bind fun v47 =>
  (asB v47).bind fun c47 =>
  if c47 then
    (prun Tryd.prog (Instr.build 30 #[])).bind fun v48 =>
    (erun Tryd.prog (Instr.storeAt 30 r8.1 v48) r38.2).bind fun r_3 =>
    some (Res.ret [r8.1, (Value.int IntKind.i64 204)] r_3.2)
  else
  (prun Tryd.prog (Instr.fieldAt 30 r4.1 0)).bind fun v49 =>
  (rrun Tryd.prog (Instr.loadAt 27 v49) r38.2).bind fun v50 =>
  (prun Tryd.prog (Instr.build 30 #[(0, v50)])).bind fun v51 =>
  (erun Tryd.prog (Instr.alloc 30 true (.tuple #[])) r38.2).bind fun r11 =>
  (erun Tryd.prog (Instr.storeAt 30 r11.1 v51) r11.2).bind fun r_4 =>
  (iter (f10.l1 call) [part2, of3, r4.1, r5.1, r8.1, r11.1, (Value.int IntKind.i64 0)] r_4.2).bind fun (r : Res) => (r.unblock 0).cont fun vs_5 W6 =>
  let v8_5 := nth vs_5 0
  let out11_5 := nth vs_5 1
  (rrun Tryd.prog (Instr.loadAt 30 out11_5) W6).bind fun v112 =>
  (erun Tryd.prog (Instr.storeAt 30 v8_5 v112) W6).bind fun r_7 =>
  some (Res.ret [v8_5, (Value.int IntKind.i64 0)] r_7.2)).bind (Res.doneR Tryd.prog [.cell 8 30, .tmp 9])
theorem f10.eq (call dfr : CallF) (a0 : Value) (b1 : Value) (part2 : Value) (of3 : Value) (W0 : World) : aFun Tryd.prog call dfr Tryd.f10 f10.ann (ofArgs #[a0, b1, part2, of3]) W0 = f10 call a0 b1 part2 of3 W0 := by kernel_rfl

/-- dailies/dailieslaw20.over -/
def f11.ann : Ann := (.s .z (.s .z (.s (.s .z (.b [2, 3] (.l [1, 2, 3, 4] (.s (.s .z (.c .z .z)) (.s (.b [1, 2, 3, 4] (.s .z (.s (.s .z (.b [1, 2, 3, 4, 5] (.l [1, 2, 3, 4, 5, 6] (.s (.s .z (.c .z .z)) (.s (.b [1, 2, 3, 4, 5, 6] .z) .z))))) .z))) .z))))) (.s .z .z))))
noncomputable def f11.l0 (call : CallF) (vs_1 : List Value) (W2 : World) : Option Res :=
  let f1_1 := nth vs_1 0
  let v2_1 := nth vs_1 1
  let g3_1 := nth vs_1 2
  let p4_1 := nth vs_1 3
  let l5 := nth vs_1 4
  let i6 := nth vs_1 5
  (prun Tryd.prog (Builtin.len_ #[38] 3 #[l5])).bind fun v26 =>
  (bin .lss i6 v26).bind fun v27 =>
  (asB v27).bind fun c27 =>
  if c27 then
    ((prun Tryd.prog (Instr.indexAt 38 l5 i6)).bind fun v32 =>
    (erun Tryd.prog (Instr.storeAt 39 v32 (Value.int IntKind.u16 7)) W2).bind fun r_1 =>
    some (Res.norm [f1_1, v2_1, g3_1, p4_1, l5, i6] r_1.2)).bind fun (r : Res) => (r.unblock 3).cont fun vs_2 W3 =>
    let f1_2 := nth vs_2 0
    let v2_2 := nth vs_2 1
    let g3_2 := nth vs_2 2
    let p4_2 := nth vs_2 3
    let l5_1 := nth vs_2 4
    let i6_1 := nth vs_2 5
    (bin .add i6_1 (Value.int IntKind.i64 1)).bind fun v29 =>
    some (Res.norm [f1_2, v2_2, g3_2, p4_2, l5_1, v29] W3)
  else
  some (Res.exit 2 [f1_1, v2_1, g3_1, p4_1, l5] W2)
noncomputable def f11.l1 (call : CallF) (vs : List Value) (W1 : World) : Option Res :=
  let f1 := nth vs 0
  let v2 := nth vs 1
  let g3 := nth vs 2
  let p4 := nth vs 3
  (prun Tryd.prog (Instr.fieldAt 30 f1 1)).bind fun v11 =>
  (rrun Tryd.prog (Instr.loadAt 28 v11) W1).bind fun v12 =>
  (prun Tryd.prog (Builtin.len_ #[28] 3 #[v12])).bind fun v13 =>
  (bin .lss p4 v13).bind fun v14 =>
  (asB v14).bind fun c14 =>
  if c14 then
    ((prun Tryd.prog (Instr.fieldAt 30 f1 1)).bind fun v17 =>
    (rrun Tryd.prog (Instr.loadAt 28 v17) W1).bind fun v18 =>
    (prun Tryd.prog (Instr.indexAt 28 v18 p4)).bind fun v20 =>
    (rrun Tryd.prog (Instr.loadAt 38 v20) W1).bind fun v21 =>
    (prun Tryd.prog (Builtin.len_ #[38] 3 #[v21])).bind fun v22 =>
    (erun Tryd.prog (Instr.makeSlice 38 v22 v22) W1).bind fun r23 =>
    (iter (f11.l0 call) [f1, v2, g3, p4, r23.1, (Value.int IntKind.i64 0)] r23.2).bind fun (r : Res) => (r.unblock 2).cont fun vs_3 W4 =>
    let f1_3 := nth vs_3 0
    let v2_3 := nth vs_3 1
    let g3_3 := nth vs_3 2
    let p4_3 := nth vs_3 3
    let l5_2 := nth vs_3 4
    (prun Tryd.prog (Instr.fieldAt 30 g3_3 1)).bind fun v33 =>
    (rrun Tryd.prog (Instr.loadAt 28 v33) W4).bind fun v34 =>
    (erun Tryd.prog (Instr.buildSlice 28 1 #[(0, l5_2)]) W4).bind fun r36 =>
    (erun Tryd.prog (Builtin.append_ #[28, 28] 28 #[v34, r36.1]) r36.2).bind fun r37 =>
    (prun Tryd.prog (Instr.fieldAt 30 g3_3 1)).bind fun v38 =>
    (erun Tryd.prog (Instr.storeAt 28 v38 r37.1) r37.2).bind fun r_2 =>
    some (Res.norm [f1_3, v2_3, g3_3, p4_3] r_2.2)).bind fun (r : Res) => (r.unblock 1).cont fun vs_4 W5 =>
    let f1_4 := nth vs_4 0
    let v2_4 := nth vs_4 1
    let g3_4 := nth vs_4 2
    let p4_4 := nth vs_4 3
    (bin .add p4_4 (Value.int IntKind.i64 1)).bind fun v16 =>
    some (Res.norm [f1_4, v2_4, g3_4, v16] W5)
  else
  some (Res.exit 0 [v2, g3] W1)
noncomputable def f11 (call : CallF) (f0 : Value) (W0 : World) : Option (Value × World) :=
  ((erun Tryd.prog (Instr.box 30 f0) W0).bind fun r1 =>
  (erun Tryd.prog (Instr.alloc 30 true (.tuple #[])) r1.2).bind fun r2 =>
  (prun Tryd.prog (Instr.fieldAt 30 r1.1 0)).bind fun v7 =>
  (rrun Tryd.prog (Instr.loadAt 27 v7) r2.2).bind fun v8 =>
  (prun Tryd.prog (Instr.build 30 #[(0, v8)])).bind fun v9 =>
  (erun Tryd.prog (Instr.alloc 30 true (.tuple #[])) r2.2).bind fun r3 =>
  (erun Tryd.prog (Instr.storeAt 30 r3.1 v9) r3.2).bind fun r =>
  (iter (f11.l1 call) [r1.1, r2.1, r3.1, (Value.int IntKind.i64 0)] r.2).bind fun (r : Res) => (r.unblock 0).cont fun vs_5 W6 =>
  let v2_5 := nth vs_5 0
  let g3_5 := nth vs_5 1
  (rrun Tryd.prog (Instr.loadAt 30 g3_5) W6).bind fun v39 =>
  (erun Tryd.prog (Instr.storeAt 30 v2_5 v39) W6).bind fun r_3 =>
  some (Res.ret [v2_5] r_3.2)).bind (Res.doneR Tryd.prog [.cell 2 30])
theorem f11.eq (call dfr : CallF) (f0 : Value) (W0 : World) : aFun Tryd.prog call dfr Tryd.f11 f11.ann (ofArgs #[f0]) W0 = f11 call f0 W0 := by kernel_rfl

/-- dailies/dailieslaw20.sameFrame -/
def f12.ann : Ann := (.s .z (.s (.s .z (.c (.s .z .z) .z)) (.s (.s .z (.b [] (.l [2, 3, 5] (.s (.s .z (.c .z .z)) (.s (.b [2, 3, 5] (.s (.s .z (.c (.s .z .z) .z)) (.s .z (.b [2, 3, 5] (.l [2, 3, 5, 6] (.s (.s .z (.c .z .z)) (.s (.b [2, 3, 5, 6] (.s .z (.c (.s .z .z) .z))) .z))))))) .z))))) (.s .z .z))))
noncomputable def f12.l0 (call : CallF) (vs_1 : List Value) (W2 : World) : Option Res :=
  let a2_1 := nth vs_1 0
  let b3_1 := nth vs_1 1
  let p5_1 := nth vs_1 2
  let i6 := nth vs_1 3
  (prun Tryd.prog (Instr.fieldAt 30 a2_1 1)).bind fun v42 =>
  (rrun Tryd.prog (Instr.loadAt 28 v42) W2).bind fun v43 =>
  (prun Tryd.prog (Instr.indexAt 28 v43 p5_1)).bind fun v45 =>
  (rrun Tryd.prog (Instr.loadAt 38 v45) W2).bind fun v46 =>
  (prun Tryd.prog (Builtin.len_ #[38] 3 #[v46])).bind fun v47 =>
  (bin .lss i6 v47).bind fun v48 =>
  (asB v48).bind fun c48 =>
  if c48 then
    ((prun Tryd.prog (Instr.fieldAt 30 a2_1 1)).bind fun v51 =>
    (rrun Tryd.prog (Instr.loadAt 28 v51) W2.drew).bind fun v52 =>
    (prun Tryd.prog (Instr.indexAt 28 v52 p5_1)).bind fun v54 =>
    (rrun Tryd.prog (Instr.loadAt 38 v54) W2.drew).bind fun v55 =>
    (prun Tryd.prog (Instr.indexAt 38 v55 i6)).bind fun v57 =>
    (rrun Tryd.prog (Instr.loadAt 39 v57) W2.drew).bind fun v58 =>
    (prun Tryd.prog (Instr.fieldAt 30 b3_1 1)).bind fun v59 =>
    (rrun Tryd.prog (Instr.loadAt 28 v59) W2.drew).bind fun v60 =>
    (prun Tryd.prog (Instr.indexAt 28 v60 p5_1)).bind fun v62 =>
    (rrun Tryd.prog (Instr.loadAt 38 v62) W2.drew).bind fun v63 =>
    (prun Tryd.prog (Instr.indexAt 38 v63 i6)).bind fun v65 =>
    (rrun Tryd.prog (Instr.loadAt 39 v65) W2.drew).bind fun v66 =>
    (bin .neq v58 v66).bind fun v67 =>
    (asB v67).bind fun c67 =>
    if c67 then
      some (Res.ret [(Value.bool false)] W2.drew)
    else
    some (Res.norm [a2_1, b3_1, p5_1, i6] W2.drew)).bind fun (r : Res) => (r.unblock 3).cont fun vs_2 W3 =>
    let a2_2 := nth vs_2 0
    let b3_2 := nth vs_2 1
    let p5_2 := nth vs_2 2
    let i6_1 := nth vs_2 3
    (bin .add i6_1 (Value.int IntKind.i64 1)).bind fun v50 =>
    some (Res.norm [a2_2, b3_2, p5_2, v50] W3)
  else
  some (Res.exit 2 [a2_1, b3_1, p5_1] W2)
noncomputable def f12.l1 (call : CallF) (vs : List Value) (W1 : World) : Option Res :=
  let a2 := nth vs 0
  let b3 := nth vs 1
  let p5 := nth vs 2
  (prun Tryd.prog (Instr.fieldAt 30 a2 1)).bind fun v22 =>
  (rrun Tryd.prog (Instr.loadAt 28 v22) W1).bind fun v23 =>
  (prun Tryd.prog (Builtin.len_ #[28] 3 #[v23])).bind fun v24 =>
  (bin .lss p5 v24).bind fun v25 =>
  (asB v25).bind fun c25 =>
  if c25 then
    ((prun Tryd.prog (Instr.fieldAt 30 a2 1)).bind fun v28 =>
    (rrun Tryd.prog (Instr.loadAt 28 v28) W1.drew).bind fun v29 =>
    (prun Tryd.prog (Instr.indexAt 28 v29 p5)).bind fun v31 =>
    (rrun Tryd.prog (Instr.loadAt 38 v31) W1.drew).bind fun v32 =>
    (prun Tryd.prog (Builtin.len_ #[38] 3 #[v32])).bind fun v33 =>
    (prun Tryd.prog (Instr.fieldAt 30 b3 1)).bind fun v34 =>
    (rrun Tryd.prog (Instr.loadAt 28 v34) W1.drew).bind fun v35 =>
    (prun Tryd.prog (Instr.indexAt 28 v35 p5)).bind fun v37 =>
    (rrun Tryd.prog (Instr.loadAt 38 v37) W1.drew).bind fun v38 =>
    (prun Tryd.prog (Builtin.len_ #[38] 3 #[v38])).bind fun v39 =>
    (bin .neq v33 v39).bind fun v40 =>
    (asB v40).bind fun c40 =>
    if c40 then
      some (Res.ret [(Value.bool false)] W1.drew)
    else
    (iter (f12.l0 call) [a2, b3, p5, (Value.int IntKind.i64 0)] W1.drew).bind fun (r : Res) => (r.unblock 2).cont fun vs_3 W4 =>
    let a2_3 := nth vs_3 0
    let b3_3 := nth vs_3 1
    let p5_3 := nth vs_3 2
    some (Res.norm [a2_3, b3_3, p5_3] W4)).bind fun (r : Res) => (r.unblock 1).cont fun vs_4 W5 =>
    let a2_4 := nth vs_4 0
    let b3_4 := nth vs_4 1
    let p5_4 := nth vs_4 2
    (bin .add p5_4 (Value.int IntKind.i64 1)).bind fun v27 =>
    some (Res.norm [a2_4, b3_4, v27] W5)
  else
  some (Res.exit 0 [] W1)
noncomputable def f12 (call : CallF) (a0 : Value) (b1 : Value) (W0 : World) : Option (Value × World) :=
  ((erun Tryd.prog (Instr.box 30 a0) W0).bind fun r2 =>
  (erun Tryd.prog (Instr.box 30 b1) r2.2).bind fun r3 =>
  (prun Tryd.prog (Instr.fieldAt 30 r2.1 0)).bind fun v7 =>
  (rrun Tryd.prog (Instr.loadAt 27 v7) r3.2).bind fun v8 =>
  (prun Tryd.prog (Instr.fieldAt 30 r3.1 0)).bind fun v9 =>
  (rrun Tryd.prog (Instr.loadAt 27 v9) r3.2).bind fun v10 =>
  (rrun Tryd.prog (do eqGuard .neq 27 (Operand.tmp 8) (Operand.tmp 10) v8 v10; binOp .neq 27 v8 v10) r3.2).bind fun v11 =>
  (asB v11).bind fun b12 =>
  (if b12 = false then (prun Tryd.prog (Instr.fieldAt 30 r2.1 1)).bind fun v13 =>
    (rrun Tryd.prog (Instr.loadAt 28 v13) r3.2).bind fun v14 =>
    (prun Tryd.prog (Builtin.len_ #[28] 3 #[v14])).bind fun v15 =>
    (prun Tryd.prog (Instr.fieldAt 30 r3.1 1)).bind fun v16 =>
    (rrun Tryd.prog (Instr.loadAt 28 v16) r3.2).bind fun v17 =>
    (prun Tryd.prog (Builtin.len_ #[28] 3 #[v17])).bind fun v18 =>
    (bin .neq v15 v18).bind fun v19 =>
    some (v19, r3.2)
   else some ((Value.bool true), r3.2)).bind fun r20 =>
  (asB r20.1).bind fun c20 =>
  if c20 then
    some (Res.ret [(Value.bool false)] r20.2)
  else
  (iter (f12.l1 call) [r2.1, r3.1, (Value.int IntKind.i64 0)] r20.2).bind fun (r : Res) => (r.unblock 0).cont fun vs_5 W6 =>
  some (Res.ret [(Value.bool true)] W6)).bind Res.done
theorem f12.eq (call dfr : CallF) (a0 : Value) (b1 : Value) (W0 : World) : aFun Tryd.prog call dfr Tryd.f12 f12.ann (ofArgs #[a0, b1]) W0 = f12 call a0 b1 W0 := by kernel_rfl

/-- dailies/dailieslaw20.pick -/
def f13.ann : Ann := (.s .z (.s (.s .z (.j [0, 1] .z .z)) (.s .z .z)))
noncomputable def f13 (call : CallF) (c0 : Value) (n1 : Value) (W0 : World) : Option (Value × World) :=
  ((bin .lss c0 (Value.int IntKind.i64 0)).bind fun v6 =>
  (asB v6).bind fun c6 =>
  (if c6 then
    (bin .add c0 (Value.int IntKind.i64 1)).bind fun v8 =>
    (prun Tryd.prog (Op.unary .neg v8)).bind fun v9 =>
    some (Res.norm [v9, n1] W0)
   else
    some (Res.norm [c0, n1] W0)).bind fun (r : Res) => r.cont fun vs W1 =>
  let c0_1 := nth vs 0
  let n1_1 := nth vs 1
  (bin .rem c0_1 n1_1).bind fun v12 =>
  some (Res.ret [v12] W1)).bind Res.done
theorem f13.eq (call dfr : CallF) (c0 : Value) (n1 : Value) (W0 : World) : aFun Tryd.prog call dfr Tryd.f13 f13.ann (ofArgs #[c0, n1]) W0 = f13 call c0 n1 W0 := by kernel_rfl

/-- dailies/dailieslaw20.small -/
def f14.ann : Ann := (.s .z (.s .z (.s (.s .z (.b [2, 3] (.l [0, 2, 3, 4] (.s (.s .z (.c .z .z)) (.s (.b [0, 2, 3, 4] (.s .z (.s (.s .z (.j [0, 2, 3, 4, 5] .z .z)) (.s .z (.s (.s .z (.b [0, 2, 3, 4, 6] (.l [0, 2, 3, 4, 5, 6, 7] (.s (.s .z (.c .z .z)) (.s (.b [0, 2, 3, 4, 5, 6, 7] .z) .z))))) .z))))) .z))))) (.s .z .z))))
noncomputable def f14.l0 (call : CallF) (vs_2 : List Value) (W3 : World) : Option Res :=
  let v0_3 := nth vs_2 0
  let v2_2 := nth vs_2 1
  let f3_2 := nth vs_2 2
  let p4_2 := nth vs_2 3
  let n5_1 := nth vs_2 4
  let l6 := nth vs_2 5
  let i7 := nth vs_2 6
  (bin .lss i7 n5_1).bind fun v20 =>
  (asB v20).bind fun c20 =>
  if c20 then
    ((prun Tryd.prog (Instr.indexAt 38 l6 i7)).bind fun v26 =>
    (erun Tryd.prog (Instr.storeAt 39 v26 v0_3) W3).bind fun r_1 =>
    some (Res.norm [v0_3, v2_2, f3_2, p4_2, n5_1, l6, i7] r_1.2)).bind fun (r : Res) => (r.unblock 3).cont fun vs_3 W4 =>
    let v0_4 := nth vs_3 0
    let v2_3 := nth vs_3 1
    let f3_3 := nth vs_3 2
    let p4_3 := nth vs_3 3
    let n5_2 := nth vs_3 4
    let l6_1 := nth vs_3 5
    let i7_1 := nth vs_3 6
    (bin .add i7_1 (Value.int IntKind.i64 1)).bind fun v22 =>
    some (Res.norm [v0_4, v2_3, f3_3, p4_3, n5_2, l6_1, v22] W4)
  else
  some (Res.exit 2 [v0_3, v2_2, f3_2, p4_2, l6] W3)
noncomputable def f14.l1 (call : CallF) (vs : List Value) (W1 : World) : Option Res :=
  let v0_1 := nth vs 0
  let v2 := nth vs 1
  let f3 := nth vs 2
  let p4 := nth vs 3
  (bin .lss p4 (Value.int IntKind.i64 3)).bind fun v11 =>
  (asB v11).bind fun c11 =>
  if c11 then
    ((bin .gtr p4 (Value.int IntKind.i64 0)).bind fun v15 =>
    (asB v15).bind fun c15 =>
    (if c15 then
      some (Res.norm [v0_1, v2, f3, p4, (Value.int IntKind.i64 128)] W1)
     else
      some (Res.norm [v0_1, v2, f3, p4, (Value.int IntKind.i64 256)] W1)).bind fun (r : Res) => r.cont fun vs_1 W2 =>
    let v0_2 := nth vs_1 0
    let v2_1 := nth vs_1 1
    let f3_1 := nth vs_1 2
    let p4_1 := nth vs_1 3
    let n5 := nth vs_1 4
    (erun Tryd.prog (Instr.makeSlice 38 n5 n5) W2).bind fun r17 =>
    (iter (f14.l0 call) [v0_2, v2_1, f3_1, p4_1, n5, r17.1, (Value.int IntKind.i64 0)] r17.2).bind fun (r : Res) => (r.unblock 2).cont fun vs_4 W5 =>
    let v0_5 := nth vs_4 0
    let v2_4 := nth vs_4 1
    let f3_4 := nth vs_4 2
    let p4_4 := nth vs_4 3
    let l6_2 := nth vs_4 4
    (prun Tryd.prog (Instr.fieldAt 30 f3_4 1)).bind fun v27 =>
    (rrun Tryd.prog (Instr.loadAt 28 v27) W5).bind fun v28 =>
    (erun Tryd.prog (Instr.buildSlice 28 1 #[(0, l6_2)]) W5).bind fun r30 =>
    (erun Tryd.prog (Builtin.append_ #[28, 28] 28 #[v28, r30.1]) r30.2).bind fun r31 =>
    (prun Tryd.prog (Instr.fieldAt 30 f3_4 1)).bind fun v32 =>
    (erun Tryd.prog (Instr.storeAt 28 v32 r31.1) r31.2).bind fun r_2 =>
    some (Res.norm [v0_5, v2_4, f3_4, p4_4] r_2.2)).bind fun (r : Res) => (r.unblock 1).cont fun vs_5 W6 =>
    let v0_6 := nth vs_5 0
    let v2_5 := nth vs_5 1
    let f3_5 := nth vs_5 2
    let p4_5 := nth vs_5 3
    (bin .add p4_5 (Value.int IntKind.i64 1)).bind fun v13 =>
    some (Res.norm [v0_6, v2_5, f3_5, v13] W6)
  else
  some (Res.exit 0 [v2, f3] W1)
noncomputable def f14 (call : CallF) (v0 : Value) (W0 : World) : Option (Value × World) :=
  ((erun Tryd.prog (Instr.alloc 30 true (.tuple #[])) W0).bind fun r2 =>
  (prun Tryd.prog (Instr.build 27 #[(0, (Value.int IntKind.i64 16)), (1, (Value.int IntKind.i64 16)), (2, (Value.int IntKind.i64 10))])).bind fun v8 =>
  (prun Tryd.prog (Instr.build 30 #[(0, v8)])).bind fun v9 =>
  (erun Tryd.prog (Instr.alloc 30 true (.tuple #[])) r2.2).bind fun r3 =>
  (erun Tryd.prog (Instr.storeAt 30 r3.1 v9) r3.2).bind fun r =>
  (iter (f14.l1 call) [v0, r2.1, r3.1, (Value.int IntKind.i64 0)] r.2).bind fun (r : Res) => (r.unblock 0).cont fun vs_6 W7 =>
  let v2_6 := nth vs_6 0
  let f3_6 := nth vs_6 1
  (rrun Tryd.prog (Instr.loadAt 30 f3_6) W7).bind fun v33 =>
  (erun Tryd.prog (Instr.storeAt 30 v2_6 v33) W7).bind fun r_3 =>
  some (Res.ret [v2_6] r_3.2)).bind (Res.doneR Tryd.prog [.cell 2 30])
theorem f14.eq (call dfr : CallF) (v0 : Value) (W0 : World) : aFun Tryd.prog call dfr Tryd.f14 f14.ann (ofArgs #[v0]) W0 = f14 call v0 W0 := by kernel_rfl

/-- dailies/conform.Plan -/
def f15.ann : Ann := (.s .z (.s .z (.s .z .z)))
noncomputable def f15 (call : CallF) (l0 : Value) (reels1 : Value) (W0 : World) : Option (Value × World) :=
  ((erun Tryd.prog (Instr.box 52 l0) W0).bind fun r2 =>
  (rrun Tryd.prog (Instr.loadAt 52 r2.1) r2.2).bind fun v10 =>
  (call 19 #[v10, reels1] r2.2).bind fun r12 =>
  (prun Tryd.prog (Instr.extract r12.1 0)).bind fun v13 =>
  (prun Tryd.prog (Instr.extract r12.1 1)).bind fun v14 =>
  (prun Tryd.prog (Instr.extract r12.1 2)).bind fun v15 =>
  some (Res.ret [v13, v15] r12.2)).bind Res.done
theorem f15.eq (call dfr : CallF) (l0 : Value) (reels1 : Value) (W0 : World) : aFun Tryd.prog call dfr Tryd.f15 f15.ann (ofArgs #[l0, reels1]) W0 = f15 call l0 reels1 W0 := by kernel_rfl

/-- dailies/plane.Valid -/
def f16.ann : Ann := (.s .z (.s (.s .z (.s .z (.c (.s .z .z) .z))) (.s (.s .z (.c (.s .z .z) .z)) (.s (.s .z (.b [1] (.l [1, 22, 23, 24] (.s .z (.s (.c .z .z) (.s (.b [1, 22, 23, 24] (.s .z (.s .z (.c (.s .z .z) .z)))) .z)))))) (.s (.s .z (.b [] (.l [1, 42, 43, 44] (.s .z (.s (.c .z .z) (.s (.b [1, 42, 43, 44] (.s .z (.s .z (.c (.s .z .z) .z)))) .z)))))) (.s .z .z))))))
noncomputable def f16.l0 (call : CallF) (vs : List Value) (W1 : World) : Option Res :=
  let f1 := nth vs 0
  let v22_1 := nth vs 1
  let v23_1 := nth vs 2
  let v24 := nth vs 3
  (bin .lss v24 v23_1).bind fun v25 =>
  (asB v25).bind fun c25 =>
  if c25 then
    ((prun Tryd.prog (Instr.indexAt 28 v22_1 v24)).bind fun v27 =>
    (rrun Tryd.prog (Instr.loadAt 38 v27) W1).bind fun v28 =>
    ((prun Tryd.prog (Builtin.len_ #[38] 3 #[v28])).bind fun v30 =>
    some (v30, W1.drew)).bind fun r30 =>
    ((prun Tryd.prog (Instr.fieldAt 30 f1 0)).bind fun v31 =>
    some (v31, r30.2)).bind fun r31 =>
    ((rrun Tryd.prog (Instr.loadAt 27 r31.1) r31.2).bind fun v32 =>
    some (v32, r31.2)).bind fun r32 =>
    ((call 22 #[r32.1, v24] r32.2).bind fun r34_1 =>
    some (r34_1.1, r34_1.2)).bind fun r34 =>
    ((prun Tryd.prog (Instr.fieldAt 30 f1 0)).bind fun v35 =>
    some (v35, r34.2)).bind fun r35 =>
    ((prun Tryd.prog (Instr.fieldAt 27 r35.1 1)).bind fun v36 =>
    some (v36, r35.2)).bind fun r36 =>
    ((rrun Tryd.prog (Instr.loadAt 3 r36.1) r36.2).bind fun v37 =>
    some (v37, r36.2)).bind fun r37 =>
    ((bin .mul r34.1 r37.1).bind fun v38 =>
    some (v38, r37.2)).bind fun r38 =>
    ((bin .neq r30.1 r38.1).bind fun v39 =>
    some (v39, r38.2)).bind fun r39 =>
    chkThen ((((rrun Tryd.prog (Instr.loadAt 3 r36.1) r32.2).bind fun v37_1 => some v37_1) = some r37.1 ∧ ((rrun Tryd.prog (Instr.loadAt 3 r36.1) r34.2).bind fun v37_2 => some v37_2) = some r37.1) ∧ True)
    ((asB r39.1).bind fun c39 =>
    if c39 then
      some (Res.ret [(Value.int IntKind.i64 63)] r39.2)
    else
    some (Res.norm [f1, v22_1, v23_1, v24] r39.2))).bind fun (r : Res) => (r.unblock 1).cont fun vs_1 W2 =>
    let f1_1 := nth vs_1 0
    let v22_2 := nth vs_1 1
    let v23_2 := nth vs_1 2
    let v24_1 := nth vs_1 3
    (bin .add v24_1 (Value.int IntKind.i64 1)).bind fun v40 =>
    some (Res.norm [f1_1, v22_2, v23_2, v40] W2)
  else
  some (Res.exit 0 [f1] W1)
noncomputable def f16.l1 (call : CallF) (vs_3 : List Value) (W4 : World) : Option Res :=
  let f1_3 := nth vs_3 0
  let v42_1 := nth vs_3 1
  let v43_1 := nth vs_3 2
  let v44 := nth vs_3 3
  (bin .lss v44 v43_1).bind fun v45 =>
  (asB v45).bind fun c45 =>
  if c45 then
    ((prun Tryd.prog (Instr.indexAt 28 v42_1 v44)).bind fun v46 =>
    (rrun Tryd.prog (Instr.loadAt 38 v46) W4).bind fun v47 =>
    (prun Tryd.prog (Instr.fieldAt 30 f1_3 0)).bind fun v49 =>
    (prun Tryd.prog (Instr.fieldAt 27 v49 2)).bind fun v50 =>
    (rrun Tryd.prog (Instr.loadAt 3 v50) W4).bind fun v51 =>
    (call 23 #[v47, v51] W4).bind fun r52 =>
    (prun Tryd.prog (Op.unary .not r52.1)).bind fun v53 =>
    (asB v53).bind fun c53 =>
    if c53 then
      some (Res.ret [(Value.int IntKind.i64 64)] r52.2)
    else
    some (Res.norm [f1_3, v42_1, v43_1, v44] r52.2)).bind fun (r : Res) => (r.unblock 3).cont fun vs_4 W5 =>
    let f1_4 := nth vs_4 0
    let v42_2 := nth vs_4 1
    let v43_2 := nth vs_4 2
    let v44_1 := nth vs_4 3
    (bin .add v44_1 (Value.int IntKind.i64 1)).bind fun v54 =>
    some (Res.norm [f1_4, v42_2, v43_2, v54] W5)
  else
  some (Res.exit 2 [] W4)
noncomputable def f16 (call : CallF) (f0 : Value) (W0 : World) : Option (Value × World) :=
  ((erun Tryd.prog (Instr.box 30 f0) W0).bind fun r1 =>
  (prun Tryd.prog (Instr.fieldAt 30 r1.1 0)).bind fun v8 =>
  (rrun Tryd.prog (Instr.loadAt 27 v8) r1.2).bind fun v9 =>
  (call 20 #[v9] r1.2).bind fun r10 =>
  (bin .neq r10.1 (Value.int IntKind.i64 0)).bind fun v12 =>
  (asB v12).bind fun c12 =>
  if c12 then
    some (Res.ret [r10.1] r10.2)
  else
  ((prun Tryd.prog (Instr.fieldAt 30 r1.1 1)).bind fun v14 =>
  some (v14, r10.2.drew)).bind fun r14 =>
  ((rrun Tryd.prog (Instr.loadAt 28 r14.1) r14.2).bind fun v15 =>
  some (v15, r14.2)).bind fun r15 =>
  ((prun Tryd.prog (Builtin.len_ #[28] 3 #[r15.1])).bind fun v16 =>
  some (v16, r15.2)).bind fun r16 =>
  ((prun Tryd.prog (Instr.fieldAt 30 r1.1 0)).bind fun v17 =>
  some (v17, r16.2)).bind fun r17 =>
  ((rrun Tryd.prog (Instr.loadAt 27 r17.1) r17.2).bind fun v18 =>
  some (v18, r17.2)).bind fun r18 =>
  ((call 21 #[r18.1] r18.2).bind fun r19_1 =>
  some (r19_1.1, r19_1.2)).bind fun r19 =>
  ((bin .neq r16.1 r19.1).bind fun v20 =>
  some (v20, r19.2)).bind fun r20 =>
  chkThen ((((rrun Tryd.prog (Instr.loadAt 28 r14.1) r18.2).bind fun v15_1 => some v15_1) = some r15.1 ∧ ((rrun Tryd.prog (Instr.loadAt 28 r14.1) r19.2).bind fun v15_2 => some v15_2) = some r15.1) ∧ True)
  ((asB r20.1).bind fun c20 =>
  if c20 then
    some (Res.ret [(Value.int IntKind.i64 62)] r20.2)
  else
  (prun Tryd.prog (Instr.fieldAt 30 r1.1 1)).bind fun v21 =>
  (rrun Tryd.prog (Instr.loadAt 28 v21) r20.2).bind fun v22 =>
  (prun Tryd.prog (Builtin.len_ #[28] 3 #[v22])).bind fun v23 =>
  (iter (f16.l0 call) [r1.1, v22, v23, (Value.int IntKind.i64 0)] r20.2).bind fun (r : Res) => (r.unblock 0).cont fun vs_2 W3 =>
  let f1_2 := nth vs_2 0
  (prun Tryd.prog (Instr.fieldAt 30 f1_2 1)).bind fun v41 =>
  (rrun Tryd.prog (Instr.loadAt 28 v41) W3).bind fun v42 =>
  (prun Tryd.prog (Builtin.len_ #[28] 3 #[v42])).bind fun v43 =>
  (iter (f16.l1 call) [f1_2, v42, v43, (Value.int IntKind.i64 0)] W3).bind fun (r : Res) => (r.unblock 2).cont fun vs_5 W6 =>
  some (Res.ret [(Value.int IntKind.i64 0)] W6))).bind Res.done
theorem f16.eq (call dfr : CallF) (f0 : Value) (W0 : World) : aFun Tryd.prog call dfr Tryd.f16 f16.ann (ofArgs #[f0]) W0 = f16 call f0 W0 := by kernel_rfl

/-- dailies/plane.New -/
def f17.ann : Ann := (.s .z (.s (.s .z (.s .z (.c (.s .z .z) .z))) (.s .z .z)))
noncomputable def f17 (call : CallF) (s0 : Value) (W0 : World) : Option (Value × World) :=
  ((erun Tryd.prog (Instr.box 27 s0) W0).bind fun r1 =>
  (erun Tryd.prog (Instr.alloc 30 true (.tuple #[])) r1.2).bind fun r2 =>
  (rrun Tryd.prog (Instr.loadAt 27 r1.1) r2.2).bind fun v5 =>
  (call 20 #[v5] r2.2).bind fun r6 =>
  (bin .neq r6.1 (Value.int IntKind.i64 0)).bind fun v8 =>
  (asB v8).bind fun c8 =>
  if c8 then
    (prun Tryd.prog (Instr.build 30 #[])).bind fun v9 =>
    (erun Tryd.prog (Instr.storeAt 30 r2.1 v9) r6.2).bind fun r =>
    some (Res.ret [r2.1, r6.1] r.2)
  else
  (rrun Tryd.prog (Instr.loadAt 27 r1.1) r6.2).bind fun v11 =>
  (call 24 #[v11] r6.2).bind fun r12 =>
  (erun Tryd.prog (Instr.storeAt 30 r2.1 r12.1) r12.2).bind fun r_1 =>
  some (Res.ret [r2.1, (Value.int IntKind.i64 0)] r_1.2)).bind (Res.doneR Tryd.prog [.cell 2 30, .tmp 3])
theorem f17.eq (call dfr : CallF) (s0 : Value) (W0 : World) : aFun Tryd.prog call dfr Tryd.f17 f17.ann (ofArgs #[s0]) W0 = f17 call s0 W0 := by kernel_rfl

/-- dailies/dailiesref06.Valid -/
def f18.ann : Ann := (.s .z (.s .z (.s (.s .z (.c (.s .z .z) .z)) (.s (.s .z (.c (.s .z .z) .z)) (.s (.s .z (.b [1] (.l [1, 4] (.s (.s .z (.c .z .z)) (.s (.b [1, 4] (.s .z (.c (.s .z .z) .z))) .z))))) (.s (.s .z (.b [] (.l [1, 5] (.s (.s .z (.c .z .z)) (.s (.b [1, 5] (.s .z (.s .z (.c (.s .z .z) .z)))) .z))))) (.s .z .z)))))))
noncomputable def f18.l0 (call : CallF) (vs : List Value) (W1 : World) : Option Res :=
  let f1 := nth vs 0
  let i4 := nth vs 1
  (prun Tryd.prog (Instr.fieldAt 30 f1 1)).bind fun v21 =>
  (rrun Tryd.prog (Instr.loadAt 28 v21) W1).bind fun v22 =>
  (prun Tryd.prog (Builtin.len_ #[28] 3 #[v22])).bind fun v23 =>
  (bin .lss i4 v23).bind fun v24 =>
  (asB v24).bind fun c24 =>
  if c24 then
    (((prun Tryd.prog (Instr.fieldAt 30 f1 1)).bind fun v27 =>
    some (v27, W1.drew)).bind fun r27 =>
    ((rrun Tryd.prog (Instr.loadAt 28 r27.1) r27.2).bind fun v28 =>
    some (v28, r27.2)).bind fun r28 =>
    ((prun Tryd.prog (Instr.indexAt 28 r28.1 i4)).bind fun v30 =>
    some (v30, r28.2)).bind fun r30 =>
    ((rrun Tryd.prog (Instr.loadAt 38 r30.1) r30.2).bind fun v31 =>
    some (v31, r30.2)).bind fun r31 =>
    ((prun Tryd.prog (Builtin.len_ #[38] 3 #[r31.1])).bind fun v32 =>
    some (v32, r31.2)).bind fun r32 =>
    ((prun Tryd.prog (Instr.fieldAt 30 f1 0)).bind fun v33 =>
    some (v33, r32.2)).bind fun r33 =>
    ((rrun Tryd.prog (Instr.loadAt 27 r33.1) r33.2).bind fun v34 =>
    some (v34, r33.2)).bind fun r34 =>
    ((call 27 #[r34.1, i4] r34.2).bind fun r36_1 =>
    some (r36_1.1, r36_1.2)).bind fun r36 =>
    ((prun Tryd.prog (Instr.fieldAt 30 f1 0)).bind fun v37 =>
    some (v37, r36.2)).bind fun r37 =>
    ((prun Tryd.prog (Instr.fieldAt 27 r37.1 1)).bind fun v38 =>
    some (v38, r37.2)).bind fun r38 =>
    ((rrun Tryd.prog (Instr.loadAt 3 r38.1) r38.2).bind fun v39 =>
    some (v39, r38.2)).bind fun r39 =>
    ((bin .mul r36.1 r39.1).bind fun v40 =>
    some (v40, r39.2)).bind fun r40 =>
    ((bin .neq r32.1 r40.1).bind fun v41 =>
    some (v41, r40.2)).bind fun r41 =>
    chkThen ((((rrun Tryd.prog (Instr.loadAt 28 r27.1) r34.2).bind fun v28_1 => some v28_1) = some r28.1 ∧ ((rrun Tryd.prog (Instr.loadAt 28 r27.1) r36.2).bind fun v28_2 => some v28_2) = some r28.1) ∧ (((rrun Tryd.prog (Instr.loadAt 38 r30.1) r34.2).bind fun v31_1 => some v31_1) = some r31.1 ∧ ((rrun Tryd.prog (Instr.loadAt 38 r30.1) r36.2).bind fun v31_2 => some v31_2) = some r31.1) ∧ (((rrun Tryd.prog (Instr.loadAt 3 r38.1) r34.2).bind fun v39_1 => some v39_1) = some r39.1 ∧ ((rrun Tryd.prog (Instr.loadAt 3 r38.1) r36.2).bind fun v39_2 => some v39_2) = some r39.1) ∧ True)
    ((asB r41.1).bind fun c41 =>
    if c41 then
      some (Res.ret [(Value.int IntKind.i64 63)] r41.2)
    else
    some (Res.norm [f1, i4] r41.2))).bind fun (r : Res) => (r.unblock 1).cont fun vs_1 W2 =>
    let f1_1 := nth vs_1 0
    let i4_1 := nth vs_1 1
    (bin .add i4_1 (Value.int IntKind.i64 1)).bind fun v26 =>
    some (Res.norm [f1_1, v26] W2)
  else
  some (Res.exit 0 [f1] W1)
noncomputable def f18.l1 (call : CallF) (vs_3 : List Value) (W4 : World) : Option Res :=
  let f1_3 := nth vs_3 0
  let i5 := nth vs_3 1
  (prun Tryd.prog (Instr.fieldAt 30 f1_3 1)).bind fun v43 =>
  (rrun Tryd.prog (Instr.loadAt 28 v43) W4).bind fun v44 =>
  (prun Tryd.prog (Builtin.len_ #[28] 3 #[v44])).bind fun v45 =>
  (bin .lss i5 v45).bind fun v46 =>
  (asB v46).bind fun c46 =>
  if c46 then
    ((prun Tryd.prog (Instr.fieldAt 30 f1_3 1)).bind fun v49 =>
    (rrun Tryd.prog (Instr.loadAt 28 v49) W4.drew).bind fun v50 =>
    (prun Tryd.prog (Instr.indexAt 28 v50 i5)).bind fun v52 =>
    (rrun Tryd.prog (Instr.loadAt 38 v52) W4.drew).bind fun v53 =>
    (prun Tryd.prog (Instr.fieldAt 30 f1_3 0)).bind fun v54 =>
    (prun Tryd.prog (Instr.fieldAt 27 v54 2)).bind fun v55 =>
    (rrun Tryd.prog (Instr.loadAt 3 v55) W4.drew).bind fun v56 =>
    (call 28 #[v53, v56] W4.drew).bind fun r57 =>
    (asB r57.1).bind fun c58 =>
    if c58 then
      some (Res.ret [(Value.int IntKind.i64 64)] r57.2)
    else
    some (Res.norm [f1_3, i5] r57.2)).bind fun (r : Res) => (r.unblock 3).cont fun vs_4 W5 =>
    let f1_4 := nth vs_4 0
    let i5_1 := nth vs_4 1
    (bin .add i5_1 (Value.int IntKind.i64 1)).bind fun v48 =>
    some (Res.norm [f1_4, v48] W5)
  else
  some (Res.exit 2 [] W4)
noncomputable def f18 (call : CallF) (f0 : Value) (W0 : World) : Option (Value × World) :=
  ((erun Tryd.prog (Instr.box 30 f0) W0).bind fun r1 =>
  (prun Tryd.prog (Instr.fieldAt 30 r1.1 0)).bind fun v7 =>
  (rrun Tryd.prog (Instr.loadAt 27 v7) r1.2).bind fun v8 =>
  (call 25 #[v8] r1.2).bind fun r9 =>
  (bin .neq r9.1 (Value.int IntKind.i64 0)).bind fun v11 =>
  (asB v11).bind fun c11 =>
  if c11 then
    some (Res.ret [r9.1] r9.2)
  else
  ((prun Tryd.prog (Instr.fieldAt 30 r1.1 1)).bind fun v13 =>
  some (v13, r9.2.drew)).bind fun r13 =>
  ((rrun Tryd.prog (Instr.loadAt 28 r13.1) r13.2).bind fun v14 =>
  some (v14, r13.2)).bind fun r14 =>
  ((prun Tryd.prog (Builtin.len_ #[28] 3 #[r14.1])).bind fun v15 =>
  some (v15, r14.2)).bind fun r15 =>
  ((prun Tryd.prog (Instr.fieldAt 30 r1.1 0)).bind fun v16 =>
  some (v16, r15.2)).bind fun r16 =>
  ((rrun Tryd.prog (Instr.loadAt 27 r16.1) r16.2).bind fun v17 =>
  some (v17, r16.2)).bind fun r17 =>
  ((call 26 #[r17.1] r17.2).bind fun r18_1 =>
  some (r18_1.1, r18_1.2)).bind fun r18 =>
  ((bin .neq r15.1 r18.1).bind fun v19 =>
  some (v19, r18.2)).bind fun r19 =>
  chkThen ((((rrun Tryd.prog (Instr.loadAt 28 r13.1) r17.2).bind fun v14_1 => some v14_1) = some r14.1 ∧ ((rrun Tryd.prog (Instr.loadAt 28 r13.1) r18.2).bind fun v14_2 => some v14_2) = some r14.1) ∧ True)
  ((asB r19.1).bind fun c19 =>
  if c19 then
    some (Res.ret [(Value.int IntKind.i64 62)] r19.2)
  else
  (iter (f18.l0 call) [r1.1, (Value.int IntKind.i64 0)] r19.2).bind fun (r : Res) => (r.unblock 0).cont fun vs_2 W3 =>
  let f1_2 := nth vs_2 0
  (iter (f18.l1 call) [f1_2, (Value.int IntKind.i64 0)] W3).bind fun (r : Res) => (r.unblock 2).cont fun vs_5 W6 =>
  some (Res.ret [(Value.int IntKind.i64 0)] W6))).bind Res.done
theorem f18.eq (call dfr : CallF) (f0 : Value) (W0 : World) : aFun Tryd.prog call dfr Tryd.f18 f18.ann (ofArgs #[f0]) W0 = f18 call f0 W0 := by kernel_rfl

/-- dailies/conform.plan -/
def f19.ann : Ann := (.s .z (.s (.s .z (.s .z (.c (.s .z .z) .z))) (.s (.s .z (.b [2, 3] (.l [2, 3, 26, 27, 28] (.s .z (.s (.c .z .z) (.s (.b [2, 3, 26, 27, 28] (.s .z (.s .z (.s .z (.c (.s .z .z) .z))))) .z)))))) (.s .z (.s .z (.s .z (.s (.s .z (.b [11, 12] (.l [2, 11, 12, 13, 48, 49, 50] (.s .z (.s (.c .z .z) (.s (.b [2, 11, 12, 13, 48, 49, 50] (.s .z (.s .z (.s (.s .z (.j [2, 11, 12, 13, 14, 15, 16, 48, 49, 50] .z .z)) (.s (.s .z (.b [2, 11, 12, 13, 14, 15, 16, 48, 49, 50] (.l [2, 11, 12, 13, 14, 15, 16, 48, 49, 50, 69, 70] (.s .z (.s (.c .z .z) (.s (.b [2, 11, 12, 13, 14, 15, 16, 48, 49, 50, 69, 70] (.s .z (.s .z (.s .z .z)))) .z)))))) (.s .z (.b [2, 11, 12, 13, 48, 49, 50] (.l [2, 11, 12, 13, 14, 15, 16, 19, 48, 49, 50] (.s (.s .z (.c .z .z)) (.s (.b [2, 11, 12, 13, 14, 15, 16, 19, 48, 49, 50] (.s .z .z)) .z)))))))))) .z)))))) (.s .z .z))))))))
noncomputable def f19.l0 (call : CallF) (vs : List Value) (W1 : World) : Option Res :=
  let A2 := nth vs 0
  let r3_1 := nth vs 1
  let v26_1 := nth vs 2
  let v27_1 := nth vs 3
  let v28 := nth vs 4
  (bin .lss v28 v27_1).bind fun v29 =>
  (asB v29).bind fun c29 =>
  if c29 then
    ((prun Tryd.prog (Instr.indexAt 50 v26_1 v28)).bind fun v31 =>
    (rrun Tryd.prog (Instr.loadAt 67 v31) W1).bind fun v32 =>
    (erun Tryd.prog (Instr.alloc 67 true (.tuple #[])) W1).bind fun r9 =>
    (erun Tryd.prog (Instr.storeAt 67 r9.1 v32) r9.2).bind fun r =>
    (rrun Tryd.prog (Instr.loadAt 52 A2) r.2).bind fun v33 =>
    (rrun Tryd.prog (Instr.loadAt 67 r9.1) r.2).bind fun v34 =>
    (rrun Tryd.prog (Instr.loadAt 56 r3_1) r.2).bind fun v35 =>
    (prun Tryd.prog (Instr.fieldAt 67 r9.1 0)).bind fun v36 =>
    (rrun Tryd.prog (Instr.loadAt 9 v36) r.2).bind fun v37 =>
    (rrun Tryd.prog (Instr.lookup 56 v35 v37 false) r.2).bind fun v38 =>
    (call 30 #[v33, v34, v38] r.2).bind fun r39 =>
    (bin .neq r39.1 (Value.int IntKind.i64 0)).bind fun v41 =>
    (asB v41).bind fun c41 =>
    if c41 then
      (call 31 #[v28, r39.1] r39.2).bind fun r44 =>
      some (Res.ret [(Value.slice none 0 0), (Value.slice none 0 0), r44.1] r44.2)
    else
    some (Res.norm [A2, r3_1, v26_1, v27_1, v28] r39.2)).bind fun (r : Res) => (r.unblock 1).cont fun vs_1 W2 =>
    let A2_1 := nth vs_1 0
    let r3_2 := nth vs_1 1
    let v26_2 := nth vs_1 2
    let v27_2 := nth vs_1 3
    let v28_1 := nth vs_1 4
    (bin .add v28_1 (Value.int IntKind.i64 1)).bind fun v45 =>
    some (Res.norm [A2_1, r3_2, v26_2, v27_2, v45] W2)
  else
  some (Res.exit 0 [A2, r3_1] W1)
noncomputable def f19.l1 (call : CallF) (vs_5 : List Value) (W6 : World) : Option Res :=
  let A2_5 := nth vs_5 0
  let v11_2 := nth vs_5 1
  let v12_2 := nth vs_5 2
  let v13_2 := nth vs_5 3
  let v14_1 := nth vs_5 4
  let v15_1 := nth vs_5 5
  let v16_1 := nth vs_5 6
  let v48_3 := nth vs_5 7
  let v49_3 := nth vs_5 8
  let v50_2 := nth vs_5 9
  let v69_1 := nth vs_5 10
  let v70 := nth vs_5 11
  (bin .lss v70 v69_1).bind fun v71 =>
  (asB v71).bind fun c71 =>
  if c71 then
    ((prun Tryd.prog (Instr.fieldAt 52 A2_5 2)).bind fun v73 =>
    (rrun Tryd.prog (Instr.loadAt 50 v73) W6).bind fun v74 =>
    (bin .sub v14_1 (Value.int IntKind.i64 1)).bind fun v76 =>
    (prun Tryd.prog (Instr.indexAt 50 v74 v76)).bind fun v77 =>
    (rrun Tryd.prog (Instr.loadAt 67 v77) W6).bind fun v78 =>
    (erun Tryd.prog (Instr.alloc 67 true (.tuple #[])) W6).bind fun r18 =>
    (erun Tryd.prog (Instr.storeAt 67 r18.1 v78) r18.2).bind fun r_2 =>
    ((prun Tryd.prog (Instr.fieldAt 67 r18.1 0)).bind fun v80 =>
    some (v80, r_2.2.drew)).bind fun r80 =>
    ((rrun Tryd.prog (Instr.loadAt 9 r80.1) r80.2).bind fun v81 =>
    some (v81, r80.2)).bind fun r81 =>
    ((prun Tryd.prog (Instr.fieldAt 67 r18.1 2)).bind fun v82 =>
    some (v82, r81.2)).bind fun r82 =>
    ((rrun Tryd.prog (Instr.loadAt 3 r82.1) r82.2).bind fun v83 =>
    some (v83, r82.2)).bind fun r83 =>
    ((prun Tryd.prog (Instr.fieldAt 67 v15_1 3)).bind fun v84 =>
    some (v84, r83.2)).bind fun r84 =>
    ((rrun Tryd.prog (Instr.loadAt 3 r84.1) r84.2).bind fun v85 =>
    some (v85, r84.2)).bind fun r85 =>
    ((bin .sub r83.1 r85.1).bind fun v86 =>
    some (v86, r85.2)).bind fun r86 =>
    ((bin .add r86.1 v70).bind fun v88 =>
    some (v88, r86.2)).bind fun r88 =>
    ((rrun Tryd.prog (Instr.loadAt 67 r18.1) r88.2).bind fun v90 =>
    some (v90, r88.2)).bind fun r90 =>
    ((callV call v13_2 [r90.1] r90.2).bind fun r91_1 =>
    some (r91_1.1, r91_1.2)).bind fun r91 =>
    ((bin .sub r88.1 r91.1).bind fun v92 =>
    some (v92, r91.2)).bind fun r92 =>
    ((prun Tryd.prog (Instr.fieldAt 67 v15_1 0)).bind fun v93 =>
    some (v93, r92.2)).bind fun r93 =>
    ((rrun Tryd.prog (Instr.loadAt 9 r93.1) r93.2).bind fun v94 =>
    some (v94, r93.2)).bind fun r94 =>
    ((prun Tryd.prog (Instr.fieldAt 67 v15_1 1)).bind fun v95 =>
    some (v95, r94.2)).bind fun r95 =>
    ((rrun Tryd.prog (Instr.loadAt 3 r95.1) r95.2).bind fun v96 =>
    some (v96, r95.2)).bind fun r96 =>
    ((bin .add r96.1 v70).bind fun v98 =>
    some (v98, r96.2)).bind fun r98 =>
    ((rrun Tryd.prog (Instr.loadAt 67 v15_1) r98.2).bind fun v100 =>
    some (v100, r98.2)).bind fun r100 =>
    ((callV call v13_2 [r100.1] r100.2).bind fun r101_1 =>
    some (r101_1.1, r101_1.2)).bind fun r101 =>
    ((bin .sub r98.1 r101.1).bind fun v102 =>
    some (v102, r101.2)).bind fun r102 =>
    ((bin .add v70 (Value.int IntKind.i64 1)).bind fun v104 =>
    some (v104, r102.2)).bind fun r104 =>
    ((prun Tryd.prog (Instr.fieldAt 67 v15_1 3)).bind fun v105 =>
    some (v105, r104.2)).bind fun r105 =>
    ((rrun Tryd.prog (Instr.loadAt 3 r105.1) r105.2).bind fun v106 =>
    some (v106, r105.2)).bind fun r106 =>
    ((bin .add r106.1 (Value.int IntKind.i64 1)).bind fun v107 =>
    some (v107, r106.2)).bind fun r107 =>
    ((prun Tryd.prog (Instr.build 76 #[(0, r81.1), (1, r92.1), (2, r94.1), (3, r102.1), (4, r104.1), (5, r107.1)])).bind fun v108 =>
    some (v108, r107.2)).bind fun r108 =>
    ((erun Tryd.prog (Instr.buildSlice 44 1 #[(0, r108.1)]) r108.2).bind fun r109_1 =>
    some (r109_1.1, r109_1.2)).bind fun r109 =>
    ((erun Tryd.prog (Builtin.append_ #[44, 44] 44 #[v11_2, r109.1]) r109.2).bind fun r110_1 =>
    some (r110_1.1, r110_1.2)).bind fun r110 =>
    chkThen ((((rrun Tryd.prog (Instr.loadAt 9 r80.1) r90.2).bind fun v81_3 => some v81_3) = some r81.1 ∧ ((rrun Tryd.prog (Instr.loadAt 9 r80.1) r91.2).bind fun v81_4 => some v81_4) = some r81.1) ∧ (((rrun Tryd.prog (Instr.loadAt 9 r80.1) r100.2).bind fun v81_1 => some v81_1) = some r81.1 ∧ ((rrun Tryd.prog (Instr.loadAt 9 r80.1) r101.2).bind fun v81_2 => some v81_2) = some r81.1) ∧ (((rrun Tryd.prog (Instr.loadAt 3 r82.1) r90.2).bind fun v83_3 => some v83_3) = some r83.1 ∧ ((rrun Tryd.prog (Instr.loadAt 3 r82.1) r91.2).bind fun v83_4 => some v83_4) = some r83.1) ∧ (((rrun Tryd.prog (Instr.loadAt 3 r82.1) r100.2).bind fun v83_1 => some v83_1) = some r83.1 ∧ ((rrun Tryd.prog (Instr.loadAt 3 r82.1) r101.2).bind fun v83_2 => some v83_2) = some r83.1) ∧ (((rrun Tryd.prog (Instr.loadAt 3 r84.1) r90.2).bind fun v85_3 => some v85_3) = some r85.1 ∧ ((rrun Tryd.prog (Instr.loadAt 3 r84.1) r91.2).bind fun v85_4 => some v85_4) = some r85.1) ∧ (((rrun Tryd.prog (Instr.loadAt 3 r84.1) r100.2).bind fun v85_1 => some v85_1) = some r85.1 ∧ ((rrun Tryd.prog (Instr.loadAt 3 r84.1) r101.2).bind fun v85_2 => some v85_2) = some r85.1) ∧ (((rrun Tryd.prog (Instr.loadAt 9 r93.1) r90.2).bind fun v94_3 => some v94_3) = some r94.1 ∧ ((rrun Tryd.prog (Instr.loadAt 9 r93.1) r91.2).bind fun v94_4 => some v94_4) = some r94.1) ∧ (((rrun Tryd.prog (Instr.loadAt 9 r93.1) r100.2).bind fun v94_1 => some v94_1) = some r94.1 ∧ ((rrun Tryd.prog (Instr.loadAt 9 r93.1) r101.2).bind fun v94_2 => some v94_2) = some r94.1) ∧ (((rrun Tryd.prog (Instr.loadAt 3 r95.1) r90.2).bind fun v96_3 => some v96_3) = some r96.1 ∧ ((rrun Tryd.prog (Instr.loadAt 3 r95.1) r91.2).bind fun v96_4 => some v96_4) = some r96.1) ∧ (((rrun Tryd.prog (Instr.loadAt 3 r95.1) r100.2).bind fun v96_1 => some v96_1) = some r96.1 ∧ ((rrun Tryd.prog (Instr.loadAt 3 r95.1) r101.2).bind fun v96_2 => some v96_2) = some r96.1) ∧ (((rrun Tryd.prog (Instr.loadAt 67 v15_1) r90.2).bind fun v100_1 => some v100_1) = some r100.1 ∧ ((rrun Tryd.prog (Instr.loadAt 67 v15_1) r91.2).bind fun v100_2 => some v100_2) = some r100.1) ∧ (((rrun Tryd.prog (Instr.loadAt 3 r105.1) r90.2).bind fun v106_3 => some v106_3) = some r106.1 ∧ ((rrun Tryd.prog (Instr.loadAt 3 r105.1) r91.2).bind fun v106_4 => some v106_4) = some r106.1) ∧ (((rrun Tryd.prog (Instr.loadAt 3 r105.1) r100.2).bind fun v106_1 => some v106_1) = some r106.1 ∧ ((rrun Tryd.prog (Instr.loadAt 3 r105.1) r101.2).bind fun v106_2 => some v106_2) = some r106.1) ∧ True)
    ((erun Tryd.prog (Instr.buildSlice 57 1 #[(0, v14_1)]) r110.2).bind fun r113 =>
    (erun Tryd.prog (Builtin.append_ #[57, 57] 57 #[v12_2, r113.1]) r113.2).bind fun r114 =>
    some (Res.norm [A2_5, r110.1, r114.1, v13_2, v14_1, v15_1, v16_1, v48_3, v49_3, v50_2, v69_1, v70] r114.2))).bind fun (r : Res) => (r.unblock 5).cont fun vs_6 W7 =>
    let A2_6 := nth vs_6 0
    let v11_3 := nth vs_6 1
    let v12_3 := nth vs_6 2
    let v13_3 := nth vs_6 3
    let v14_2 := nth vs_6 4
    let v15_2 := nth vs_6 5
    let v16_2 := nth vs_6 6
    let v48_4 := nth vs_6 7
    let v49_4 := nth vs_6 8
    let v50_3 := nth vs_6 9
    let v69_2 := nth vs_6 10
    let v70_1 := nth vs_6 11
    (bin .add v70_1 (Value.int IntKind.i64 1)).bind fun v115 =>
    some (Res.norm [A2_6, v11_3, v12_3, v13_3, v14_2, v15_2, v16_2, v48_4, v49_4, v50_3, v69_2, v115] W7)
  else
  some (Res.exit 4 [A2_5, v11_2, v12_2, v13_2, v14_1, v15_1, v16_1, v48_3, v49_3, v50_2] W6)
noncomputable def f19.l2 (call : CallF) (vs_8 : List Value) (W9 : World) : Option Res :=
  let A2_8 := nth vs_8 0
  let v11_5 := nth vs_8 1
  let v12_5 := nth vs_8 2
  let v13_5 := nth vs_8 3
  let v14_4 := nth vs_8 4
  let v15_4 := nth vs_8 5
  let v16_4 := nth vs_8 6
  let v19 := nth vs_8 7
  let v48_6 := nth vs_8 8
  let v49_6 := nth vs_8 9
  let v50_5 := nth vs_8 10
  (prun Tryd.prog (Instr.fieldAt 67 v15_4 2)).bind fun v122 =>
  (rrun Tryd.prog (Instr.loadAt 3 v122) W9).bind fun v123 =>
  (bin .sub v123 v16_4).bind fun v125 =>
  (bin .lss v19 v125).bind fun v126 =>
  (asB v126).bind fun c126 =>
  if c126 then
    (((prun Tryd.prog (Instr.fieldAt 67 v15_4 0)).bind fun v130 =>
    some (v130, W9.drew)).bind fun r130 =>
    ((rrun Tryd.prog (Instr.loadAt 9 r130.1) r130.2).bind fun v131 =>
    some (v131, r130.2)).bind fun r131 =>
    ((rrun Tryd.prog (Instr.loadAt 67 v15_4) r131.2).bind fun v134 =>
    some (v134, r131.2)).bind fun r134 =>
    ((callV call v13_5 [r134.1] r134.2).bind fun r135_1 =>
    some (r135_1.1, r135_1.2)).bind fun r135 =>
    ((bin .sub v19 r135.1).bind fun v136 =>
    some (v136, r135.2)).bind fun r136 =>
    ((prun Tryd.prog (Instr.build 76 #[(0, r131.1), (1, r136.1)])).bind fun v137 =>
    some (v137, r136.2)).bind fun r137 =>
    ((erun Tryd.prog (Instr.buildSlice 44 1 #[(0, r137.1)]) r137.2).bind fun r138_1 =>
    some (r138_1.1, r138_1.2)).bind fun r138 =>
    ((erun Tryd.prog (Builtin.append_ #[44, 44] 44 #[v11_5, r138.1]) r138.2).bind fun r139_1 =>
    some (r139_1.1, r139_1.2)).bind fun r139 =>
    chkThen ((((rrun Tryd.prog (Instr.loadAt 9 r130.1) r134.2).bind fun v131_1 => some v131_1) = some r131.1 ∧ ((rrun Tryd.prog (Instr.loadAt 9 r130.1) r135.2).bind fun v131_2 => some v131_2) = some r131.1) ∧ True)
    ((erun Tryd.prog (Instr.buildSlice 57 1 #[(0, v14_4)]) r139.2).bind fun r142 =>
    (erun Tryd.prog (Builtin.append_ #[57, 57] 57 #[v12_5, r142.1]) r142.2).bind fun r143 =>
    some (Res.norm [A2_8, r139.1, r143.1, v13_5, v14_4, v15_4, v16_4, v19, v48_6, v49_6, v50_5] r143.2))).bind fun (r : Res) => (r.unblock 7).cont fun vs_9 W10 =>
    let A2_9 := nth vs_9 0
    let v11_6 := nth vs_9 1
    let v12_6 := nth vs_9 2
    let v13_6 := nth vs_9 3
    let v14_5 := nth vs_9 4
    let v15_5 := nth vs_9 5
    let v16_5 := nth vs_9 6
    let v19_1 := nth vs_9 7
    let v48_7 := nth vs_9 8
    let v49_7 := nth vs_9 9
    let v50_6 := nth vs_9 10
    (bin .add v19_1 (Value.int IntKind.i64 1)).bind fun v128 =>
    some (Res.norm [A2_9, v11_6, v12_6, v13_6, v14_5, v15_5, v16_5, v128, v48_7, v49_7, v50_6] W10)
  else
  some (Res.exit 6 [A2_8, v11_5, v12_5, v13_5, v48_6, v49_6, v50_5] W9)
noncomputable def f19.l3 (call : CallF) (vs_3 : List Value) (W4 : World) : Option Res :=
  let A2_3 := nth vs_3 0
  let v11 := nth vs_3 1
  let v12 := nth vs_3 2
  let v13 := nth vs_3 3
  let v48_1 := nth vs_3 4
  let v49_1 := nth vs_3 5
  let v50 := nth vs_3 6
  (bin .lss v50 v49_1).bind fun v51 =>
  (asB v51).bind fun c51 =>
  if c51 then
    ((prun Tryd.prog (Instr.indexAt 50 v48_1 v50)).bind fun v53 =>
    (rrun Tryd.prog (Instr.loadAt 67 v53) W4).bind fun v54 =>
    (erun Tryd.prog (Instr.alloc 67 true (.tuple #[])) W4).bind fun r15 =>
    (erun Tryd.prog (Instr.storeAt 67 r15.1 v54) r15.2).bind fun r_1 =>
    (bin .add v50 (Value.int IntKind.i64 1)).bind fun v56 =>
    (prun Tryd.prog (Instr.fieldAt 52 A2_3 2)).bind fun v57 =>
    (rrun Tryd.prog (Instr.loadAt 50 v57) r_1.2).bind fun v58 =>
    (prun Tryd.prog (Builtin.len_ #[50] 3 #[v58])).bind fun v59 =>
    (bin .lss v56 v59).bind fun v60 =>
    (asB v60).bind fun c60 =>
    (if c60 then
      (prun Tryd.prog (Instr.fieldAt 52 A2_3 2)).bind fun v61 =>
      (rrun Tryd.prog (Instr.loadAt 50 v61) r_1.2).bind fun v62 =>
      (bin .add v50 (Value.int IntKind.i64 1)).bind fun v64 =>
      (prun Tryd.prog (Instr.indexAt 50 v62 v64)).bind fun v65 =>
      (prun Tryd.prog (Instr.fieldAt 67 v65 3)).bind fun v66 =>
      (rrun Tryd.prog (Instr.loadAt 3 v66) r_1.2).bind fun v67 =>
      some (Res.norm [A2_3, v11, v12, v13, v50, r15.1, v67, v48_1, v49_1, v50] r_1.2)
     else
      some (Res.norm [A2_3, v11, v12, v13, v50, r15.1, (Value.int IntKind.i64 0), v48_1, v49_1, v50] r_1.2)).bind fun (r : Res) => r.cont fun vs_4 W5 =>
    let A2_4 := nth vs_4 0
    let v11_1 := nth vs_4 1
    let v12_1 := nth vs_4 2
    let v13_1 := nth vs_4 3
    let v14 := nth vs_4 4
    let v15 := nth vs_4 5
    let v16 := nth vs_4 6
    let v48_2 := nth vs_4 7
    let v49_2 := nth vs_4 8
    let v50_1 := nth vs_4 9
    (prun Tryd.prog (Instr.fieldAt 67 v15 3)).bind fun v68 =>
    (rrun Tryd.prog (Instr.loadAt 3 v68) W5).bind fun v69 =>
    (iter (f19.l1 call) [A2_4, v11_1, v12_1, v13_1, v14, v15, v16, v48_2, v49_2, v50_1, v69, (Value.int IntKind.i64 0)] W5).bind fun (r : Res) => (r.unblock 4).cont fun vs_7 W8 =>
    let A2_7 := nth vs_7 0
    let v11_4 := nth vs_7 1
    let v12_4 := nth vs_7 2
    let v13_4 := nth vs_7 3
    let v14_3 := nth vs_7 4
    let v15_3 := nth vs_7 5
    let v16_3 := nth vs_7 6
    let v48_5 := nth vs_7 7
    let v49_5 := nth vs_7 8
    let v50_4 := nth vs_7 9
    (prun Tryd.prog (Instr.fieldAt 67 v15_3 1)).bind fun v116 =>
    (rrun Tryd.prog (Instr.loadAt 3 v116) W8).bind fun v117 =>
    (prun Tryd.prog (Instr.fieldAt 67 v15_3 3)).bind fun v118 =>
    (rrun Tryd.prog (Instr.loadAt 3 v118) W8).bind fun v119 =>
    (bin .add v117 v119).bind fun v120 =>
    (iter (f19.l2 call) [A2_7, v11_4, v12_4, v13_4, v14_3, v15_3, v16_3, v120, v48_5, v49_5, v50_4] W8).bind fun (r : Res) => (r.unblock 6).cont fun vs_10 W11 =>
    let A2_10 := nth vs_10 0
    let v11_7 := nth vs_10 1
    let v12_7 := nth vs_10 2
    let v13_7 := nth vs_10 3
    let v48_8 := nth vs_10 4
    let v49_8 := nth vs_10 5
    let v50_7 := nth vs_10 6
    some (Res.norm [A2_10, v11_7, v12_7, v13_7, v48_8, v49_8, v50_7] W11)).bind fun (r : Res) => (r.unblock 3).cont fun vs_11 W12 =>
    let A2_11 := nth vs_11 0
    let v11_8 := nth vs_11 1
    let v12_8 := nth vs_11 2
    let v13_8 := nth vs_11 3
    let v48_9 := nth vs_11 4
    let v49_9 := nth vs_11 5
    let v50_8 := nth vs_11 6
    (bin .add v50_8 (Value.int IntKind.i64 1)).bind fun v144 =>
    some (Res.norm [A2_11, v11_8, v12_8, v13_8, v48_9, v49_9, v144] W12)
  else
  some (Res.exit 2 [v11, v12] W4)
noncomputable def f19 (call : CallF) (t0 : Value) (o1 : Value) (W0 : World) : Option (Value × World) :=
  ((erun Tryd.prog (Instr.box 52 t0) W0).bind fun r2 =>
  (erun Tryd.prog (Instr.box 56 o1) r2.2).bind fun r3 =>
  (rrun Tryd.prog (Instr.loadAt 52 r2.1) r3.2).bind fun v20 =>
  (call 29 #[v20] r3.2).bind fun r21 =>
  (rrun Tryd.prog (do eqGuard .neq 46 (Operand.tmp 22) (Operand.const Value.nilIface) r21.1 Value.nilIface; binOp .neq 46 r21.1 Value.nilIface) r21.2).bind fun v23 =>
  (asB v23).bind fun c23 =>
  if c23 then
    some (Res.ret [(Value.slice none 0 0), (Value.slice none 0 0), r21.1] r21.2)
  else
  (prun Tryd.prog (Instr.fieldAt 52 r2.1 2)).bind fun v25 =>
  (rrun Tryd.prog (Instr.loadAt 50 v25) r21.2).bind fun v26 =>
  (prun Tryd.prog (Builtin.len_ #[50] 3 #[v26])).bind fun v27 =>
  (iter (f19.l0 call) [r2.1, r3.1, v26, v27, (Value.int IntKind.i64 0)] r21.2).bind fun (r : Res) => (r.unblock 0).cont fun vs_2 W3 =>
  let A2_2 := nth vs_2 0
  let r3_3 := nth vs_2 1
  (prun Tryd.prog (Instr.fieldAt 52 A2_2 2)).bind fun v47 =>
  (rrun Tryd.prog (Instr.loadAt 50 v47) W3).bind fun v48 =>
  (prun Tryd.prog (Builtin.len_ #[50] 3 #[v48])).bind fun v49 =>
  (iter (f19.l3 call) [A2_2, (Value.slice none 0 0), (Value.slice none 0 0), (.func (Fn.func 32) #[] #[r3_3]), v48, v49, (Value.int IntKind.i64 0)] W3).bind fun (r : Res) => (r.unblock 2).cont fun vs_12 W13 =>
  let v11_9 := nth vs_12 0
  let v12_9 := nth vs_12 1
  some (Res.ret [v11_9, v12_9, Value.nilIface] W13)).bind Res.done
theorem f19.eq (call dfr : CallF) (t0 : Value) (o1 : Value) (W0 : World) : aFun Tryd.prog call dfr Tryd.f19 f19.ann (ofArgs #[t0, o1]) W0 = f19 call t0 o1 W0 := by kernel_rfl

/-- dailies/plane.Shaped -/
def f20.ann : Ann := (.s .z (.s (.s .z (.c (.s .z .z) .z)) (.s .z .z)))
noncomputable def f20 (call : CallF) (s0 : Value) (W0 : World) : Option (Value × World) :=
  ((erun Tryd.prog (Instr.box 27 s0) W0).bind fun r1 =>
  (prun Tryd.prog (Instr.fieldAt 27 r1.1 0)).bind fun v3 =>
  (rrun Tryd.prog (Instr.loadAt 3 v3) r1.2).bind fun v4 =>
  (call 34 #[v4] r1.2).bind fun r5 =>
  (prun Tryd.prog (Op.unary .not r5.1)).bind fun v6 =>
  (asB v6).bind fun b7 =>
  (if b7 = false then (prun Tryd.prog (Instr.fieldAt 27 r1.1 1)).bind fun v8 =>
    (rrun Tryd.prog (Instr.loadAt 3 v8) r5.2).bind fun v9 =>
    (call 34 #[v9] r5.2).bind fun r10 =>
    (prun Tryd.prog (Op.unary .not r10.1)).bind fun v11 =>
    some (v11, r10.2)
   else some ((Value.bool true), r5.2)).bind fun r12 =>
  (asB r12.1).bind fun b13 =>
  (if b13 = false then (prun Tryd.prog (Instr.fieldAt 27 r1.1 2)).bind fun v14 =>
    (rrun Tryd.prog (Instr.loadAt 3 v14) r12.2).bind fun v15 =>
    (bin .neq v15 (Value.int IntKind.i64 10)).bind fun v16 =>
    (asB v16).bind fun b17 =>
    (if b17 = true then (prun Tryd.prog (Instr.fieldAt 27 r1.1 2)).bind fun v18 =>
      (rrun Tryd.prog (Instr.loadAt 3 v18) r12.2).bind fun v19 =>
      (bin .neq v19 (Value.int IntKind.i64 12)).bind fun v20 =>
      some (v20, r12.2)
     else some ((Value.bool false), r12.2)).bind fun r21 =>
    some (r21.1, r21.2)
   else some ((Value.bool true), r12.2)).bind fun r22 =>
  (asB r22.1).bind fun b23 =>
  (if b23 = false then (rrun Tryd.prog (Instr.loadAt 27 r1.1) r22.2).bind fun v24 =>
    (call 35 #[v24] r22.2).bind fun r25 =>
    (bin .gtr r25.1 (Value.int IntKind.i64 4194304)).bind fun v26 =>
    some (v26, r25.2)
   else some ((Value.bool true), r22.2)).bind fun r27 =>
  (asB r27.1).bind fun c27 =>
  if c27 then
    some (Res.ret [(Value.int IntKind.i64 61)] r27.2)
  else
  some (Res.ret [(Value.int IntKind.i64 0)] r27.2)).bind Res.done
theorem f20.eq (call dfr : CallF) (s0 : Value) (W0 : World) : aFun Tryd.prog call dfr Tryd.f20 f20.ann (ofArgs #[s0]) W0 = f20 call s0 W0 := by kernel_rfl

/-- dailies/plane.planes -/
def f21.ann : Ann := (.s .z (.s (.s .z (.c (.s .z .z) .z)) (.s .z .z)))
noncomputable def f21 (call : CallF) (s0 : Value) (W0 : World) : Option (Value × World) :=
  ((erun Tryd.prog (Instr.box 27 s0) W0).bind fun r1 =>
  (prun Tryd.prog (Instr.fieldAt 27 r1.1 3)).bind fun v3 =>
  (rrun Tryd.prog (Instr.loadAt 4 v3) r1.2).bind fun v4 =>
  (asB v4).bind fun c4 =>
  if c4 then
    some (Res.ret [(Value.int IntKind.i64 4)] r1.2)
  else
  some (Res.ret [(Value.int IntKind.i64 3)] r1.2)).bind Res.done
theorem f21.eq (call dfr : CallF) (s0 : Value) (W0 : World) : aFun Tryd.prog call dfr Tryd.f21 f21.ann (ofArgs #[s0]) W0 = f21 call s0 W0 := by kernel_rfl

/-- dailies/plane.width -/
def f22.ann : Ann := (.s .z (.s (.s .z (.c (.s .z .z) .z)) (.s .z .z)))
noncomputable def f22 (call : CallF) (s0 : Value) (plane1 : Value) (W0 : World) : Option (Value × World) :=
  ((erun Tryd.prog (Instr.box 27 s0) W0).bind fun r2 =>
  (bin .eql plane1 (Value.int IntKind.i64 1)).bind fun v6 =>
  (asB v6).bind fun b7 =>
  (if b7 = false then (bin .eql plane1 (Value.int IntKind.i64 2)).bind fun v9 =>
    some (v9, r2.2)
   else some ((Value.bool true), r2.2)).bind fun r10 =>
  (asB r10.1).bind fun c10 =>
  if c10 then
    (prun Tryd.prog (Instr.fieldAt 27 r2.1 0)).bind fun v11 =>
    (rrun Tryd.prog (Instr.loadAt 3 v11) r10.2).bind fun v12 =>
    (call 36 #[v12] r10.2).bind fun r13 =>
    some (Res.ret [r13.1] r13.2)
  else
  (prun Tryd.prog (Instr.fieldAt 27 r2.1 0)).bind fun v14 =>
  (rrun Tryd.prog (Instr.loadAt 3 v14) r10.2).bind fun v15 =>
  some (Res.ret [v15] r10.2)).bind Res.done
theorem f22.eq (call dfr : CallF) (s0 : Value) (plane1 : Value) (W0 : World) : aFun Tryd.prog call dfr Tryd.f22 f22.ann (ofArgs #[s0, plane1]) W0 = f22 call s0 plane1 W0 := by kernel_rfl

/-- dailies/plane.within -/
def f23.ann : Ann := (.s .z (.s .z .z))
noncomputable def f23 (call : CallF) (l0 : Value) (depth1 : Value) (W0 : World) : Option (Value × World) :=
  ((erun Tryd.prog (Instr.box 3 depth1) W0).bind fun r3 =>
  (call 37 #[l0, (.func (Fn.func 38) #[] #[r3.1])] r3.2).bind fun r7 =>
  (prun Tryd.prog (Op.unary .not r7.1)).bind fun v8 =>
  some (Res.ret [v8] r7.2)).bind Res.done
theorem f23.eq (call dfr : CallF) (l0 : Value) (depth1 : Value) (W0 : World) : aFun Tryd.prog call dfr Tryd.f23 f23.ann (ofArgs #[l0, depth1]) W0 = f23 call l0 depth1 W0 := by kernel_rfl

/-- dailies/plane.blank -/
def f24.ann : Ann := (.s .z (.s .z (.s (.s .z (.b [2, 3] (.l [1, 2, 3, 8, 9] (.s .z (.s (.c .z .z) (.s (.b [1, 2, 3, 8, 9] (.s .z .z)) .z)))))) (.s .z .z))))
noncomputable def f24.l0 (call : CallF) (vs : List Value) (W1 : World) : Option Res :=
  let s1 := nth vs 0
  let v2 := nth vs 1
  let f3 := nth vs 2
  let v8 := nth vs 3
  let v9 := nth vs 4
  (bin .lss v9 v8).bind fun v10 =>
  (asB v10).bind fun c10 =>
  if c10 then
    (((prun Tryd.prog (Instr.fieldAt 30 f3 1)).bind fun v12 =>
    some (v12, W1.drew)).bind fun r12 =>
    ((rrun Tryd.prog (Instr.loadAt 28 r12.1) r12.2).bind fun v13 =>
    some (v13, r12.2)).bind fun r13 =>
    ((rrun Tryd.prog (Instr.loadAt 27 s1) r13.2).bind fun v14 =>
    some (v14, r13.2)).bind fun r14 =>
    ((call 22 #[r14.1, v9] r14.2).bind fun r16_1 =>
    some (r16_1.1, r16_1.2)).bind fun r16 =>
    ((prun Tryd.prog (Instr.fieldAt 27 s1 1)).bind fun v17 =>
    some (v17, r16.2)).bind fun r17 =>
    ((rrun Tryd.prog (Instr.loadAt 3 r17.1) r17.2).bind fun v18 =>
    some (v18, r17.2)).bind fun r18 =>
    ((bin .mul r16.1 r18.1).bind fun v19 =>
    some (v19, r18.2)).bind fun r19 =>
    ((erun Tryd.prog (Instr.makeSlice 38 r19.1 r19.1) r19.2).bind fun r20_1 =>
    some (r20_1.1, r20_1.2)).bind fun r20 =>
    ((erun Tryd.prog (Instr.buildSlice 28 1 #[(0, r20.1)]) r20.2).bind fun r21_1 =>
    some (r21_1.1, r21_1.2)).bind fun r21 =>
    ((erun Tryd.prog (Builtin.append_ #[28, 28] 28 #[r13.1, r21.1]) r21.2).bind fun r22_1 =>
    some (r22_1.1, r22_1.2)).bind fun r22 =>
    ((prun Tryd.prog (Instr.fieldAt 30 f3 1)).bind fun v23 =>
    some (v23, r22.2)).bind fun r23 =>
    ((erun Tryd.prog (Instr.storeAt 28 r23.1 r22.1) r23.2).bind fun r_2 =>
    some (undef, r_2.2)).bind fun r_1 =>
    chkThen ((((rrun Tryd.prog (Instr.loadAt 28 r12.1) r14.2).bind fun v13_5 => some v13_5) = some r13.1 ∧ ((rrun Tryd.prog (Instr.loadAt 28 r12.1) r16.2).bind fun v13_6 => some v13_6) = some r13.1) ∧ (((rrun Tryd.prog (Instr.loadAt 28 r12.1) r19.2).bind fun v13_3 => some v13_3) = some r13.1 ∧ ((rrun Tryd.prog (Instr.loadAt 28 r12.1) r20.2).bind fun v13_4 => some v13_4) = some r13.1) ∧ (((rrun Tryd.prog (Instr.loadAt 28 r12.1) r20.2).bind fun v13_1 => some v13_1) = some r13.1 ∧ ((rrun Tryd.prog (Instr.loadAt 28 r12.1) r21.2).bind fun v13_2 => some v13_2) = some r13.1) ∧ (((rrun Tryd.prog (Instr.loadAt 3 r17.1) r14.2).bind fun v18_1 => some v18_1) = some r18.1 ∧ ((rrun Tryd.prog (Instr.loadAt 3 r17.1) r16.2).bind fun v18_2 => some v18_2) = some r18.1) ∧ True)
    (some (Res.norm [s1, v2, f3, v8, v9] r_1.2))).bind fun (r : Res) => (r.unblock 1).cont fun vs_1 W2 =>
    let s1_1 := nth vs_1 0
    let v2_1 := nth vs_1 1
    let f3_1 := nth vs_1 2
    let v8_1 := nth vs_1 3
    let v9_1 := nth vs_1 4
    (bin .add v9_1 (Value.int IntKind.i64 1)).bind fun v24 =>
    some (Res.norm [s1_1, v2_1, f3_1, v8_1, v24] W2)
  else
  some (Res.exit 0 [v2, f3] W1)
noncomputable def f24 (call : CallF) (s0 : Value) (W0 : World) : Option (Value × World) :=
  ((erun Tryd.prog (Instr.box 27 s0) W0).bind fun r1 =>
  (erun Tryd.prog (Instr.alloc 30 true (.tuple #[])) r1.2).bind fun r2 =>
  (rrun Tryd.prog (Instr.loadAt 27 r1.1) r2.2).bind fun v5 =>
  (prun Tryd.prog (Instr.build 30 #[(0, v5)])).bind fun v6 =>
  (erun Tryd.prog (Instr.alloc 30 true (.tuple #[])) r2.2).bind fun r3 =>
  (erun Tryd.prog (Instr.storeAt 30 r3.1 v6) r3.2).bind fun r =>
  (rrun Tryd.prog (Instr.loadAt 27 r1.1) r.2).bind fun v7 =>
  (call 21 #[v7] r.2).bind fun r8 =>
  (iter (f24.l0 call) [r1.1, r2.1, r3.1, r8.1, (Value.int IntKind.i64 0)] r8.2).bind fun (r : Res) => (r.unblock 0).cont fun vs_2 W3 =>
  let v2_2 := nth vs_2 0
  let f3_2 := nth vs_2 1
  (rrun Tryd.prog (Instr.loadAt 30 f3_2) W3).bind fun v25 =>
  (erun Tryd.prog (Instr.storeAt 30 v2_2 v25) W3).bind fun r_3 =>
  some (Res.ret [v2_2] r_3.2)).bind (Res.doneR Tryd.prog [.cell 2 30])
theorem f24.eq (call dfr : CallF) (s0 : Value) (W0 : World) : aFun Tryd.prog call dfr Tryd.f24 f24.ann (ofArgs #[s0]) W0 = f24 call s0 W0 := by kernel_rfl

/-- dailies/dailiesref06.Shaped -/
def f25.ann : Ann := (.s .z (.s (.s .z (.c (.s .z .z) .z)) (.s (.s .z (.c (.s .z .z) .z)) (.s .z .z))))
noncomputable def f25 (call : CallF) (s0 : Value) (W0 : World) : Option (Value × World) :=
  ((erun Tryd.prog (Instr.box 27 s0) W0).bind fun r1 =>
  (prun Tryd.prog (Instr.fieldAt 27 r1.1 0)).bind fun v3 =>
  (rrun Tryd.prog (Instr.loadAt 3 v3) r1.2).bind fun v4 =>
  (bin .lss v4 (Value.int IntKind.i64 1)).bind fun v5 =>
  (asB v5).bind fun b6 =>
  (if b6 = false then (prun Tryd.prog (Instr.fieldAt 27 r1.1 0)).bind fun v7 =>
    (rrun Tryd.prog (Instr.loadAt 3 v7) r1.2).bind fun v8 =>
    (bin .gtr v8 (Value.int IntKind.i64 4096)).bind fun v9 =>
    some (v9, r1.2)
   else some ((Value.bool true), r1.2)).bind fun r10 =>
  (asB r10.1).bind fun b11 =>
  (if b11 = false then (prun Tryd.prog (Instr.fieldAt 27 r1.1 1)).bind fun v12 =>
    (rrun Tryd.prog (Instr.loadAt 3 v12) r10.2).bind fun v13 =>
    (bin .lss v13 (Value.int IntKind.i64 1)).bind fun v14 =>
    some (v14, r10.2)
   else some ((Value.bool true), r10.2)).bind fun r15 =>
  (asB r15.1).bind fun b16 =>
  (if b16 = false then (prun Tryd.prog (Instr.fieldAt 27 r1.1 1)).bind fun v17 =>
    (rrun Tryd.prog (Instr.loadAt 3 v17) r15.2).bind fun v18 =>
    (bin .gtr v18 (Value.int IntKind.i64 4096)).bind fun v19 =>
    some (v19, r15.2)
   else some ((Value.bool true), r15.2)).bind fun r20 =>
  (asB r20.1).bind fun b21 =>
  (if b21 = false then (prun Tryd.prog (Instr.fieldAt 27 r1.1 2)).bind fun v22 =>
    (rrun Tryd.prog (Instr.loadAt 3 v22) r20.2).bind fun v23 =>
    (bin .neq v23 (Value.int IntKind.i64 10)).bind fun v24 =>
    (asB v24).bind fun b25 =>
    (if b25 = true then (prun Tryd.prog (Instr.fieldAt 27 r1.1 2)).bind fun v26 =>
      (rrun Tryd.prog (Instr.loadAt 3 v26) r20.2).bind fun v27 =>
      (bin .neq v27 (Value.int IntKind.i64 12)).bind fun v28 =>
      some (v28, r20.2)
     else some ((Value.bool false), r20.2)).bind fun r29 =>
    some (r29.1, r29.2)
   else some ((Value.bool true), r20.2)).bind fun r30 =>
  (asB r30.1).bind fun c30 =>
  if c30 then
    some (Res.ret [(Value.int IntKind.i64 61)] r30.2)
  else
  (rrun Tryd.prog (Instr.loadAt 27 r1.1) r30.2).bind fun v31 =>
  (call 39 #[v31] r30.2).bind fun r32 =>
  (bin .gtr r32.1 (Value.int IntKind.i64 4194304)).bind fun v33 =>
  (asB v33).bind fun c33 =>
  if c33 then
    some (Res.ret [(Value.int IntKind.i64 61)] r32.2)
  else
  some (Res.ret [(Value.int IntKind.i64 0)] r32.2)).bind Res.done
theorem f25.eq (call dfr : CallF) (s0 : Value) (W0 : World) : aFun Tryd.prog call dfr Tryd.f25 f25.ann (ofArgs #[s0]) W0 = f25 call s0 W0 := by kernel_rfl

/-- dailies/dailiesref06.count -/
def f26.ann : Ann := (.s .z (.s (.s .z (.c (.s .z .z) .z)) (.s .z .z)))
noncomputable def f26 (call : CallF) (s0 : Value) (W0 : World) : Option (Value × World) :=
  ((erun Tryd.prog (Instr.box 27 s0) W0).bind fun r1 =>
  (prun Tryd.prog (Instr.fieldAt 27 r1.1 3)).bind fun v3 =>
  (rrun Tryd.prog (Instr.loadAt 4 v3) r1.2).bind fun v4 =>
  (asB v4).bind fun c4 =>
  if c4 then
    some (Res.ret [(Value.int IntKind.i64 4)] r1.2)
  else
  some (Res.ret [(Value.int IntKind.i64 3)] r1.2)).bind Res.done
theorem f26.eq (call dfr : CallF) (s0 : Value) (W0 : World) : aFun Tryd.prog call dfr Tryd.f26 f26.ann (ofArgs #[s0]) W0 = f26 call s0 W0 := by kernel_rfl

/-- dailies/dailiesref06.wide -/
def f27.ann : Ann := (.s .z (.s (.s .z (.c (.s .z .z) .z)) (.s .z .z)))
noncomputable def f27 (call : CallF) (s0 : Value) (plane1 : Value) (W0 : World) : Option (Value × World) :=
  ((erun Tryd.prog (Instr.box 27 s0) W0).bind fun r2 =>
  (bin .eql plane1 (Value.int IntKind.i64 1)).bind fun v6 =>
  (asB v6).bind fun b7 =>
  (if b7 = false then (bin .eql plane1 (Value.int IntKind.i64 2)).bind fun v9 =>
    some (v9, r2.2)
   else some ((Value.bool true), r2.2)).bind fun r10 =>
  (asB r10.1).bind fun c10 =>
  if c10 then
    (prun Tryd.prog (Instr.fieldAt 27 r2.1 0)).bind fun v11 =>
    (rrun Tryd.prog (Instr.loadAt 3 v11) r10.2).bind fun v12 =>
    (call 40 #[v12] r10.2).bind fun r13 =>
    some (Res.ret [r13.1] r13.2)
  else
  (prun Tryd.prog (Instr.fieldAt 27 r2.1 0)).bind fun v14 =>
  (rrun Tryd.prog (Instr.loadAt 3 v14) r10.2).bind fun v15 =>
  some (Res.ret [v15] r10.2)).bind Res.done
theorem f27.eq (call dfr : CallF) (s0 : Value) (plane1 : Value) (W0 : World) : aFun Tryd.prog call dfr Tryd.f27 f27.ann (ofArgs #[s0, plane1]) W0 = f27 call s0 plane1 W0 := by kernel_rfl

/-- dailies/dailiesref06.beyond -/
def f28.ann : Ann := (.s .z (.s (.s .z (.b [] (.l [0, 1, 5] (.s (.s .z (.c .z .z)) (.s (.b [0, 1, 5] (.s .z (.c (.s .z .z) .z))) .z))))) (.s .z .z)))
noncomputable def f28.l0 (call : CallF) (vs : List Value) (W1 : World) : Option Res :=
  let l0_1 := nth vs 0
  let depth1_1 := nth vs 1
  let i5 := nth vs 2
  (prun Tryd.prog (Builtin.len_ #[38] 3 #[l0_1])).bind fun v8 =>
  (bin .lss i5 v8).bind fun v9 =>
  (asB v9).bind fun c9 =>
  if c9 then
    (((prun Tryd.prog (Instr.indexAt 38 l0_1 i5)).bind fun v14 =>
    some (v14, W1.drew)).bind fun r14 =>
    ((rrun Tryd.prog (Instr.loadAt 39 r14.1) r14.2).bind fun v15 =>
    some (v15, r14.2)).bind fun r15 =>
    ((prun Tryd.prog (convert 39 3 r15.1)).bind fun v16 =>
    some (v16, r15.2)).bind fun r16 =>
    ((call 41 #[depth1_1] r16.2).bind fun r18_1 =>
    some (r18_1.1, r18_1.2)).bind fun r18 =>
    ((bin .gtr r16.1 r18.1).bind fun v19 =>
    some (v19, r18.2)).bind fun r19 =>
    chkThen ((((rrun Tryd.prog (Instr.loadAt 39 r14.1) r16.2).bind fun v15_1 => some v15_1) = some r15.1 ∧ ((rrun Tryd.prog (Instr.loadAt 39 r14.1) r18.2).bind fun v15_2 => some v15_2) = some r15.1) ∧ True)
    ((asB r19.1).bind fun c19 =>
    if c19 then
      some (Res.ret [(Value.bool true)] r19.2)
    else
    some (Res.norm [l0_1, depth1_1, i5] r19.2))).bind fun (r : Res) => (r.unblock 1).cont fun vs_1 W2 =>
    let l0_2 := nth vs_1 0
    let depth1_2 := nth vs_1 1
    let i5_1 := nth vs_1 2
    (bin .add i5_1 (Value.int IntKind.i64 1)).bind fun v11 =>
    some (Res.norm [l0_2, depth1_2, v11] W2)
  else
  some (Res.exit 0 [] W1)
noncomputable def f28 (call : CallF) (l0 : Value) (depth1 : Value) (W0 : World) : Option (Value × World) :=
  ((iter (f28.l0 call) [l0, depth1, (Value.int IntKind.i64 0)] W0).bind fun (r : Res) => (r.unblock 0).cont fun vs_2 W3 =>
  some (Res.ret [(Value.bool false)] W3)).bind Res.done
theorem f28.eq (call dfr : CallF) (l0 : Value) (depth1 : Value) (W0 : World) : aFun Tryd.prog call dfr Tryd.f28 f28.ann (ofArgs #[l0, depth1]) W0 = f28 call l0 depth1 W0 := by kernel_rfl

/-- dailies/cuts.Check -/
def f29.ann : Ann := (.s .z (.s .z (.s (.b [1, 3] (.s .z (.c (.s .z .z) (.s .z (.c (.s .z .z) (.s .z (.c (.s .z .z) (.s .z (.c (.s .z .z) .z))))))))) (.s (.s .z (.b [] (.l [1, 3, 37, 38, 39] (.s .z (.s (.c .z .z) (.s (.b [1, 3, 37, 38, 39] (.s .z (.s .z (.s .z (.c (.s .z .z) .z))))) .z)))))) (.s .z .z)))))
noncomputable def f29.l0 (call : CallF) (vs_1 : List Value) (W2 : World) : Option Res :=
  let l1_1 := nth vs_1 0
  let day3_1 := nth vs_1 1
  let v37_1 := nth vs_1 2
  let v38_1 := nth vs_1 3
  let v39 := nth vs_1 4
  (bin .lss v39 v38_1).bind fun v40 =>
  (asB v40).bind fun c40 =>
  if c40 then
    ((prun Tryd.prog (Instr.indexAt 50 v37_1 v39)).bind fun v42 =>
    (rrun Tryd.prog (Instr.loadAt 67 v42) W2).bind fun v43 =>
    (erun Tryd.prog (Instr.alloc 67 true (.tuple #[])) W2).bind fun r6 =>
    (erun Tryd.prog (Instr.storeAt 67 r6.1 v43) r6.2).bind fun r =>
    (prun Tryd.prog (Instr.fieldAt 52 l1_1 2)).bind fun v44 =>
    (rrun Tryd.prog (Instr.loadAt 50 v44) r.2.drew).bind fun v45 =>
    (prun Tryd.prog (Instr.sliceAt 50 v45 none (some v39) none)).bind fun v47 =>
    (rrun Tryd.prog (Instr.loadAt 67 r6.1) r.2.drew).bind fun v48 =>
    (call 45 #[v47, v48, day3_1] r.2.drew).bind fun r50 =>
    (bin .neq r50.1 (Value.int IntKind.i64 0)).bind fun v52 =>
    (asB v52).bind fun c52 =>
    if c52 then
      (call 43 #[v39, r50.1] r50.2).bind fun r55 =>
      some (Res.ret [r55.1] r55.2)
    else
    some (Res.norm [l1_1, day3_1, v37_1, v38_1, v39] r50.2)).bind fun (r : Res) => (r.unblock 2).cont fun vs_2 W3 =>
    let l1_2 := nth vs_2 0
    let day3_2 := nth vs_2 1
    let v37_2 := nth vs_2 2
    let v38_2 := nth vs_2 3
    let v39_1 := nth vs_2 4
    (bin .add v39_1 (Value.int IntKind.i64 1)).bind fun v56 =>
    some (Res.norm [l1_2, day3_2, v37_2, v38_2, v56] W3)
  else
  some (Res.exit 1 [] W2)
noncomputable def f29 (call : CallF) (l0 : Value) (W0 : World) : Option (Value × World) :=
  ((erun Tryd.prog (Instr.box 52 l0) W0).bind fun r1 =>
  (prun Tryd.prog (Instr.fieldAt 52 r1.1 1)).bind fun v9 =>
  (rrun Tryd.prog (Instr.loadAt 49 v9) r1.2).bind fun v10 =>
  (call 42 #[v10] r1.2).bind fun r11 =>
  (prun Tryd.prog (Instr.extract r11.1 0)).bind fun v12 =>
  (prun Tryd.prog (Instr.extract r11.1 1)).bind fun v13 =>
  ((prun Tryd.prog (Instr.fieldAt 52 r1.1 0)).bind fun v15 =>
  (rrun Tryd.prog (Instr.loadAt 9 v15) r11.2).bind fun v16 =>
  (prun Tryd.prog (Builtin.len_ #[9] 3 #[v16])).bind fun v17 =>
  (bin .gtr v17 (Value.int IntKind.i64 100)).bind fun v18 =>
  (asB v18).bind fun c14 =>
  if c14 then
    (call 43 #[(Value.int IntKind.i64 (-1)), (Value.int IntKind.i64 191)] r11.2).bind fun r19 =>
    some (Res.ret [r19.1] r19.2)
  else
  (prun Tryd.prog (Instr.fieldAt 52 r1.1 0)).bind fun v21 =>
  (rrun Tryd.prog (Instr.loadAt 9 v21) r11.2).bind fun v22 =>
  (call 44 #[v22] r11.2).bind fun r23 =>
  (prun Tryd.prog (Op.unary .not r23.1)).bind fun v24 =>
  (asB v24).bind fun c20 =>
  if c20 then
    (call 43 #[(Value.int IntKind.i64 (-1)), (Value.int IntKind.i64 192)] r23.2).bind fun r25 =>
    some (Res.ret [r25.1] r25.2)
  else
  (bin .neq v13 (Value.int IntKind.i64 0)).bind fun v28 =>
  (asB v28).bind fun c26 =>
  if c26 then
    (call 43 #[(Value.int IntKind.i64 (-1)), (Value.int IntKind.i64 181)] r23.2).bind fun r29 =>
    some (Res.ret [r29.1] r29.2)
  else
  (prun Tryd.prog (Instr.fieldAt 52 r1.1 2)).bind fun v31 =>
  (rrun Tryd.prog (Instr.loadAt 50 v31) r23.2).bind fun v32 =>
  (prun Tryd.prog (Builtin.len_ #[50] 3 #[v32])).bind fun v33 =>
  (bin .gtr v33 (Value.int IntKind.i64 200)).bind fun v34 =>
  (asB v34).bind fun c30 =>
  if c30 then
    (call 43 #[(Value.int IntKind.i64 (-1)), (Value.int IntKind.i64 196)] r23.2).bind fun r35 =>
    some (Res.ret [r35.1] r35.2)
  else
  some (Res.norm [r1.1, v12] r23.2)).bind fun (r : Res) => (r.unblock 0).cont fun vs W1 =>
  let l1 := nth vs 0
  let day3 := nth vs 1
  (prun Tryd.prog (Instr.fieldAt 52 l1 2)).bind fun v36 =>
  (rrun Tryd.prog (Instr.loadAt 50 v36) W1).bind fun v37 =>
  (prun Tryd.prog (Builtin.len_ #[50] 3 #[v37])).bind fun v38 =>
  (iter (f29.l0 call) [l1, day3, v37, v38, (Value.int IntKind.i64 0)] W1).bind fun (r : Res) => (r.unblock 1).cont fun vs_3 W4 =>
  some (Res.ret [Value.nilIface] W4)).bind Res.done
theorem f29.eq (call dfr : CallF) (l0 : Value) (W0 : World) : aFun Tryd.prog call dfr Tryd.f29 f29.ann (ofArgs #[l0]) W0 = f29 call l0 W0 := by kernel_rfl

/-- dailies/plane.side -/
def f34.ann : Ann := (.s .z (.s .z .z))
noncomputable def f34 (call : CallF) (n0 : Value) (W0 : World) : Option (Value × World) :=
  ((bin .geq n0 (Value.int IntKind.i64 1)).bind fun v4 =>
  (asB v4).bind fun b5 =>
  (if b5 = true then (bin .leq n0 (Value.int IntKind.i64 4096)).bind fun v7 =>
    some (v7, W0)
   else some ((Value.bool false), W0)).bind fun r8 =>
  some (Res.ret [r8.1] r8.2)).bind Res.done
theorem f34.eq (call dfr : CallF) (n0 : Value) (W0 : World) : aFun Tryd.prog call dfr Tryd.f34 f34.ann (ofArgs #[n0]) W0 = f34 call n0 W0 := by kernel_rfl

/-- dailies/plane.total -/
def f35.ann : Ann := (.s .z (.s .z (.s (.s .z (.b [3] (.l [1, 3, 6, 7] (.s .z (.s (.c .z .z) (.s (.b [1, 3, 6, 7] (.s .z .z)) .z)))))) (.s .z .z))))
noncomputable def f35.l0 (call : CallF) (vs : List Value) (W1 : World) : Option Res :=
  let s1 := nth vs 0
  let n3 := nth vs 1
  let v6 := nth vs 2
  let v7 := nth vs 3
  (bin .lss v7 v6).bind fun v8 =>
  (asB v8).bind fun c8 =>
  if c8 then
    (((rrun Tryd.prog (Instr.loadAt 27 s1) W1.drew).bind fun v11 =>
    some (v11, W1.drew)).bind fun r11 =>
    ((call 22 #[r11.1, v7] r11.2).bind fun r13_1 =>
    some (r13_1.1, r13_1.2)).bind fun r13 =>
    ((prun Tryd.prog (Instr.fieldAt 27 s1 1)).bind fun v14 =>
    some (v14, r13.2)).bind fun r14 =>
    ((rrun Tryd.prog (Instr.loadAt 3 r14.1) r14.2).bind fun v15 =>
    some (v15, r14.2)).bind fun r15 =>
    ((bin .mul r13.1 r15.1).bind fun v16 =>
    some (v16, r15.2)).bind fun r16 =>
    ((bin .add n3 r16.1).bind fun v17 =>
    some (v17, r16.2)).bind fun r17 =>
    chkThen ((((rrun Tryd.prog (Instr.loadAt 3 r14.1) r11.2).bind fun v15_1 => some v15_1) = some r15.1 ∧ ((rrun Tryd.prog (Instr.loadAt 3 r14.1) r13.2).bind fun v15_2 => some v15_2) = some r15.1) ∧ True)
    (some (Res.norm [s1, r17.1, v6, v7] r17.2))).bind fun (r : Res) => (r.unblock 1).cont fun vs_1 W2 =>
    let s1_1 := nth vs_1 0
    let n3_1 := nth vs_1 1
    let v6_1 := nth vs_1 2
    let v7_1 := nth vs_1 3
    (bin .add v7_1 (Value.int IntKind.i64 1)).bind fun v18 =>
    some (Res.norm [s1_1, n3_1, v6_1, v18] W2)
  else
  some (Res.exit 0 [n3] W1)
noncomputable def f35 (call : CallF) (s0 : Value) (W0 : World) : Option (Value × World) :=
  ((erun Tryd.prog (Instr.box 27 s0) W0).bind fun r1 =>
  (rrun Tryd.prog (Instr.loadAt 27 r1.1) r1.2).bind fun v5 =>
  (call 21 #[v5] r1.2).bind fun r6 =>
  (iter (f35.l0 call) [r1.1, (Value.int IntKind.i64 0), r6.1, (Value.int IntKind.i64 0)] r6.2).bind fun (r : Res) => (r.unblock 0).cont fun vs_2 W3 =>
  let n3_2 := nth vs_2 0
  some (Res.ret [n3_2] W3)).bind Res.done
theorem f35.eq (call dfr : CallF) (s0 : Value) (W0 : World) : aFun Tryd.prog call dfr Tryd.f35 f35.ann (ofArgs #[s0]) W0 = f35 call s0 W0 := by kernel_rfl

/-- dailies/plane.half -/
def f36.ann : Ann := (.s .z (.s .z .z))
noncomputable def f36 (call : CallF) (n0 : Value) (W0 : World) : Option (Value × World) :=
  ((bin .add n0 (Value.int IntKind.i64 1)).bind fun v4 =>
  (bin .quo v4 (Value.int IntKind.i64 2)).bind fun v5 =>
  some (Res.ret [v5] W0)).bind Res.done
theorem f36.eq (call dfr : CallF) (n0 : Value) (W0 : World) : aFun Tryd.prog call dfr Tryd.f36 f36.ann (ofArgs #[n0]) W0 = f36 call n0 W0 := by kernel_rfl

/-- slices.ContainsFunc[[]uint16,uint16] -/
def f37.ann : Ann := (.s .z (.s .z .z))
noncomputable def f37 (call : CallF) (s0 : Value) (f1 : Value) (W0 : World) : Option (Value × World) :=
  ((call 47 #[s0, f1] W0).bind fun r7 =>
  (bin .geq r7.1 (Value.int IntKind.i64 0)).bind fun v8 =>
  some (Res.ret [v8] r7.2)).bind Res.done
theorem f37.eq (call dfr : CallF) (s0 : Value) (f1 : Value) (W0 : World) : aFun Tryd.prog call dfr Tryd.f37 f37.ann (ofArgs #[s0, f1]) W0 = f37 call s0 f1 W0 := by kernel_rfl

/-- dailies/plane.within$1 -/
def f38.ann : Ann := (.s .z (.s .z .z))
noncomputable def f38 (call : CallF) (v0 : Value) (v1 : Value) (W0 : World) : Option (Value × World) :=
  ((rrun Tryd.prog (Instr.loadAt 3 v1) W0).bind fun v5 =>
  (prun Tryd.prog (do eqGuard .shr 39 (Operand.tmp 4) (Operand.tmp 5) v0 v5; binOp .shr 39 v0 v5)).bind fun v6 =>
  (bin .neq v6 (Value.int IntKind.u16 0)).bind fun v7 =>
  some (Res.ret [v7] W0)).bind Res.done
theorem f38.eq (call dfr : CallF) (v0 : Value) (v1 : Value) (W0 : World) : aFun Tryd.prog call dfr Tryd.f38 f38.ann (ofArgs #[v0, v1]) W0 = f38 call v0 v1 W0 := by kernel_rfl

/-- dailies/dailiesref06.total -/
def f39.ann : Ann := (.s .z (.s .z (.s (.s .z (.b [3] (.l [1, 3, 4] (.s (.s .z (.c .z .z)) (.s (.b [1, 3, 4] .z) .z))))) (.s .z .z))))
noncomputable def f39.l0 (call : CallF) (vs : List Value) (W1 : World) : Option Res :=
  let s1 := nth vs 0
  let n3 := nth vs 1
  let i4 := nth vs 2
  (rrun Tryd.prog (Instr.loadAt 27 s1) W1).bind fun v6 =>
  (call 26 #[v6] W1).bind fun r7 =>
  (bin .lss i4 r7.1).bind fun v8 =>
  (asB v8).bind fun c8 =>
  if c8 then
    (((rrun Tryd.prog (Instr.loadAt 27 s1) r7.2.drew).bind fun v12 =>
    some (v12, r7.2.drew)).bind fun r12 =>
    ((call 27 #[r12.1, i4] r12.2).bind fun r14_1 =>
    some (r14_1.1, r14_1.2)).bind fun r14 =>
    ((prun Tryd.prog (Instr.fieldAt 27 s1 1)).bind fun v15 =>
    some (v15, r14.2)).bind fun r15 =>
    ((rrun Tryd.prog (Instr.loadAt 3 r15.1) r15.2).bind fun v16 =>
    some (v16, r15.2)).bind fun r16 =>
    ((bin .mul r14.1 r16.1).bind fun v17 =>
    some (v17, r16.2)).bind fun r17 =>
    ((bin .add n3 r17.1).bind fun v18 =>
    some (v18, r17.2)).bind fun r18 =>
    chkThen ((((rrun Tryd.prog (Instr.loadAt 3 r15.1) r12.2).bind fun v16_1 => some v16_1) = some r16.1 ∧ ((rrun Tryd.prog (Instr.loadAt 3 r15.1) r14.2).bind fun v16_2 => some v16_2) = some r16.1) ∧ True)
    (some (Res.norm [s1, r18.1, i4] r18.2))).bind fun (r : Res) => (r.unblock 1).cont fun vs_1 W2 =>
    let s1_1 := nth vs_1 0
    let n3_1 := nth vs_1 1
    let i4_1 := nth vs_1 2
    (bin .add i4_1 (Value.int IntKind.i64 1)).bind fun v10 =>
    some (Res.norm [s1_1, n3_1, v10] W2)
  else
  some (Res.exit 0 [n3] r7.2)
noncomputable def f39 (call : CallF) (s0 : Value) (W0 : World) : Option (Value × World) :=
  ((erun Tryd.prog (Instr.box 27 s0) W0).bind fun r1 =>
  (iter (f39.l0 call) [r1.1, (Value.int IntKind.i64 0), (Value.int IntKind.i64 0)] r1.2).bind fun (r : Res) => (r.unblock 0).cont fun vs_2 W3 =>
  let n3_2 := nth vs_2 0
  some (Res.ret [n3_2] W3)).bind Res.done
theorem f39.eq (call dfr : CallF) (s0 : Value) (W0 : World) : aFun Tryd.prog call dfr Tryd.f39 f39.ann (ofArgs #[s0]) W0 = f39 call s0 W0 := by kernel_rfl

/-- dailies/dailiesref06.half -/
def f40.ann : Ann := (.s .z (.s .z .z))
noncomputable def f40 (call : CallF) (n0 : Value) (W0 : World) : Option (Value × World) :=
  ((bin .quo n0 (Value.int IntKind.i64 2)).bind fun v4 =>
  (bin .rem n0 (Value.int IntKind.i64 2)).bind fun v6 =>
  (bin .add v4 v6).bind fun v7 =>
  some (Res.ret [v7] W0)).bind Res.done
theorem f40.eq (call dfr : CallF) (n0 : Value) (W0 : World) : aFun Tryd.prog call dfr Tryd.f40 f40.ann (ofArgs #[n0]) W0 = f40 call n0 W0 := by kernel_rfl

/-- dailies/dailiesref06.Top -/
def f41.ann : Ann := (.s .z (.s .z .z))
noncomputable def f41 (call : CallF) (depth0 : Value) (W0 : World) : Option (Value × World) :=
  ((prun Tryd.prog (do eqGuard .shl 3 (Operand.const (Value.int IntKind.i64 1)) (Operand.tmp 3) (Value.int IntKind.i64 1) depth0; binOp .shl 3 (Value.int IntKind.i64 1) depth0)).bind fun v4 =>
  (bin .sub v4 (Value.int IntKind.i64 1)).bind fun v5 =>
  some (Res.ret [v5] W0)).bind Res.done
theorem f41.eq (call dfr : CallF) (depth0 : Value) (W0 : World) : aFun Tryd.prog call dfr Tryd.f41 f41.ann (ofArgs #[depth0]) W0 = f41 call depth0 W0 := by kernel_rfl

/-- dailies/timecode.PerDay -/
def f42.ann : Ann := (.s .z (.s .z (.s (.s .z (.c (.s .z .z) .z)) (.s .z .z))))
noncomputable def f42 (call : CallF) (r0 : Value) (W0 : World) : Option (Value × World) :=
  ((call 48 #[r0] W0).bind fun r8 =>
  (prun Tryd.prog (Instr.extract r8.1 0)).bind fun v9 =>
  (prun Tryd.prog (Instr.extract r8.1 1)).bind fun v10 =>
  (erun Tryd.prog (Instr.alloc 95 true (.tuple #[])) r8.2).bind fun r4 =>
  (erun Tryd.prog (Instr.storeAt 95 r4.1 v9) r4.2).bind fun r =>
  (prun Tryd.prog (Op.unary .not v10)).bind fun v12 =>
  (asB v12).bind fun c12 =>
  if c12 then
    some (Res.ret [(Value.int IntKind.i64 0), (Value.int IntKind.i64 181)] r.2)
  else
  (rrun Tryd.prog (Instr.loadAt 95 r4.1) r.2).bind fun v13 =>
  (call 49 #[v13] r.2).bind fun r14 =>
  some (Res.ret [r14.1, (Value.int IntKind.i64 0)] r14.2)).bind Res.done
theorem f42.eq (call dfr : CallF) (r0 : Value) (W0 : World) : aFun Tryd.prog call dfr Tryd.f42 f42.ann (ofArgs #[r0]) W0 = f42 call r0 W0 := by kernel_rfl

/-- dailies/cuts.wrong -/
def f43.ann : Ann := (.s .z (.s .z .z))
noncomputable def f43 (call : CallF) (event0 : Value) (e1 : Value) (W0 : World) : Option (Value × World) :=
  ((prun Tryd.prog (Instr.build 88 #[(0, event0), (1, e1)])).bind fun v7 =>
  (erun Tryd.prog (Instr.box 88 v7) W0).bind fun r8 =>
  (prun Tryd.prog (Instr.makeInterface 86 r8.1)).bind fun v9 =>
  some (Res.ret [v9] r8.2)).bind Res.done
theorem f43.eq (call dfr : CallF) (event0 : Value) (e1 : Value) (W0 : World) : aFun Tryd.prog call dfr Tryd.f43 f43.ann (ofArgs #[event0, e1]) W0 = f43 call event0 e1 W0 := by kernel_rfl

/-- unicode/utf8.ValidString -/
def f44.ann : Ann := (.s .z (.s (.b [] (.l [0] (.s (.s .z (.c .z .z)) (.b [0] (.s .z (.s (.s .z (.c (.s .z (.s (.s .z (.j [0] (.s .z (.s .z (.c (.s .z (.b [0] (.l [0] (.s (.s .z (.c .z .z)) (.b [0] .z))))) .z))) .z)) .z)) .z)) (.s .z (.s .z (.s .z (.s .z (.b [0] (.s .z (.c (.s (.s .z (.c (.s .z .z) .z)) .z) (.s .z (.c (.s (.s .z (.c (.s .z .z) .z)) .z) (.s .z (.c (.s (.s .z (.c (.s .z .z) .z)) .z) (.s .z .z)))))))))))))))))) (.s .z .z)))
noncomputable def f44.l0 (call : CallF) (vs_1 : List Value) (W2 : World) : Option Res :=
  let t0_2 := nth vs_1 0
  ((prun Tryd.prog (Builtin.len_ #[9] 3 #[t0_2])).bind fun v43 =>
  some (v43, W2.drew)).bind fun r43 =>
  ((bin .gtr r43.1 (Value.int IntKind.i64 32)).bind fun v44 =>
  some (v44, r43.2)).bind fun r44 =>
  (if wantedV true r44.1 = true then some (t0_2, r44.2) else some (undef, r44.2)).bind fun r46 =>
  (if wantedV true r44.1 = true then (call 50 #[r46.1] r46.2).bind fun r47_1 =>
  some (r47_1.1, r47_1.2) else some (undef, r46.2)).bind fun r47 =>
  (if wantedV true r44.1 = true then some (t0_2, r47.2) else some (undef, r47.2)).bind fun r48 =>
  (if wantedV true r44.1 = true then (prun Tryd.prog (Instr.sliceAt 9 r48.1 (some (Value.int IntKind.i64 8)) none none)).bind fun v49 =>
  some (v49, r48.2) else some (undef, r48.2)).bind fun r49 =>
  (if wantedV true r44.1 = true then (call 50 #[r49.1] r49.2).bind fun r50_1 =>
  some (r50_1.1, r50_1.2) else some (undef, r49.2)).bind fun r50 =>
  (if wantedV true r44.1 = true then (prun Tryd.prog (do eqGuard .or 12 (Operand.tmp 47) (Operand.tmp 50) r47.1 r50.1; binOp .or 12 r47.1 r50.1)).bind fun v51 =>
  some (v51, r50.2) else some (undef, r50.2)).bind fun r51 =>
  (if wantedV true r44.1 = true then some (t0_2, r51.2) else some (undef, r51.2)).bind fun r52 =>
  (if wantedV true r44.1 = true then (prun Tryd.prog (Instr.sliceAt 9 r52.1 (some (Value.int IntKind.i64 16)) none none)).bind fun v53 =>
  some (v53, r52.2) else some (undef, r52.2)).bind fun r53 =>
  (if wantedV true r44.1 = true then (call 50 #[r53.1] r53.2).bind fun r54_1 =>
  some (r54_1.1, r54_1.2) else some (undef, r53.2)).bind fun r54 =>
  (if wantedV true r44.1 = true then some (t0_2, r54.2) else some (undef, r54.2)).bind fun r55 =>
  (if wantedV true r44.1 = true then (prun Tryd.prog (Instr.sliceAt 9 r55.1 (some (Value.int IntKind.i64 24)) none none)).bind fun v56 =>
  some (v56, r55.2) else some (undef, r55.2)).bind fun r56 =>
  (if wantedV true r44.1 = true then (call 50 #[r56.1] r56.2).bind fun r57_1 =>
  some (r57_1.1, r57_1.2) else some (undef, r56.2)).bind fun r57 =>
  (if wantedV true r44.1 = true then (prun Tryd.prog (do eqGuard .or 12 (Operand.tmp 54) (Operand.tmp 57) r54.1 r57.1; binOp .or 12 r54.1 r57.1)).bind fun v58 =>
  some (v58, r57.2) else some (undef, r57.2)).bind fun r58 =>
  (if wantedV true r44.1 = true then (prun Tryd.prog (do eqGuard .or 12 (Operand.tmp 51) (Operand.tmp 58) r51.1 r58.1; binOp .or 12 r51.1 r58.1)).bind fun v59 =>
  some (v59, r58.2) else some (undef, r58.2)).bind fun r59 =>
  (if wantedV true r44.1 = true then (prun Tryd.prog (do eqGuard .and 12 (Operand.tmp 59) (Operand.const (Value.int IntKind.u64 9259542123273814144)) r59.1 (Value.int IntKind.u64 9259542123273814144); binOp .and 12 r59.1 (Value.int IntKind.u64 9259542123273814144))).bind fun v60 =>
  some (v60, r59.2) else some (undef, r59.2)).bind fun r60 =>
  (if wantedV true r44.1 = true then (bin .eql r60.1 (Value.int IntKind.u64 0)).bind fun v61 =>
  some (v61, r60.2) else some (undef, r60.2)).bind fun r61 =>
  ((pickV r44.1 r61.1 (Value.bool false)).bind fun v62 =>
  some (v62, r61.2)).bind fun r62 =>
  chkThen (True)
  ((asB r62.1).bind fun c62 =>
  if c62 then
    ((prun Tryd.prog (Instr.sliceAt 9 t0_2 (some (Value.int IntKind.i64 32)) none none)).bind fun v64 =>
    some (Res.norm [v64] r62.2)).bind fun (r : Res) => (r.unblock 3).cont fun vs_2 W3 =>
    let t0_3 := nth vs_2 0
    some (Res.norm [t0_3] W3)
  else
  some (Res.exit 2 [t0_2] r62.2))
noncomputable def f44.l1 (call : CallF) (vs : List Value) (W1 : World) : Option Res :=
  let t0_1 := nth vs 0
  (prun Tryd.prog (Builtin.len_ #[9] 3 #[t0_1])).bind fun v8 =>
  (bin .gtr v8 (Value.int IntKind.i64 0)).bind fun v9 =>
  (asB v9).bind fun c9 =>
  if c9 then
    ((prun Tryd.prog (Instr.index 9 t0_1 (Value.int IntKind.i64 0))).bind fun v11 =>
    (bin .lss v11 (Value.int IntKind.u8 128)).bind fun v13 =>
    (asB v13).bind fun c13 =>
    if c13 then
      (prun Tryd.prog (Instr.sliceAt 9 t0_1 (some (Value.int IntKind.i64 1)) none none)).bind fun v15 =>
      (prun Tryd.prog (Builtin.len_ #[9] 3 #[v15])).bind fun v17 =>
      (bin .gtr v17 (Value.int IntKind.i64 8)).bind fun v18 =>
      (asB v18).bind fun b19 =>
      (if b19 = true then (call 50 #[v15] W1).bind fun r21 =>
        (prun Tryd.prog (do eqGuard .and 12 (Operand.tmp 21) (Operand.const (Value.int IntKind.u64 9259542123273814144)) r21.1 (Value.int IntKind.u64 9259542123273814144); binOp .and 12 r21.1 (Value.int IntKind.u64 9259542123273814144))).bind fun v22 =>
        (bin .eql v22 (Value.int IntKind.u64 0)).bind fun v23 =>
        some (v23, r21.2)
       else some ((Value.bool false), W1)).bind fun r24 =>
      (asB r24.1).bind fun c24 =>
      (if c24 then
        (prun Tryd.prog (Instr.sliceAt 9 v15 (some (Value.int IntKind.i64 8)) none none)).bind fun v26 =>
        ((prun Tryd.prog (Builtin.len_ #[9] 3 #[v26])).bind fun v28 =>
        some (v28, r24.2.drew)).bind fun r28 =>
        ((bin .gtr r28.1 (Value.int IntKind.i64 16)).bind fun v29 =>
        some (v29, r28.2)).bind fun r29 =>
        (if wantedV true r29.1 = true then some (v26, r29.2) else some (undef, r29.2)).bind fun r31 =>
        (if wantedV true r29.1 = true then (call 50 #[r31.1] r31.2).bind fun r32_1 =>
        some (r32_1.1, r32_1.2) else some (undef, r31.2)).bind fun r32 =>
        (if wantedV true r29.1 = true then some (v26, r32.2) else some (undef, r32.2)).bind fun r33 =>
        (if wantedV true r29.1 = true then (prun Tryd.prog (Instr.sliceAt 9 r33.1 (some (Value.int IntKind.i64 8)) none none)).bind fun v34 =>
        some (v34, r33.2) else some (undef, r33.2)).bind fun r34 =>
        (if wantedV true r29.1 = true then (call 50 #[r34.1] r34.2).bind fun r35_1 =>
        some (r35_1.1, r35_1.2) else some (undef, r34.2)).bind fun r35 =>
        (if wantedV true r29.1 = true then (prun Tryd.prog (do eqGuard .or 12 (Operand.tmp 32) (Operand.tmp 35) r32.1 r35.1; binOp .or 12 r32.1 r35.1)).bind fun v36 =>
        some (v36, r35.2) else some (undef, r35.2)).bind fun r36 =>
        (if wantedV true r29.1 = true then (prun Tryd.prog (do eqGuard .and 12 (Operand.tmp 36) (Operand.const (Value.int IntKind.u64 9259542123273814144)) r36.1 (Value.int IntKind.u64 9259542123273814144); binOp .and 12 r36.1 (Value.int IntKind.u64 9259542123273814144))).bind fun v37 =>
        some (v37, r36.2) else some (undef, r36.2)).bind fun r37 =>
        (if wantedV true r29.1 = true then (bin .eql r37.1 (Value.int IntKind.u64 0)).bind fun v38 =>
        some (v38, r37.2) else some (undef, r37.2)).bind fun r38 =>
        ((pickV r29.1 r38.1 (Value.bool false)).bind fun v39 =>
        some (v39, r38.2)).bind fun r39 =>
        chkThen (True)
        ((asB r39.1).bind fun c39 =>
        if c39 then
          (prun Tryd.prog (Instr.sliceAt 9 v26 (some (Value.int IntKind.i64 16)) none none)).bind fun v41 =>
          (iter (f44.l0 call) [v41] r39.2).bind fun (r : Res) => (r.unblock 2).cont fun vs_3 W4 =>
          let t0_4 := nth vs_3 0
          some (Res.norm [t0_4] W4)
        else
        some (Res.norm [v26] r39.2))
       else
        some (Res.norm [v15] r24.2)).bind fun (r : Res) => r.cont fun vs_4 W5 =>
      let t0_5 := nth vs_4 0
      some (Res.exit 1 [t0_5] W5)
    else
    (prun Tryd.prog (Instr.indexAt 99 (.pointer (some ⟨0, 0, none⟩)) v11)).bind fun v66 =>
    (rrun Tryd.prog (Instr.loadAt 5 v66) W1).bind fun v67 =>
    (prun Tryd.prog (do eqGuard .and 5 (Operand.tmp 68) (Operand.const (Value.int IntKind.u8 7)) v67 (Value.int IntKind.u8 7); binOp .and 5 v67 (Value.int IntKind.u8 7))).bind fun v69 =>
    (prun Tryd.prog (convert 5 3 v69)).bind fun v70 =>
    (prun Tryd.prog (do eqGuard .shr 5 (Operand.tmp 71) (Operand.const (Value.int IntKind.u64 4)) v67 (Value.int IntKind.u64 4); binOp .shr 5 v67 (Value.int IntKind.u64 4))).bind fun v72 =>
    (prun Tryd.prog (Instr.indexAt 102 (.pointer (some ⟨1, 0, none⟩)) v72)).bind fun v73 =>
    (rrun Tryd.prog (Instr.loadAt 101 v73) W1).bind fun v74 =>
    (erun Tryd.prog (Instr.alloc 101 true (.tuple #[])) W1).bind fun r6 =>
    (erun Tryd.prog (Instr.storeAt 101 r6.1 v74) r6.2).bind fun r =>
    ((bin .eql v70 (Value.int IntKind.i64 2)).bind fun v77 =>
    (asB v77).bind fun c76 =>
    if c76 then
      (prun Tryd.prog (Builtin.len_ #[9] 3 #[t0_1])).bind fun v79 =>
      (bin .lss v79 (Value.int IntKind.i64 2)).bind fun v80 =>
      (asB v80).bind fun b81 =>
      (if b81 = false then (prun Tryd.prog (Instr.index 9 t0_1 (Value.int IntKind.i64 1))).bind fun v83 =>
        (prun Tryd.prog (Instr.fieldAt 101 r6.1 0)).bind fun v84 =>
        (rrun Tryd.prog (Instr.loadAt 5 v84) r.2.drew).bind fun v85 =>
        (bin .lss v83 v85).bind fun v86 =>
        some (v86, r.2.drew)
       else some ((Value.bool true), r.2.drew)).bind fun r87 =>
      (asB r87.1).bind fun b88 =>
      (if b88 = false then (prun Tryd.prog (Instr.fieldAt 101 r6.1 1)).bind fun v89 =>
        (rrun Tryd.prog (Instr.loadAt 5 v89) r87.2).bind fun v90 =>
        (prun Tryd.prog (Instr.index 9 t0_1 (Value.int IntKind.i64 1))).bind fun v92 =>
        (bin .lss v90 v92).bind fun v93 =>
        some (v93, r87.2)
       else some ((Value.bool true), r87.2)).bind fun r94 =>
      (asB r94.1).bind fun c94 =>
      if c94 then
        some (Res.ret [(Value.bool false)] r94.2)
      else
      (prun Tryd.prog (Instr.sliceAt 9 t0_1 (some (Value.int IntKind.i64 2)) none none)).bind fun v96 =>
      some (Res.norm [v96] r94.2)
    else
    (bin .eql v70 (Value.int IntKind.i64 3)).bind fun v98 =>
    (asB v98).bind fun c97 =>
    if c97 then
      (prun Tryd.prog (Builtin.len_ #[9] 3 #[t0_1])).bind fun v100 =>
      (bin .lss v100 (Value.int IntKind.i64 3)).bind fun v101 =>
      (asB v101).bind fun b102 =>
      (if b102 = false then (prun Tryd.prog (Instr.index 9 t0_1 (Value.int IntKind.i64 1))).bind fun v104 =>
        (prun Tryd.prog (Instr.fieldAt 101 r6.1 0)).bind fun v105 =>
        (rrun Tryd.prog (Instr.loadAt 5 v105) r.2.drew).bind fun v106 =>
        (bin .lss v104 v106).bind fun v107 =>
        some (v107, r.2.drew)
       else some ((Value.bool true), r.2.drew)).bind fun r108 =>
      (asB r108.1).bind fun b109 =>
      (if b109 = false then (prun Tryd.prog (Instr.fieldAt 101 r6.1 1)).bind fun v110 =>
        (rrun Tryd.prog (Instr.loadAt 5 v110) r108.2).bind fun v111 =>
        (prun Tryd.prog (Instr.index 9 t0_1 (Value.int IntKind.i64 1))).bind fun v113 =>
        (bin .lss v111 v113).bind fun v114 =>
        some (v114, r108.2)
       else some ((Value.bool true), r108.2)).bind fun r115 =>
      (asB r115.1).bind fun b116 =>
      (if b116 = false then (prun Tryd.prog (Instr.index 9 t0_1 (Value.int IntKind.i64 2))).bind fun v118 =>
        (bin .lss v118 (Value.int IntKind.u8 128)).bind fun v119 =>
        some (v119, r115.2)
       else some ((Value.bool true), r115.2)).bind fun r120 =>
      (asB r120.1).bind fun b121 =>
      (if b121 = false then (prun Tryd.prog (Instr.index 9 t0_1 (Value.int IntKind.i64 2))).bind fun v123 =>
        (bin .lss (Value.int IntKind.u8 191) v123).bind fun v124 =>
        some (v124, r120.2)
       else some ((Value.bool true), r120.2)).bind fun r125 =>
      (asB r125.1).bind fun c125 =>
      if c125 then
        some (Res.ret [(Value.bool false)] r125.2)
      else
      (prun Tryd.prog (Instr.sliceAt 9 t0_1 (some (Value.int IntKind.i64 3)) none none)).bind fun v127 =>
      some (Res.norm [v127] r125.2)
    else
    (bin .eql v70 (Value.int IntKind.i64 4)).bind fun v129 =>
    (asB v129).bind fun c128 =>
    if c128 then
      (prun Tryd.prog (Builtin.len_ #[9] 3 #[t0_1])).bind fun v131 =>
      (bin .lss v131 (Value.int IntKind.i64 4)).bind fun v132 =>
      (asB v132).bind fun b133 =>
      (if b133 = false then (prun Tryd.prog (Instr.index 9 t0_1 (Value.int IntKind.i64 1))).bind fun v135 =>
        (prun Tryd.prog (Instr.fieldAt 101 r6.1 0)).bind fun v136 =>
        (rrun Tryd.prog (Instr.loadAt 5 v136) r.2.drew).bind fun v137 =>
        (bin .lss v135 v137).bind fun v138 =>
        some (v138, r.2.drew)
       else some ((Value.bool true), r.2.drew)).bind fun r139 =>
      (asB r139.1).bind fun b140 =>
      (if b140 = false then (prun Tryd.prog (Instr.fieldAt 101 r6.1 1)).bind fun v141 =>
        (rrun Tryd.prog (Instr.loadAt 5 v141) r139.2).bind fun v142 =>
        (prun Tryd.prog (Instr.index 9 t0_1 (Value.int IntKind.i64 1))).bind fun v144 =>
        (bin .lss v142 v144).bind fun v145 =>
        some (v145, r139.2)
       else some ((Value.bool true), r139.2)).bind fun r146 =>
      (asB r146.1).bind fun b147 =>
      (if b147 = false then (prun Tryd.prog (Instr.index 9 t0_1 (Value.int IntKind.i64 2))).bind fun v149 =>
        (bin .lss v149 (Value.int IntKind.u8 128)).bind fun v150 =>
        some (v150, r146.2)
       else some ((Value.bool true), r146.2)).bind fun r151 =>
      (asB r151.1).bind fun b152 =>
      (if b152 = false then (prun Tryd.prog (Instr.index 9 t0_1 (Value.int IntKind.i64 2))).bind fun v154 =>
        (bin .lss (Value.int IntKind.u8 191) v154).bind fun v155 =>
        some (v155, r151.2)
       else some ((Value.bool true), r151.2)).bind fun r156 =>
      (asB r156.1).bind fun b157 =>
      (if b157 = false then (prun Tryd.prog (Instr.index 9 t0_1 (Value.int IntKind.i64 3))).bind fun v159 =>
        (bin .lss v159 (Value.int IntKind.u8 128)).bind fun v160 =>
        some (v160, r156.2)
       else some ((Value.bool true), r156.2)).bind fun r161 =>
      (asB r161.1).bind fun b162 =>
      (if b162 = false then (prun Tryd.prog (Instr.index 9 t0_1 (Value.int IntKind.i64 3))).bind fun v164 =>
        (bin .lss (Value.int IntKind.u8 191) v164).bind fun v165 =>
        some (v165, r161.2)
       else some ((Value.bool true), r161.2)).bind fun r166 =>
      (asB r166.1).bind fun c166 =>
      if c166 then
        some (Res.ret [(Value.bool false)] r166.2)
      else
      (prun Tryd.prog (Instr.sliceAt 9 t0_1 (some (Value.int IntKind.i64 4)) none none)).bind fun v168 =>
      some (Res.norm [v168] r166.2)
    else
    some (Res.ret [(Value.bool false)] r.2)).bind fun (r : Res) => (r.unblock 4).cont fun vs_5 W6 =>
    let t0_6 := nth vs_5 0
    some (Res.norm [t0_6] W6)).bind fun (r : Res) => (r.unblock 1).cont fun vs_6 W7 =>
    let t0_7 := nth vs_6 0
    some (Res.norm [t0_7] W7)
  else
  some (Res.exit 0 [] W1)
noncomputable def f44 (call : CallF) (t0 : Value) (W0 : World) : Option (Value × World) :=
  ((iter (f44.l1 call) [t0] W0).bind fun (r : Res) => (r.unblock 0).cont fun vs_7 W8 =>
  some (Res.ret [(Value.bool true)] W8)).bind Res.done
theorem f44.eq (call dfr : CallF) (t0 : Value) (W0 : World) : aFun Tryd.prog call dfr Tryd.f44 f44.ann (ofArgs #[t0]) W0 = f44 call t0 W0 := by kernel_rfl

/-- slices.IndexFunc[[]uint16,uint16] -/
def f47.ann : Ann := (.s .z (.s (.s .z (.b [] (.l [0, 1, 7, 8] (.s .z (.s (.c .z .z) (.s (.b [0, 1, 7, 8] (.s .z (.s .z (.c (.s .z .z) .z)))) .z)))))) (.s .z .z)))
noncomputable def f47.l0 (call : CallF) (vs : List Value) (W1 : World) : Option Res :=
  let s0_1 := nth vs 0
  let f1_1 := nth vs 1
  let v7_1 := nth vs 2
  let v8 := nth vs 3
  (bin .lss v8 v7_1).bind fun v9 =>
  (asB v9).bind fun c9 =>
  if c9 then
    ((prun Tryd.prog (Instr.indexAt 38 s0_1 v8)).bind fun v14 =>
    (rrun Tryd.prog (Instr.loadAt 39 v14) W1).bind fun v15 =>
    (callV call f1_1 [v15] W1).bind fun r16 =>
    (asB r16.1).bind fun c16 =>
    if c16 then
      some (Res.ret [v8] r16.2)
    else
    some (Res.norm [s0_1, f1_1, v7_1, v8] r16.2)).bind fun (r : Res) => (r.unblock 1).cont fun vs_1 W2 =>
    let s0_2 := nth vs_1 0
    let f1_2 := nth vs_1 1
    let v7_2 := nth vs_1 2
    let v8_1 := nth vs_1 3
    (bin .add v8_1 (Value.int IntKind.i64 1)).bind fun v18 =>
    some (Res.norm [s0_2, f1_2, v7_2, v18] W2)
  else
  some (Res.exit 0 [] W1)
noncomputable def f47 (call : CallF) (s0 : Value) (f1 : Value) (W0 : World) : Option (Value × World) :=
  ((prun Tryd.prog (Builtin.len_ #[38] 3 #[s0])).bind fun v7 =>
  (iter (f47.l0 call) [s0, f1, v7, (Value.int IntKind.i64 0)] W0).bind fun (r : Res) => (r.unblock 0).cont fun vs_2 W3 =>
  some (Res.ret [(Value.int IntKind.i64 (-1))] W3)).bind Res.done
theorem f47.eq (call dfr : CallF) (s0 : Value) (f1 : Value) (W0 : World) : aFun Tryd.prog call dfr Tryd.f47 f47.ann (ofArgs #[s0, f1]) W0 = f47 call s0 f1 W0 := by kernel_rfl

/-- dailies/timecode.find -/
def f48.ann : Ann := (.s .z (.s (.s .z (.c (.s .z .z) .z)) (.s .z .z)))
noncomputable def f48 (call : CallF) (r0 : Value) (W0 : World) : Option (Value × World) :=
  ((erun Tryd.prog (Instr.alloc 95 true (.tuple #[])) W0).bind fun r2 =>
  (bin .lss r0 (Value.int IntKind.i64 1)).bind fun v5 =>
  (asB v5).bind fun b6 =>
  (if b6 = false then (bin .gtr r0 (Value.int IntKind.i64 7)).bind fun v8 =>
    some (v8, r2.2)
   else some ((Value.bool true), r2.2)).bind fun r9 =>
  (asB r9.1).bind fun c9 =>
  if c9 then
    (prun Tryd.prog (Instr.build 95 #[])).bind fun v10 =>
    (erun Tryd.prog (Instr.storeAt 95 r2.1 v10) r9.2).bind fun r =>
    some (Res.ret [r2.1, (Value.bool false)] r.2)
  else
  (prun Tryd.prog (Instr.indexAt 105 (.pointer (some ⟨2, 0, none⟩)) r0)).bind fun v12 =>
  (rrun Tryd.prog (Instr.loadAt 95 v12) r9.2).bind fun v13 =>
  (erun Tryd.prog (Instr.storeAt 95 r2.1 v13) r9.2).bind fun r_1 =>
  some (Res.ret [r2.1, (Value.bool true)] r_1.2)).bind (Res.doneR Tryd.prog [.cell 2 95, .tmp 3])
theorem f48.eq (call dfr : CallF) (r0 : Value) (W0 : World) : aFun Tryd.prog call dfr Tryd.f48 f48.ann (ofArgs #[r0]) W0 = f48 call r0 W0 := by kernel_rfl

/-- (dailies/timecode.rate).perDay -/
def f49.ann : Ann := (.s .z (.s .z .z))
noncomputable def f49 (call : CallF) (x0 : Value) (W0 : World) : Option (Value × World) :=
  ((erun Tryd.prog (Instr.box 95 x0) W0).bind fun r1 =>
  (rrun Tryd.prog (Instr.loadAt 95 r1.1) r1.2).bind fun v3 =>
  (call 53 #[v3] r1.2).bind fun r4 =>
  (bin .mul (Value.int IntKind.i64 144) r4.1).bind fun v5 =>
  some (Res.ret [v5] r4.2)).bind Res.done
theorem f49.eq (call dfr : CallF) (x0 : Value) (W0 : World) : aFun Tryd.prog call dfr Tryd.f49 f49.ann (ofArgs #[x0]) W0 = f49 call x0 W0 := by kernel_rfl

/-- unicode/utf8.word[string] -/
def f50.ann : Ann := (.s .z (.s (.c (.s .z .z) .z) (.s .z .z)))
noncomputable def f50 (call : CallF) (s0 : Value) (W0 : World) : Option (Value × World) :=
  ((asB (Value.bool false)).bind fun c =>
  if c then
    (prun Tryd.prog (Instr.index 9 s0 (Value.int IntKind.i64 0))).bind fun v4 =>
    (prun Tryd.prog (convert 5 12 v4)).bind fun v5 =>
    (prun Tryd.prog (Instr.index 9 s0 (Value.int IntKind.i64 1))).bind fun v7 =>
    (prun Tryd.prog (convert 5 12 v7)).bind fun v8 =>
    (prun Tryd.prog (do eqGuard .shl 12 (Operand.tmp 8) (Operand.const (Value.int IntKind.u64 8)) v8 (Value.int IntKind.u64 8); binOp .shl 12 v8 (Value.int IntKind.u64 8))).bind fun v9 =>
    (prun Tryd.prog (do eqGuard .or 12 (Operand.tmp 5) (Operand.tmp 9) v5 v9; binOp .or 12 v5 v9)).bind fun v10 =>
    (prun Tryd.prog (Instr.index 9 s0 (Value.int IntKind.i64 2))).bind fun v12 =>
    (prun Tryd.prog (convert 5 12 v12)).bind fun v13 =>
    (prun Tryd.prog (do eqGuard .shl 12 (Operand.tmp 13) (Operand.const (Value.int IntKind.u64 16)) v13 (Value.int IntKind.u64 16); binOp .shl 12 v13 (Value.int IntKind.u64 16))).bind fun v14 =>
    (prun Tryd.prog (do eqGuard .or 12 (Operand.tmp 10) (Operand.tmp 14) v10 v14; binOp .or 12 v10 v14)).bind fun v15 =>
    (prun Tryd.prog (Instr.index 9 s0 (Value.int IntKind.i64 3))).bind fun v17 =>
    (prun Tryd.prog (convert 5 12 v17)).bind fun v18 =>
    (prun Tryd.prog (do eqGuard .shl 12 (Operand.tmp 18) (Operand.const (Value.int IntKind.u64 24)) v18 (Value.int IntKind.u64 24); binOp .shl 12 v18 (Value.int IntKind.u64 24))).bind fun v19 =>
    (prun Tryd.prog (do eqGuard .or 12 (Operand.tmp 15) (Operand.tmp 19) v15 v19; binOp .or 12 v15 v19)).bind fun v20 =>
    some (Res.ret [v20] W0.drew)
  else
  (prun Tryd.prog (Instr.index 9 s0 (Value.int IntKind.i64 0))).bind fun v22 =>
  (prun Tryd.prog (convert 5 106 v22)).bind fun v23 =>
  (prun Tryd.prog (Instr.index 9 s0 (Value.int IntKind.i64 1))).bind fun v25 =>
  (prun Tryd.prog (convert 5 106 v25)).bind fun v26 =>
  (prun Tryd.prog (do eqGuard .shl 106 (Operand.tmp 26) (Operand.const (Value.int IntKind.u64 8)) v26 (Value.int IntKind.u64 8); binOp .shl 106 v26 (Value.int IntKind.u64 8))).bind fun v27 =>
  (prun Tryd.prog (do eqGuard .or 106 (Operand.tmp 23) (Operand.tmp 27) v23 v27; binOp .or 106 v23 v27)).bind fun v28 =>
  (prun Tryd.prog (Instr.index 9 s0 (Value.int IntKind.i64 2))).bind fun v30 =>
  (prun Tryd.prog (convert 5 106 v30)).bind fun v31 =>
  (prun Tryd.prog (do eqGuard .shl 106 (Operand.tmp 31) (Operand.const (Value.int IntKind.u64 16)) v31 (Value.int IntKind.u64 16); binOp .shl 106 v31 (Value.int IntKind.u64 16))).bind fun v32 =>
  (prun Tryd.prog (do eqGuard .or 106 (Operand.tmp 28) (Operand.tmp 32) v28 v32; binOp .or 106 v28 v32)).bind fun v33 =>
  (prun Tryd.prog (Instr.index 9 s0 (Value.int IntKind.i64 3))).bind fun v35 =>
  (prun Tryd.prog (convert 5 106 v35)).bind fun v36 =>
  (prun Tryd.prog (do eqGuard .shl 106 (Operand.tmp 36) (Operand.const (Value.int IntKind.u64 24)) v36 (Value.int IntKind.u64 24); binOp .shl 106 v36 (Value.int IntKind.u64 24))).bind fun v37 =>
  (prun Tryd.prog (do eqGuard .or 106 (Operand.tmp 33) (Operand.tmp 37) v33 v37; binOp .or 106 v33 v37)).bind fun v38 =>
  (prun Tryd.prog (Instr.index 9 s0 (Value.int IntKind.i64 4))).bind fun v40 =>
  (prun Tryd.prog (convert 5 106 v40)).bind fun v41 =>
  (prun Tryd.prog (do eqGuard .shl 106 (Operand.tmp 41) (Operand.const (Value.int IntKind.u64 32)) v41 (Value.int IntKind.u64 32); binOp .shl 106 v41 (Value.int IntKind.u64 32))).bind fun v42 =>
  (prun Tryd.prog (do eqGuard .or 106 (Operand.tmp 38) (Operand.tmp 42) v38 v42; binOp .or 106 v38 v42)).bind fun v43 =>
  (prun Tryd.prog (Instr.index 9 s0 (Value.int IntKind.i64 5))).bind fun v45 =>
  (prun Tryd.prog (convert 5 106 v45)).bind fun v46 =>
  (prun Tryd.prog (do eqGuard .shl 106 (Operand.tmp 46) (Operand.const (Value.int IntKind.u64 40)) v46 (Value.int IntKind.u64 40); binOp .shl 106 v46 (Value.int IntKind.u64 40))).bind fun v47 =>
  (prun Tryd.prog (do eqGuard .or 106 (Operand.tmp 43) (Operand.tmp 47) v43 v47; binOp .or 106 v43 v47)).bind fun v48 =>
  (prun Tryd.prog (Instr.index 9 s0 (Value.int IntKind.i64 6))).bind fun v50 =>
  (prun Tryd.prog (convert 5 106 v50)).bind fun v51 =>
  (prun Tryd.prog (do eqGuard .shl 106 (Operand.tmp 51) (Operand.const (Value.int IntKind.u64 48)) v51 (Value.int IntKind.u64 48); binOp .shl 106 v51 (Value.int IntKind.u64 48))).bind fun v52 =>
  (prun Tryd.prog (do eqGuard .or 106 (Operand.tmp 48) (Operand.tmp 52) v48 v52; binOp .or 106 v48 v52)).bind fun v53 =>
  (prun Tryd.prog (Instr.index 9 s0 (Value.int IntKind.i64 7))).bind fun v55 =>
  (prun Tryd.prog (convert 5 106 v55)).bind fun v56 =>
  (prun Tryd.prog (do eqGuard .shl 106 (Operand.tmp 56) (Operand.const (Value.int IntKind.u64 56)) v56 (Value.int IntKind.u64 56); binOp .shl 106 v56 (Value.int IntKind.u64 56))).bind fun v57 =>
  (prun Tryd.prog (do eqGuard .or 106 (Operand.tmp 53) (Operand.tmp 57) v53 v57; binOp .or 106 v53 v57)).bind fun v58 =>
  some (Res.ret [v58] W0.drew)).bind Res.done
theorem f50.eq (call dfr : CallF) (s0 : Value) (W0 : World) : aFun Tryd.prog call dfr Tryd.f50 f50.ann (ofArgs #[s0]) W0 = f50 call s0 W0 := by kernel_rfl

/-- (dailies/timecode.rate).perTen -/
def f53.ann : Ann := (.s .z (.s .z .z))
noncomputable def f53 (call : CallF) (x0 : Value) (W0 : World) : Option (Value × World) :=
  ((erun Tryd.prog (Instr.box 95 x0) W0).bind fun r1 =>
  (prun Tryd.prog (Instr.fieldAt 95 r1.1 0)).bind fun v3 =>
  (rrun Tryd.prog (Instr.loadAt 3 v3) r1.2).bind fun v4 =>
  (bin .mul (Value.int IntKind.i64 600) v4).bind fun v5 =>
  (prun Tryd.prog (Instr.fieldAt 95 r1.1 3)).bind fun v6 =>
  (rrun Tryd.prog (Instr.loadAt 3 v6) r1.2).bind fun v7 =>
  (bin .mul (Value.int IntKind.i64 9) v7).bind fun v8 =>
  (bin .sub v5 v8).bind fun v9 =>
  some (Res.ret [v9] r1.2)).bind Res.done
theorem f53.eq (call dfr : CallF) (x0 : Value) (W0 : World) : aFun Tryd.prog call dfr Tryd.f53 f53.ann (ofArgs #[x0]) W0 = f53 call x0 W0 := by kernel_rfl

def anns (f : FuncId) : Ann := match f with
  | 4 => f4.ann
  | 5 => f5.ann
  | 6 => f6.ann
  | 7 => f7.ann
  | 8 => f8.ann
  | 9 => f9.ann
  | 10 => f10.ann
  | 11 => f11.ann
  | 12 => f12.ann
  | 13 => f13.ann
  | 14 => f14.ann
  | 15 => f15.ann
  | 16 => f16.ann
  | 17 => f17.ann
  | 18 => f18.ann
  | 19 => f19.ann
  | 20 => f20.ann
  | 21 => f21.ann
  | 22 => f22.ann
  | 23 => f23.ann
  | 24 => f24.ann
  | 25 => f25.ann
  | 26 => f26.ann
  | 27 => f27.ann
  | 28 => f28.ann
  | 29 => f29.ann
  | 34 => f34.ann
  | 35 => f35.ann
  | 36 => f36.ann
  | 37 => f37.ann
  | 38 => f38.ann
  | 39 => f39.ann
  | 40 => f40.ann
  | 41 => f41.ann
  | 42 => f42.ann
  | 43 => f43.ann
  | 44 => f44.ann
  | 47 => f47.ann
  | 48 => f48.ann
  | 49 => f49.ann
  | 50 => f50.ann
  | 53 => f53.ann
  | _ => .z
noncomputable abbrev R (prim : Prim) : CallF := Go.Sh.run Tryd.prog anns prim
theorem f4.run {prim : Prim} {t0 o1 A2 r3 : Value} {w : World} {r : Value × World} (hn : prim.call 4 #[t0, o1, A2, r3] w = none) (h : f4 (R prim) t0 o1 A2 r3 w = some r) : R prim 4 #[t0, o1, A2, r3] w = some r := run_body Tryd.func4 (by kernel_rfl) hn (by rw [show anns 4 = f4.ann from rfl, f4.eq]; exact h)
theorem f5.run {prim : Prim} {w : World} {r : Value × World} (hn : prim.call 5 #[] w = none) (h : f5 (R prim)  w = some r) : R prim 5 #[] w = some r := run_body Tryd.func5 (by kernel_rfl) hn (by rw [show anns 5 = f5.ann from rfl, f5.eq]; exact h)
theorem f6.run {prim : Prim} {f0 : Value} {w : World} {r : Value × World} (hn : prim.call 6 #[f0] w = none) (h : f6 (R prim) f0 w = some r) : R prim 6 #[f0] w = some r := run_body Tryd.func6 (by kernel_rfl) hn (by rw [show anns 6 = f6.ann from rfl, f6.eq]; exact h)
theorem f7.run {prim : Prim} {f0 : Value} {w : World} {r : Value × World} (hn : prim.call 7 #[f0] w = none) (h : f7 (R prim) f0 w = some r) : R prim 7 #[f0] w = some r := run_body Tryd.func7 (by kernel_rfl) hn (by rw [show anns 7 = f7.ann from rfl, f7.eq]; exact h)
theorem f8.run {prim : Prim} {a0 b1 part2 of3 : Value} {w : World} {r : Value × World} (hn : prim.call 8 #[a0, b1, part2, of3] w = none) (h : f8 (R prim) a0 b1 part2 of3 w = some r) : R prim 8 #[a0, b1, part2, of3] w = some r := run_body Tryd.func8 (by kernel_rfl) hn (by rw [show anns 8 = f8.ann from rfl, f8.eq]; exact h)
theorem f9.run {prim : Prim} {x0 f1 : Value} {w : World} {r : Value × World} (hn : prim.call 9 #[x0, f1] w = none) (h : f9 (R prim) x0 f1 w = some r) : R prim 9 #[x0, f1] w = some r := run_body Tryd.func9 (by kernel_rfl) hn (by rw [show anns 9 = f9.ann from rfl, f9.eq]; exact h)
theorem f10.run {prim : Prim} {a0 b1 part2 of3 : Value} {w : World} {r : Value × World} (hn : prim.call 10 #[a0, b1, part2, of3] w = none) (h : f10 (R prim) a0 b1 part2 of3 w = some r) : R prim 10 #[a0, b1, part2, of3] w = some r := run_body Tryd.func10 (by kernel_rfl) hn (by rw [show anns 10 = f10.ann from rfl, f10.eq]; exact h)
theorem f11.run {prim : Prim} {f0 : Value} {w : World} {r : Value × World} (hn : prim.call 11 #[f0] w = none) (h : f11 (R prim) f0 w = some r) : R prim 11 #[f0] w = some r := run_body Tryd.func11 (by kernel_rfl) hn (by rw [show anns 11 = f11.ann from rfl, f11.eq]; exact h)
theorem f12.run {prim : Prim} {a0 b1 : Value} {w : World} {r : Value × World} (hn : prim.call 12 #[a0, b1] w = none) (h : f12 (R prim) a0 b1 w = some r) : R prim 12 #[a0, b1] w = some r := run_body Tryd.func12 (by kernel_rfl) hn (by rw [show anns 12 = f12.ann from rfl, f12.eq]; exact h)
theorem f13.run {prim : Prim} {c0 n1 : Value} {w : World} {r : Value × World} (hn : prim.call 13 #[c0, n1] w = none) (h : f13 (R prim) c0 n1 w = some r) : R prim 13 #[c0, n1] w = some r := run_body Tryd.func13 (by kernel_rfl) hn (by rw [show anns 13 = f13.ann from rfl, f13.eq]; exact h)
theorem f14.run {prim : Prim} {v0 : Value} {w : World} {r : Value × World} (hn : prim.call 14 #[v0] w = none) (h : f14 (R prim) v0 w = some r) : R prim 14 #[v0] w = some r := run_body Tryd.func14 (by kernel_rfl) hn (by rw [show anns 14 = f14.ann from rfl, f14.eq]; exact h)
theorem f15.run {prim : Prim} {l0 reels1 : Value} {w : World} {r : Value × World} (hn : prim.call 15 #[l0, reels1] w = none) (h : f15 (R prim) l0 reels1 w = some r) : R prim 15 #[l0, reels1] w = some r := run_body Tryd.func15 (by kernel_rfl) hn (by rw [show anns 15 = f15.ann from rfl, f15.eq]; exact h)
theorem f16.run {prim : Prim} {f0 : Value} {w : World} {r : Value × World} (hn : prim.call 16 #[f0] w = none) (h : f16 (R prim) f0 w = some r) : R prim 16 #[f0] w = some r := run_body Tryd.func16 (by kernel_rfl) hn (by rw [show anns 16 = f16.ann from rfl, f16.eq]; exact h)
theorem f17.run {prim : Prim} {s0 : Value} {w : World} {r : Value × World} (hn : prim.call 17 #[s0] w = none) (h : f17 (R prim) s0 w = some r) : R prim 17 #[s0] w = some r := run_body Tryd.func17 (by kernel_rfl) hn (by rw [show anns 17 = f17.ann from rfl, f17.eq]; exact h)
theorem f18.run {prim : Prim} {f0 : Value} {w : World} {r : Value × World} (hn : prim.call 18 #[f0] w = none) (h : f18 (R prim) f0 w = some r) : R prim 18 #[f0] w = some r := run_body Tryd.func18 (by kernel_rfl) hn (by rw [show anns 18 = f18.ann from rfl, f18.eq]; exact h)
theorem f19.run {prim : Prim} {t0 o1 : Value} {w : World} {r : Value × World} (hn : prim.call 19 #[t0, o1] w = none) (h : f19 (R prim) t0 o1 w = some r) : R prim 19 #[t0, o1] w = some r := run_body Tryd.func19 (by kernel_rfl) hn (by rw [show anns 19 = f19.ann from rfl, f19.eq]; exact h)
theorem f20.run {prim : Prim} {s0 : Value} {w : World} {r : Value × World} (hn : prim.call 20 #[s0] w = none) (h : f20 (R prim) s0 w = some r) : R prim 20 #[s0] w = some r := run_body Tryd.func20 (by kernel_rfl) hn (by rw [show anns 20 = f20.ann from rfl, f20.eq]; exact h)
theorem f21.run {prim : Prim} {s0 : Value} {w : World} {r : Value × World} (hn : prim.call 21 #[s0] w = none) (h : f21 (R prim) s0 w = some r) : R prim 21 #[s0] w = some r := run_body Tryd.func21 (by kernel_rfl) hn (by rw [show anns 21 = f21.ann from rfl, f21.eq]; exact h)
theorem f22.run {prim : Prim} {s0 plane1 : Value} {w : World} {r : Value × World} (hn : prim.call 22 #[s0, plane1] w = none) (h : f22 (R prim) s0 plane1 w = some r) : R prim 22 #[s0, plane1] w = some r := run_body Tryd.func22 (by kernel_rfl) hn (by rw [show anns 22 = f22.ann from rfl, f22.eq]; exact h)
theorem f23.run {prim : Prim} {l0 depth1 : Value} {w : World} {r : Value × World} (hn : prim.call 23 #[l0, depth1] w = none) (h : f23 (R prim) l0 depth1 w = some r) : R prim 23 #[l0, depth1] w = some r := run_body Tryd.func23 (by kernel_rfl) hn (by rw [show anns 23 = f23.ann from rfl, f23.eq]; exact h)
theorem f24.run {prim : Prim} {s0 : Value} {w : World} {r : Value × World} (hn : prim.call 24 #[s0] w = none) (h : f24 (R prim) s0 w = some r) : R prim 24 #[s0] w = some r := run_body Tryd.func24 (by kernel_rfl) hn (by rw [show anns 24 = f24.ann from rfl, f24.eq]; exact h)
theorem f25.run {prim : Prim} {s0 : Value} {w : World} {r : Value × World} (hn : prim.call 25 #[s0] w = none) (h : f25 (R prim) s0 w = some r) : R prim 25 #[s0] w = some r := run_body Tryd.func25 (by kernel_rfl) hn (by rw [show anns 25 = f25.ann from rfl, f25.eq]; exact h)
theorem f26.run {prim : Prim} {s0 : Value} {w : World} {r : Value × World} (hn : prim.call 26 #[s0] w = none) (h : f26 (R prim) s0 w = some r) : R prim 26 #[s0] w = some r := run_body Tryd.func26 (by kernel_rfl) hn (by rw [show anns 26 = f26.ann from rfl, f26.eq]; exact h)
theorem f27.run {prim : Prim} {s0 plane1 : Value} {w : World} {r : Value × World} (hn : prim.call 27 #[s0, plane1] w = none) (h : f27 (R prim) s0 plane1 w = some r) : R prim 27 #[s0, plane1] w = some r := run_body Tryd.func27 (by kernel_rfl) hn (by rw [show anns 27 = f27.ann from rfl, f27.eq]; exact h)
theorem f28.run {prim : Prim} {l0 depth1 : Value} {w : World} {r : Value × World} (hn : prim.call 28 #[l0, depth1] w = none) (h : f28 (R prim) l0 depth1 w = some r) : R prim 28 #[l0, depth1] w = some r := run_body Tryd.func28 (by kernel_rfl) hn (by rw [show anns 28 = f28.ann from rfl, f28.eq]; exact h)
theorem f29.run {prim : Prim} {l0 : Value} {w : World} {r : Value × World} (hn : prim.call 29 #[l0] w = none) (h : f29 (R prim) l0 w = some r) : R prim 29 #[l0] w = some r := run_body Tryd.func29 (by kernel_rfl) hn (by rw [show anns 29 = f29.ann from rfl, f29.eq]; exact h)
theorem f34.run {prim : Prim} {n0 : Value} {w : World} {r : Value × World} (hn : prim.call 34 #[n0] w = none) (h : f34 (R prim) n0 w = some r) : R prim 34 #[n0] w = some r := run_body Tryd.func34 (by kernel_rfl) hn (by rw [show anns 34 = f34.ann from rfl, f34.eq]; exact h)
theorem f35.run {prim : Prim} {s0 : Value} {w : World} {r : Value × World} (hn : prim.call 35 #[s0] w = none) (h : f35 (R prim) s0 w = some r) : R prim 35 #[s0] w = some r := run_body Tryd.func35 (by kernel_rfl) hn (by rw [show anns 35 = f35.ann from rfl, f35.eq]; exact h)
theorem f36.run {prim : Prim} {n0 : Value} {w : World} {r : Value × World} (hn : prim.call 36 #[n0] w = none) (h : f36 (R prim) n0 w = some r) : R prim 36 #[n0] w = some r := run_body Tryd.func36 (by kernel_rfl) hn (by rw [show anns 36 = f36.ann from rfl, f36.eq]; exact h)
theorem f37.run {prim : Prim} {s0 f1 : Value} {w : World} {r : Value × World} (hn : prim.call 37 #[s0, f1] w = none) (h : f37 (R prim) s0 f1 w = some r) : R prim 37 #[s0, f1] w = some r := run_body Tryd.func37 (by kernel_rfl) hn (by rw [show anns 37 = f37.ann from rfl, f37.eq]; exact h)
theorem f38.run {prim : Prim} {v0 v1 : Value} {w : World} {r : Value × World} (hn : prim.call 38 #[v0, v1] w = none) (h : f38 (R prim) v0 v1 w = some r) : R prim 38 #[v0, v1] w = some r := run_body Tryd.func38 (by kernel_rfl) hn (by rw [show anns 38 = f38.ann from rfl, f38.eq]; exact h)
theorem f39.run {prim : Prim} {s0 : Value} {w : World} {r : Value × World} (hn : prim.call 39 #[s0] w = none) (h : f39 (R prim) s0 w = some r) : R prim 39 #[s0] w = some r := run_body Tryd.func39 (by kernel_rfl) hn (by rw [show anns 39 = f39.ann from rfl, f39.eq]; exact h)
theorem f40.run {prim : Prim} {n0 : Value} {w : World} {r : Value × World} (hn : prim.call 40 #[n0] w = none) (h : f40 (R prim) n0 w = some r) : R prim 40 #[n0] w = some r := run_body Tryd.func40 (by kernel_rfl) hn (by rw [show anns 40 = f40.ann from rfl, f40.eq]; exact h)
theorem f41.run {prim : Prim} {depth0 : Value} {w : World} {r : Value × World} (hn : prim.call 41 #[depth0] w = none) (h : f41 (R prim) depth0 w = some r) : R prim 41 #[depth0] w = some r := run_body Tryd.func41 (by kernel_rfl) hn (by rw [show anns 41 = f41.ann from rfl, f41.eq]; exact h)
theorem f42.run {prim : Prim} {r0 : Value} {w : World} {r : Value × World} (hn : prim.call 42 #[r0] w = none) (h : f42 (R prim) r0 w = some r) : R prim 42 #[r0] w = some r := run_body Tryd.func42 (by kernel_rfl) hn (by rw [show anns 42 = f42.ann from rfl, f42.eq]; exact h)
theorem f43.run {prim : Prim} {event0 e1 : Value} {w : World} {r : Value × World} (hn : prim.call 43 #[event0, e1] w = none) (h : f43 (R prim) event0 e1 w = some r) : R prim 43 #[event0, e1] w = some r := run_body Tryd.func43 (by kernel_rfl) hn (by rw [show anns 43 = f43.ann from rfl, f43.eq]; exact h)
theorem f44.run {prim : Prim} {t0 : Value} {w : World} {r : Value × World} (hn : prim.call 44 #[t0] w = none) (h : f44 (R prim) t0 w = some r) : R prim 44 #[t0] w = some r := run_body Tryd.func44 (by kernel_rfl) hn (by rw [show anns 44 = f44.ann from rfl, f44.eq]; exact h)
theorem f47.run {prim : Prim} {s0 f1 : Value} {w : World} {r : Value × World} (hn : prim.call 47 #[s0, f1] w = none) (h : f47 (R prim) s0 f1 w = some r) : R prim 47 #[s0, f1] w = some r := run_body Tryd.func47 (by kernel_rfl) hn (by rw [show anns 47 = f47.ann from rfl, f47.eq]; exact h)
theorem f48.run {prim : Prim} {r0 : Value} {w : World} {r : Value × World} (hn : prim.call 48 #[r0] w = none) (h : f48 (R prim) r0 w = some r) : R prim 48 #[r0] w = some r := run_body Tryd.func48 (by kernel_rfl) hn (by rw [show anns 48 = f48.ann from rfl, f48.eq]; exact h)
theorem f49.run {prim : Prim} {x0 : Value} {w : World} {r : Value × World} (hn : prim.call 49 #[x0] w = none) (h : f49 (R prim) x0 w = some r) : R prim 49 #[x0] w = some r := run_body Tryd.func49 (by kernel_rfl) hn (by rw [show anns 49 = f49.ann from rfl, f49.eq]; exact h)
theorem f50.run {prim : Prim} {s0 : Value} {w : World} {r : Value × World} (hn : prim.call 50 #[s0] w = none) (h : f50 (R prim) s0 w = some r) : R prim 50 #[s0] w = some r := run_body Tryd.func50 (by kernel_rfl) hn (by rw [show anns 50 = f50.ann from rfl, f50.eq]; exact h)
theorem f53.run {prim : Prim} {x0 : Value} {w : World} {r : Value × World} (hn : prim.call 53 #[x0] w = none) (h : f53 (R prim) x0 w = some r) : R prim 53 #[x0] w = some r := run_body Tryd.func53 (by kernel_rfl) hn (by rw [show anns 53 = f53.ann from rfl, f53.eq]; exact h)

/-! ### facts of the types -/
noncomputable def inf (t : Nat) : TypeInfo := (Tryd.prog.info? t).getD default
@[simp] theorem len9 (ty : TypeId) (s : ByteArray) : prun Tryd.prog (Builtin.len_ #[9] ty #[.string s]) = some (.int .i64 s.size) := len_string Tryd.underlying9 ty s
@[simp] theorem len28 (ty : TypeId) (a : Option Addr) (n c : Nat) : prun Tryd.prog (Builtin.len_ #[28] ty #[.slice a n c]) = some (.int .i64 n) := len_slice Tryd.underlying28 ty a n c
@[simp] theorem len38 (ty : TypeId) (a : Option Addr) (n c : Nat) : prun Tryd.prog (Builtin.len_ #[38] ty #[.slice a n c]) = some (.int .i64 n) := len_slice Tryd.underlying38 ty a n c
@[simp] theorem len44 (ty : TypeId) (a : Option Addr) (n c : Nat) : prun Tryd.prog (Builtin.len_ #[44] ty #[.slice a n c]) = some (.int .i64 n) := len_slice Tryd.underlying44 ty a n c
@[simp] theorem len50 (ty : TypeId) (a : Option Addr) (n c : Nat) : prun Tryd.prog (Builtin.len_ #[50] ty #[.slice a n c]) = some (.int .i64 n) := len_slice Tryd.underlying50 ty a n c
@[simp] theorem ld3 (a : Addr) (w : World) : rrun Tryd.prog (Instr.loadAt 3 (.pointer (some a))) w = w.cell? a := load_one Tryd.underlying3 (by kernel_rfl) a w
@[simp] theorem ld4 (a : Addr) (w : World) : rrun Tryd.prog (Instr.loadAt 4 (.pointer (some a))) w = w.cell? a := load_one Tryd.underlying4 (by kernel_rfl) a w
@[simp] theorem ld5 (a : Addr) (w : World) : rrun Tryd.prog (Instr.loadAt 5 (.pointer (some a))) w = w.cell? a := load_one Tryd.underlying5 (by kernel_rfl) a w
@[simp] theorem ld9 (a : Addr) (w : World) : rrun Tryd.prog (Instr.loadAt 9 (.pointer (some a))) w = w.cell? a := load_one Tryd.underlying9 (by kernel_rfl) a w
theorem inf27 : Tryd.prog.info? 27 = some (inf 27) := by kernel_rfl
theorem size27 : (inf 27).size = 4 := by kernel_rfl
theorem ld27 {a : Addr} {w : World} {v0 v1 v2 v3 : Value} (h0 : w.cell? (a.add 0) = some v0) (h1 : w.cell? (a.add 1) = some v1) (h2 : w.cell? (a.add 2) = some v2) (h3 : w.cell? (a.add 3) = some v3) : rrun Tryd.prog (Instr.loadAt 27 (.pointer (some a))) w = some (.agg #[v0, v1, v2, v3]) := load_agg (vs := [v0, v1, v2, v3]) inf27 (by kernel_rfl) (by rw [size27]; rfl) ⟨h0, h1, h2, h3, trivial⟩
@[simp] theorem ld28 (a : Addr) (w : World) : rrun Tryd.prog (Instr.loadAt 28 (.pointer (some a))) w = w.cell? a := load_one Tryd.underlying28 (by kernel_rfl) a w
theorem inf30 : Tryd.prog.info? 30 = some (inf 30) := by kernel_rfl
theorem size30 : (inf 30).size = 5 := by kernel_rfl
theorem ld30 {a : Addr} {w : World} {v0 v1 v2 v3 v4 : Value} (h0 : w.cell? (a.add 0) = some v0) (h1 : w.cell? (a.add 1) = some v1) (h2 : w.cell? (a.add 2) = some v2) (h3 : w.cell? (a.add 3) = some v3) (h4 : w.cell? (a.add 4) = some v4) : rrun Tryd.prog (Instr.loadAt 30 (.pointer (some a))) w = some (.agg #[v0, v1, v2, v3, v4]) := load_agg (vs := [v0, v1, v2, v3, v4]) inf30 (by kernel_rfl) (by rw [size30]; rfl) ⟨h0, h1, h2, h3, h4, trivial⟩
@[simp] theorem ld38 (a : Addr) (w : World) : rrun Tryd.prog (Instr.loadAt 38 (.pointer (some a))) w = w.cell? a := load_one Tryd.underlying38 (by kernel_rfl) a w
@[simp] theorem ld39 (a : Addr) (w : World) : rrun Tryd.prog (Instr.loadAt 39 (.pointer (some a))) w = w.cell? a := load_one Tryd.underlying39 (by kernel_rfl) a w
@[simp] theorem ld49 (a : Addr) (w : World) : rrun Tryd.prog (Instr.loadAt 49 (.pointer (some a))) w = w.cell? a := load_one Tryd.underlying49 (by kernel_rfl) a w
@[simp] theorem ld50 (a : Addr) (w : World) : rrun Tryd.prog (Instr.loadAt 50 (.pointer (some a))) w = w.cell? a := load_one Tryd.underlying50 (by kernel_rfl) a w
theorem inf52 : Tryd.prog.info? 52 = some (inf 52) := by kernel_rfl
theorem size52 : (inf 52).size = 3 := by kernel_rfl
theorem ld52 {a : Addr} {w : World} {v0 v1 v2 : Value} (h0 : w.cell? (a.add 0) = some v0) (h1 : w.cell? (a.add 1) = some v1) (h2 : w.cell? (a.add 2) = some v2) : rrun Tryd.prog (Instr.loadAt 52 (.pointer (some a))) w = some (.agg #[v0, v1, v2]) := load_agg (vs := [v0, v1, v2]) inf52 (by kernel_rfl) (by rw [size52]; rfl) ⟨h0, h1, h2, trivial⟩
@[simp] theorem ld56 (a : Addr) (w : World) : rrun Tryd.prog (Instr.loadAt 56 (.pointer (some a))) w = w.cell? a := load_one Tryd.underlying56 (by kernel_rfl) a w
theorem inf67 : Tryd.prog.info? 67 = some (inf 67) := by kernel_rfl
theorem size67 : (inf 67).size = 5 := by kernel_rfl
theorem ld67 {a : Addr} {w : World} {v0 v1 v2 v3 v4 : Value} (h0 : w.cell? (a.add 0) = some v0) (h1 : w.cell? (a.add 1) = some v1) (h2 : w.cell? (a.add 2) = some v2) (h3 : w.cell? (a.add 3) = some v3) (h4 : w.cell? (a.add 4) = some v4) : rrun Tryd.prog (Instr.loadAt 67 (.pointer (some a))) w = some (.agg #[v0, v1, v2, v3, v4]) := load_agg (vs := [v0, v1, v2, v3, v4]) inf67 (by kernel_rfl) (by rw [size67]; rfl) ⟨h0, h1, h2, h3, h4, trivial⟩
theorem inf95 : Tryd.prog.info? 95 = some (inf 95) := by kernel_rfl
theorem size95 : (inf 95).size = 4 := by kernel_rfl
theorem ld95 {a : Addr} {w : World} {v0 v1 v2 v3 : Value} (h0 : w.cell? (a.add 0) = some v0) (h1 : w.cell? (a.add 1) = some v1) (h2 : w.cell? (a.add 2) = some v2) (h3 : w.cell? (a.add 3) = some v3) : rrun Tryd.prog (Instr.loadAt 95 (.pointer (some a))) w = some (.agg #[v0, v1, v2, v3]) := load_agg (vs := [v0, v1, v2, v3]) inf95 (by kernel_rfl) (by rw [size95]; rfl) ⟨h0, h1, h2, h3, trivial⟩
theorem inf101 : Tryd.prog.info? 101 = some (inf 101) := by kernel_rfl
theorem size101 : (inf 101).size = 2 := by kernel_rfl
theorem ld101 {a : Addr} {w : World} {v0 v1 : Value} (h0 : w.cell? (a.add 0) = some v0) (h1 : w.cell? (a.add 1) = some v1) : rrun Tryd.prog (Instr.loadAt 101 (.pointer (some a))) w = some (.agg #[v0, v1]) := load_agg (vs := [v0, v1]) inf101 (by kernel_rfl) (by rw [size101]; rfl) ⟨h0, h1, trivial⟩
theorem inf28 : Tryd.prog.info? 28 = some (inf 28) := by kernel_rfl
theorem size28 : (inf 28).size = 1 := by kernel_rfl
theorem st28 {a : Addr} {w : World} {v u : Value} (hv : v.cells = #[v]) (ho : v.oneCell' = true) (hc : w.cell? a = some u) (hf : w.frozen? a = false) : erun Tryd.prog (Instr.storeAt 28 (.pointer (some a)) v) w = some ((), w.setCell a v) := store_one inf28 size28 hv ho hc hf
theorem inf39 : Tryd.prog.info? 39 = some (inf 39) := by kernel_rfl
theorem size39 : (inf 39).size = 1 := by kernel_rfl
theorem st39 {a : Addr} {w : World} {v u : Value} (hv : v.cells = #[v]) (ho : v.oneCell' = true) (hc : w.cell? a = some u) (hf : w.frozen? a = false) : erun Tryd.prog (Instr.storeAt 39 (.pointer (some a)) v) w = some ((), w.setCell a v) := store_one inf39 size39 hv ho hc hf
@[simp] theorem fa27_0 (a : Addr) : prun Tryd.prog (Instr.fieldAt 27 (.pointer (some a)) 0) = some (.pointer (some (a.add 0))) := id (by kernel_rfl)
@[simp] theorem fa27_1 (a : Addr) : prun Tryd.prog (Instr.fieldAt 27 (.pointer (some a)) 1) = some (.pointer (some (a.add 1))) := id (by kernel_rfl)
@[simp] theorem fa27_2 (a : Addr) : prun Tryd.prog (Instr.fieldAt 27 (.pointer (some a)) 2) = some (.pointer (some (a.add 2))) := id (by kernel_rfl)
@[simp] theorem fa27_3 (a : Addr) : prun Tryd.prog (Instr.fieldAt 27 (.pointer (some a)) 3) = some (.pointer (some (a.add 3))) := id (by kernel_rfl)
@[simp] theorem fa30_0 (a : Addr) : prun Tryd.prog (Instr.fieldAt 30 (.pointer (some a)) 0) = some (.pointer (some (a.add 0))) := id (by kernel_rfl)
@[simp] theorem fa30_1 (a : Addr) : prun Tryd.prog (Instr.fieldAt 30 (.pointer (some a)) 1) = some (.pointer (some (a.add 4))) := id (by kernel_rfl)
@[simp] theorem fa52_0 (a : Addr) : prun Tryd.prog (Instr.fieldAt 52 (.pointer (some a)) 0) = some (.pointer (some (a.add 0))) := id (by kernel_rfl)
@[simp] theorem fa52_1 (a : Addr) : prun Tryd.prog (Instr.fieldAt 52 (.pointer (some a)) 1) = some (.pointer (some (a.add 1))) := id (by kernel_rfl)
@[simp] theorem fa52_2 (a : Addr) : prun Tryd.prog (Instr.fieldAt 52 (.pointer (some a)) 2) = some (.pointer (some (a.add 2))) := id (by kernel_rfl)
@[simp] theorem fa67_0 (a : Addr) : prun Tryd.prog (Instr.fieldAt 67 (.pointer (some a)) 0) = some (.pointer (some (a.add 0))) := id (by kernel_rfl)
@[simp] theorem fa67_1 (a : Addr) : prun Tryd.prog (Instr.fieldAt 67 (.pointer (some a)) 1) = some (.pointer (some (a.add 1))) := id (by kernel_rfl)
@[simp] theorem fa67_2 (a : Addr) : prun Tryd.prog (Instr.fieldAt 67 (.pointer (some a)) 2) = some (.pointer (some (a.add 2))) := id (by kernel_rfl)
@[simp] theorem fa67_3 (a : Addr) : prun Tryd.prog (Instr.fieldAt 67 (.pointer (some a)) 3) = some (.pointer (some (a.add 3))) := id (by kernel_rfl)
@[simp] theorem fa95_0 (a : Addr) : prun Tryd.prog (Instr.fieldAt 95 (.pointer (some a)) 0) = some (.pointer (some (a.add 0))) := id (by kernel_rfl)
@[simp] theorem fa95_3 (a : Addr) : prun Tryd.prog (Instr.fieldAt 95 (.pointer (some a)) 3) = some (.pointer (some (a.add 3))) := id (by kernel_rfl)
@[simp] theorem fa101_0 (a : Addr) : prun Tryd.prog (Instr.fieldAt 101 (.pointer (some a)) 0) = some (.pointer (some (a.add 0))) := id (by kernel_rfl)
@[simp] theorem fa101_1 (a : Addr) : prun Tryd.prog (Instr.fieldAt 101 (.pointer (some a)) 1) = some (.pointer (some (a.add 1))) := id (by kernel_rfl)
theorem inf38 : Tryd.prog.info? 38 = some (inf 38) := by kernel_rfl
theorem size38 : (inf 38).size = 1 := by kernel_rfl
theorem ix28 (a : Addr) (n c : Nat) (k : IntKind) (j : Int) (h0 : 0 ≤ j) (h1 : j < n) : prun Tryd.prog (Instr.indexAt 28 (.slice (some a) n c) (.int k j)) = some (.pointer (some (a.add (j.toNat * 1)))) := by
  have h := index_slice Tryd.underlying28 inf38 a n c k j h0 h1
  rwa [size38] at h
theorem ix38 (a : Addr) (n c : Nat) (k : IntKind) (j : Int) (h0 : 0 ≤ j) (h1 : j < n) : prun Tryd.prog (Instr.indexAt 38 (.slice (some a) n c) (.int k j)) = some (.pointer (some (a.add (j.toNat * 1)))) := by
  have h := index_slice Tryd.underlying38 inf39 a n c k j h0 h1
  rwa [size39] at h
theorem ix50 (a : Addr) (n c : Nat) (k : IntKind) (j : Int) (h0 : 0 ≤ j) (h1 : j < n) : prun Tryd.prog (Instr.indexAt 50 (.slice (some a) n c) (.int k j)) = some (.pointer (some (a.add (j.toNat * 5)))) := by
  have h := index_slice Tryd.underlying50 inf67 a n c k j h0 h1
  rwa [size67] at h
theorem sl38 (a : Option Addr) (n c : Nat) (lo hi mx : Option Value) (l h m : Nat) (hb : prun Tryd.prog (Instr.sliceBounds true n c lo hi mx) = some (l, h, m)) : prun Tryd.prog (Instr.sliceAt 38 (.slice a n c) lo hi mx) = some (.slice (if m = l then a else a.map (·.add (l * 1))) (h - l) (m - l)) := by
  have h := slice_at Tryd.underlying38 inf39 a n c lo hi mx l h m hb
  rwa [size39] at h
theorem sl50 (a : Option Addr) (n c : Nat) (lo hi mx : Option Value) (l h m : Nat) (hb : prun Tryd.prog (Instr.sliceBounds true n c lo hi mx) = some (l, h, m)) : prun Tryd.prog (Instr.sliceAt 50 (.slice a n c) lo hi mx) = some (.slice (if m = l then a else a.map (·.add (l * 5))) (h - l) (m - l)) := by
  have h := slice_at Tryd.underlying50 inf67 a n c lo hi mx l h m hb
  rwa [size67] at h
theorem zero38 : (inf 38).zero = some (.slice none 0 0) := by kernel_rfl
theorem bytes38 : (inf 38).bytes = 24 := id (by kernel_rfl)
theorem ap28 {w : World} {base : Nat} {ty : TypeId} {v : Value} {n : Nat} {xs : List Value} (hown : w.ownsRow base 38 1 v n xs) {A : Option Addr} {m c : Nat} {news : List Value} (hl : news.length = m * 1) (hr : Rd w A news) (hnil : A = none → c = 0) (h1 : ∀ u ∈ news, u.oneCell' = true) (h63 : n + m ≤ maxLen) (hbytes : (n + m) * 24 ≤ 140737488355328) (hbase : base ≤ w.heap.size) :
    ∃ v' w', erun Tryd.prog (Builtin.append_ #[28, 28] ty #[v, .slice A m c]) w = some (v', w') ∧ w'.ownsRow base 38 1 v' (n + m) (xs ++ news) ∧ w.grownBy w' v.ownBlock := e_append Tryd.underlying28 inf38 zero38 size38 bytes38 rfl (by decide) hown hl hr hnil h1 h63 hbytes hbase
theorem zero39 : (inf 39).zero = some (.int .u16 0) := by kernel_rfl
theorem bytes39 : (inf 39).bytes = 2 := id (by kernel_rfl)
theorem ap38 {w : World} {base : Nat} {ty : TypeId} {v : Value} {n : Nat} {xs : List Value} (hown : w.ownsRow base 39 1 v n xs) {A : Option Addr} {m c : Nat} {news : List Value} (hl : news.length = m * 1) (hr : Rd w A news) (hnil : A = none → c = 0) (h1 : ∀ u ∈ news, u.oneCell' = true) (h63 : n + m ≤ maxLen) (hbytes : (n + m) * 2 ≤ 140737488355328) (hbase : base ≤ w.heap.size) :
    ∃ v' w', erun Tryd.prog (Builtin.append_ #[38, 38] ty #[v, .slice A m c]) w = some (v', w') ∧ w'.ownsRow base 39 1 v' (n + m) (xs ++ news) ∧ w.grownBy w' v.ownBlock := e_append Tryd.underlying38 inf39 zero39 size39 bytes39 rfl (by decide) hown hl hr hnil h1 h63 hbytes hbase
theorem inf76 : Tryd.prog.info? 76 = some (inf 76) := by kernel_rfl
theorem size76 : (inf 76).size = 6 := by kernel_rfl
theorem zero76 : (inf 76).zero = some (.agg #[(.string ⟨#[]⟩), (.int .i64 0), (.string ⟨#[]⟩), (.int .i64 0), (.int .i64 0), (.int .i64 0)]) := by kernel_rfl
theorem bytes76 : (inf 76).bytes = 64 := id (by kernel_rfl)
theorem ap44 {w : World} {base : Nat} {ty : TypeId} {v : Value} {n : Nat} {xs : List Value} (hown : w.ownsRow base 76 6 v n xs) {A : Option Addr} {m c : Nat} {news : List Value} (hl : news.length = m * 6) (hr : Rd w A news) (hnil : A = none → c = 0) (h1 : ∀ u ∈ news, u.oneCell' = true) (h63 : n + m ≤ maxLen) (hbytes : (n + m) * 64 ≤ 140737488355328) (hbase : base ≤ w.heap.size) :
    ∃ v' w', erun Tryd.prog (Builtin.append_ #[44, 44] ty #[v, .slice A m c]) w = some (v', w') ∧ w'.ownsRow base 76 6 v' (n + m) (xs ++ news) ∧ w.grownBy w' v.ownBlock := e_append Tryd.underlying44 inf76 zero76 size76 bytes76 rfl (by decide) hown hl hr hnil h1 h63 hbytes hbase
theorem inf3 : Tryd.prog.info? 3 = some (inf 3) := by kernel_rfl
theorem size3 : (inf 3).size = 1 := by kernel_rfl
theorem zero3 : (inf 3).zero = some (.int .i64 0) := by kernel_rfl
theorem bytes3 : (inf 3).bytes = 8 := id (by kernel_rfl)
theorem ap57 {w : World} {base : Nat} {ty : TypeId} {v : Value} {n : Nat} {xs : List Value} (hown : w.ownsRow base 3 1 v n xs) {A : Option Addr} {m c : Nat} {news : List Value} (hl : news.length = m * 1) (hr : Rd w A news) (hnil : A = none → c = 0) (h1 : ∀ u ∈ news, u.oneCell' = true) (h63 : n + m ≤ maxLen) (hbytes : (n + m) * 8 ≤ 140737488355328) (hbase : base ≤ w.heap.size) :
    ∃ v' w', erun Tryd.prog (Builtin.append_ #[57, 57] ty #[v, .slice A m c]) w = some (v', w') ∧ w'.ownsRow base 3 1 v' (n + m) (xs ++ news) ∧ w.grownBy w' v.ownBlock := e_append Tryd.underlying57 inf3 zero3 size3 bytes3 rfl (by decide) hown hl hr hnil h1 h63 hbytes hbase
theorem mk38 {w : World} (base : Nat) (n : Nat) (hbytes : 2 * n ≤ 281474976710656) (h63 : n ≤ maxLen) (hbase : base ≤ w.heap.size) :
    ∃ w', erun Tryd.prog (Instr.makeSlice 38 (.int .i64 (n : Int)) (.int .i64 (n : Int))) w = some (.slice (some ⟨w.heap.size, 0, none⟩) n n, w') ∧ w'.ownsRow base 39 1 (.slice (some ⟨w.heap.size, 0, none⟩) n n) n (madeCells ((.int .u16 0) : Value).cells (n * 1)).toList ∧ w.grownBy w' none := e_make Tryd.underlying38 inf39 zero39 size39 .i64 .i64 n (by rw [bytes39]; exact hbytes) h63 hbase
@[simp] theorem bs28_0 (w : World) : erun Tryd.prog (Instr.buildSlice 28 0 #[]) w = some (.slice (some ⟨w.heap.size, 0, none⟩) 0 0, w.alloc (.cells #[] 38)) := id (by kernel_rfl)
@[simp] theorem bs38_0 (w : World) : erun Tryd.prog (Instr.buildSlice 38 0 #[]) w = some (.slice (some ⟨w.heap.size, 0, none⟩) 0 0, w.alloc (.cells #[] 39)) := id (by kernel_rfl)
@[simp] theorem bs44_0 (w : World) : erun Tryd.prog (Instr.buildSlice 44 0 #[]) w = some (.slice (some ⟨w.heap.size, 0, none⟩) 0 0, w.alloc (.cells #[] 76)) := id (by kernel_rfl)
@[simp] theorem bs57_0 (w : World) : erun Tryd.prog (Instr.buildSlice 57 0 #[]) w = some (.slice (some ⟨w.heap.size, 0, none⟩) 0 0, w.alloc (.cells #[] 3)) := id (by kernel_rfl)
theorem eqf27 (a0 b0 : Int) (a1 b1 : Int) (a2 b2 : Int) (a3 b3 : Bool) (w : World) : rrun Tryd.prog (Op.eqFields 9999 #[(.int .i64 a0), (.int .i64 a1), (.int .i64 a2), (.bool a3)] #[(.int .i64 b0), (.int .i64 b1), (.int .i64 b2), (.bool b3)] (Tryd.prog.fieldsOf 27).toList) w = some (a0 == b0 && (a1 == b1 && (a2 == b2 && (a3 == b3 && true)))) := by
  simp only [Program.fieldsOf, Tryd.underlying27]
  exact (rr_eqFields_cons w 9999 _ _ _ _ _ _ _ _ (by decide) (by kernel_rfl) (by kernel_rfl) (rr_equalIn_int w 9998 3 .i64 .i64 a0 b0 Tryd.underlying3) (rr_eqFields_cons w 9999 _ _ _ _ _ _ _ _ (by decide) (by kernel_rfl) (by kernel_rfl) (rr_equalIn_int w 9998 3 .i64 .i64 a1 b1 Tryd.underlying3) (rr_eqFields_cons w 9999 _ _ _ _ _ _ _ _ (by decide) (by kernel_rfl) (by kernel_rfl) (rr_equalIn_int w 9998 3 .i64 .i64 a2 b2 Tryd.underlying3) (rr_eqFields_cons w 9999 _ _ _ _ _ _ _ _ (by decide) (by kernel_rfl) (by kernel_rfl) (rr_equalIn_bool w 9998 4 a3 b3 Tryd.underlying4) (rr_eqFields_nil w 9999 _ _)))))
@[simp] theorem neq27_st (x y : Operand) (a0 b0 : Int) (a1 b1 : Int) (a2 b2 : Int) (a3 b3 : Bool) (w : World) : rrun Tryd.prog (do eqGuard .neq 27 x y (.agg #[(.int .i64 a0), (.int .i64 a1), (.int .i64 a2), (.bool a3)]) (.agg #[(.int .i64 b0), (.int .i64 b1), (.int .i64 b2), (.bool b3)]); binOp .neq 27 (.agg #[(.int .i64 a0), (.int .i64 a1), (.int .i64 a2), (.bool a3)]) (.agg #[(.int .i64 b0), (.int .i64 b1), (.int .i64 b2), (.bool b3)])) w = some (.bool (!(a0 == b0 && a1 == b1 && a2 == b2 && a3 == b3))) := by
  have h := rr_neq (P := Tryd.prog) w 27 x y #[(.int .i64 a0), (.int .i64 a1), (.int .i64 a2), (.bool a3)] #[(.int .i64 b0), (.int .i64 b1), (.int .i64 b2), (.bool b3)] _ (by kernel_rfl) (by kernel_rfl) (by kernel_rfl) (eqf27 a0 b0 a1 b1 a2 b2 a3 b3 w)
  simpa only [Bool.and_true, Bool.and_assoc] using h
@[simp] theorem mi86 (x : Value) : prun Tryd.prog (Instr.makeInterface 86 x) = some (.iface 86 x) := id (by kernel_rfl)
end Go.Sh.YtacfghffojijaaaDoor
