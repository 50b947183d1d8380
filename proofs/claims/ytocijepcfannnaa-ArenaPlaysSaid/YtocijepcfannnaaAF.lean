/- The functions of the seat's program as plain ones over the layer 'Sh', written by a program of this session's own; no condition. -/
import Derived.Test.YtocijepcfannnaaProg
import Derived.Test.YtocijepcfannnaaShEq
import Derived.KernelRfl
namespace Go.Sh.Ytocijepcfannnaa
open Go Go.Proofs
set_option linter.unusedVariables false
set_option maxRecDepth 100000

/-- dailies/dailieslaw13.ViewNames -/
def f3.ann : Ann := (.s .z (.s .z (.s .z (.s .z .z))))
noncomputable def f3 (call : CallF)  (W0 : World) : Option (Value × World) :=
  ((call 8 #[] W0).bind fun r3 =>
  (asB r3.1).bind fun b5 =>
  (if b5 = true then some ((Value.bool true), r3.2)
   else some ((Value.bool false), r3.2)).bind fun r7 =>
  (pickV r7.1 (Value.bool true) (Value.bool false)).bind fun v9 =>
  (pickV v9 (Value.bool true) (Value.bool false)).bind fun v11 =>
  (pickV v11 (Value.bool true) (Value.bool false)).bind fun v13 =>
  (pickV v13 (Value.bool true) (Value.bool false)).bind fun v15 =>
  (pickV v15 (Value.bool true) (Value.bool false)).bind fun v17 =>
  some (Res.ret [v17] r7.2)).bind Res.done
theorem f3.eq (call dfr : CallF)  (W0 : World) : aFun Try.prog call dfr Try.f3 f3.ann (ofArgs #[]) W0 = f3 call  W0 := by kernel_rfl

/-- dailies/dailieslaw13.ViewOf -/
def f4.ann : Ann := (.s .z (.s .z (.s .z (.s .z (.s (.s .z (.b [0, 1, 2, 7, 8] (.l [0, 1, 2, 7, 8, 9] (.s (.s .z (.c .z .z)) (.s (.b [0, 1, 2, 7, 8, 9] .z) .z))))) (.s .z (.s (.s .z (.c (.s .z .z) .z)) (.s (.s .z (.b [0, 1, 2, 8, 10] (.l [0, 1, 2, 8, 10, 11] (.s (.s .z (.c .z .z)) (.s (.b [0, 1, 2, 8, 10, 11] (.s (.s .z (.c (.s .z .z) .z)) .z)) .z))))) (.s .z (.s (.s .z (.c (.s .z .z) .z)) (.s .z (.s (.s .z (.c (.s .z .z) .z)) (.s (.s .z (.b [] (.l [0, 1, 2, 10, 15] (.s (.s .z (.c .z .z)) (.s (.b [0, 1, 2, 10, 15] (.s .z (.s .z (.s .z (.s (.s .z (.c (.s .z .z) .z)) (.s (.s .z (.c .z .z)) (.s (.s .z (.c (.s .z .z) .z)) (.s (.s .z (.b [0, 1, 2, 10, 15, 16, 18] (.l [0, 1, 2, 10, 15, 16, 18, 21] (.s (.s .z (.c .z .z)) (.s (.b [0, 1, 2, 10, 15, 16, 18, 21] .z) .z))))) (.s (.s .z (.b [0, 1, 2, 10, 15, 16, 18] (.l [0, 1, 2, 10, 15, 16, 18, 22] (.s (.s .z (.c .z .z)) (.s (.b [0, 1, 2, 10, 15, 16, 18, 22] .z) .z))))) (.s .z (.s (.s .z (.b [0, 1, 2, 10, 15, 18, 23] (.l [0, 1, 2, 10, 15, 18, 23, 24] (.s (.s .z (.c .z .z)) (.s (.b [0, 1, 2, 10, 15, 18, 23, 24] .z) .z))))) (.s .z (.s (.s .z (.b [0, 1, 2, 10, 15, 23, 25] (.l [0, 1, 2, 10, 15, 23, 25, 26] (.s (.s .z (.c .z .z)) (.s (.b [0, 1, 2, 10, 15, 23, 25, 26] .z) .z))))) (.s .z (.b [0, 1, 2, 10, 15] (.l [0, 1, 2, 10, 15, 23, 25, 27] (.s (.s .z (.c .z .z)) (.s (.b [0, 1, 2, 10, 15, 23, 25, 27] (.s .z (.c (.s .z .z) .z))) .z)))))))))))))))))) .z))))) (.s .z .z))))))))))))))
noncomputable def f4.l0 (call : CallF) (vs : List Value) (W1 : World) : Option Res :=
  let t0_1 := nth vs 0
  let o1_1 := nth vs 1
  let A2_1 := nth vs 2
  let v7 := nth vs 3
  let v8 := nth vs 4
  let v9 := nth vs 5
  (prun Try.prog (Builtin.len_ #[23] 3 #[v8])).bind fun v40 =>
  (bin .lss v9 v40).bind fun v41 =>
  (asB v41).bind fun c41 =>
  if c41 then
    ((prun Try.prog (Instr.indexAt 23 v8 v9)).bind fun v46 =>
    (erun Try.prog (Instr.storeAt 5 v46 (Value.int IntKind.u8 167)) W1).bind fun r =>
    some (Res.norm [t0_1, o1_1, A2_1, v7, v8, v9] r.2)).bind fun (r : Res) => (r.unblock 1).cont fun vs_1 W2 =>
    let t0_2 := nth vs_1 0
    let o1_2 := nth vs_1 1
    let A2_2 := nth vs_1 2
    let v7_1 := nth vs_1 3
    let v8_1 := nth vs_1 4
    let v9_1 := nth vs_1 5
    (bin .add v9_1 (Value.int IntKind.i64 1)).bind fun v43 =>
    some (Res.norm [t0_2, o1_2, A2_2, v7_1, v8_1, v43] W2)
  else
  some (Res.exit 0 [t0_1, o1_1, A2_1, v7, v8] W1)
noncomputable def f4.l1 (call : CallF) (vs_3 : List Value) (W4 : World) : Option Res :=
  let t0_4 := nth vs_3 0
  let o1_4 := nth vs_3 1
  let A2_4 := nth vs_3 2
  let v8_3 := nth vs_3 3
  let v10 := nth vs_3 4
  let v11 := nth vs_3 5
  (prun Try.prog (Builtin.len_ #[23] 3 #[v8_3])).bind fun v60 =>
  (bin .lss v11 v60).bind fun v61 =>
  (asB v61).bind fun c61 =>
  if c61 then
    ((prun Try.prog (Builtin.len_ #[23] 3 #[t0_4])).bind fun v66 =>
    (bin .geq v11 v66).bind fun v67 =>
    (asB v67).bind fun b68 =>
    (if b68 = true then (prun Try.prog (Instr.indexAt 23 v8_3 v11)).bind fun v71 =>
      (rrun Try.prog (Instr.loadAt 5 v71) W4.drew).bind fun v72 =>
      (bin .neq v72 (Value.int IntKind.u8 167)).bind fun v73 =>
      some (v73, W4.drew)
     else some ((Value.bool false), W4.drew)).bind fun r74 =>
    (asB r74.1).bind fun b75 =>
    (if b75 = false then (prun Try.prog (Builtin.len_ #[23] 3 #[t0_4])).bind fun v78 =>
      (bin .lss v11 v78).bind fun v79 =>
      (asB v79).bind fun b80 =>
      (if b80 = true then (prun Try.prog (Instr.indexAt 23 v8_3 v11)).bind fun v83 =>
        (rrun Try.prog (Instr.loadAt 5 v83) r74.2).bind fun v84 =>
        (prun Try.prog (Instr.indexAt 23 t0_4 v11)).bind fun v87 =>
        (rrun Try.prog (Instr.loadAt 5 v87) r74.2).bind fun v88 =>
        (bin .neq v84 v88).bind fun v89 =>
        some (v89, r74.2)
       else some ((Value.bool false), r74.2)).bind fun r90 =>
      some (r90.1, r90.2)
     else some ((Value.bool true), r74.2)).bind fun r91 =>
    (asB r91.1).bind fun c91 =>
    if c91 then
      some (Res.ret [(Value.bool false)] r91.2)
    else
    (prun Try.prog (Instr.indexAt 23 v8_3 v11)).bind fun v96 =>
    (rrun Try.prog (Instr.loadAt 5 v96) r91.2).bind fun v97 =>
    (prun Try.prog (do eqGuard .xor 5 (Operand.tmp 97) (Operand.const (Value.int IntKind.u8 51)) v97 (Value.int IntKind.u8 51); binOp .xor 5 v97 (Value.int IntKind.u8 51))).bind fun v98 =>
    (prun Try.prog (Instr.indexAt 23 v8_3 v11)).bind fun v99 =>
    (erun Try.prog (Instr.storeAt 5 v99 v98) r91.2).bind fun r_1 =>
    some (Res.norm [t0_4, o1_4, A2_4, v8_3, v10, v11] r_1.2)).bind fun (r : Res) => (r.unblock 3).cont fun vs_4 W5 =>
    let t0_5 := nth vs_4 0
    let o1_5 := nth vs_4 1
    let A2_5 := nth vs_4 2
    let v8_4 := nth vs_4 3
    let v10_1 := nth vs_4 4
    let v11_1 := nth vs_4 5
    (bin .add v11_1 (Value.int IntKind.i64 1)).bind fun v63 =>
    some (Res.norm [t0_5, o1_5, A2_5, v8_4, v10_1, v63] W5)
  else
  some (Res.exit 2 [t0_4, o1_4, A2_4, v8_3, v10] W4)
noncomputable def f4.l2 (call : CallF) (vs_7 : List Value) (W8 : World) : Option Res :=
  let t0_8 := nth vs_7 0
  let o1_8 := nth vs_7 1
  let A2_8 := nth vs_7 2
  let v10_4 := nth vs_7 3
  let v15_1 := nth vs_7 4
  let v16 := nth vs_7 5
  let v18 := nth vs_7 6
  let v21 := nth vs_7 7
  (prun Try.prog (Builtin.len_ #[23] 3 #[v16])).bind fun v276 =>
  (bin .lss v21 v276).bind fun v277 =>
  (asB v277).bind fun c277 =>
  if c277 then
    ((prun Try.prog (Instr.indexAt 23 v16 v21)).bind fun v282 =>
    (erun Try.prog (Instr.storeAt 5 v282 (Value.int IntKind.u8 1)) W8).bind fun r_2 =>
    some (Res.norm [t0_8, o1_8, A2_8, v10_4, v15_1, v16, v18, v21] r_2.2)).bind fun (r : Res) => (r.unblock 7).cont fun vs_8 W9 =>
    let t0_9 := nth vs_8 0
    let o1_9 := nth vs_8 1
    let A2_9 := nth vs_8 2
    let v10_5 := nth vs_8 3
    let v15_2 := nth vs_8 4
    let v16_1 := nth vs_8 5
    let v18_1 := nth vs_8 6
    let v21_1 := nth vs_8 7
    (bin .add v21_1 (Value.int IntKind.i64 1)).bind fun v279 =>
    some (Res.norm [t0_9, o1_9, A2_9, v10_5, v15_2, v16_1, v18_1, v279] W9)
  else
  some (Res.exit 6 [t0_8, o1_8, A2_8, v10_4, v15_1, v16, v18] W8)
noncomputable def f4.l3 (call : CallF) (vs_10 : List Value) (W11 : World) : Option Res :=
  let t0_11 := nth vs_10 0
  let o1_11 := nth vs_10 1
  let A2_11 := nth vs_10 2
  let v10_7 := nth vs_10 3
  let v15_4 := nth vs_10 4
  let v16_3 := nth vs_10 5
  let v18_3 := nth vs_10 6
  let v22 := nth vs_10 7
  (prun Try.prog (Builtin.len_ #[23] 3 #[v18_3])).bind fun v285 =>
  (bin .lss v22 v285).bind fun v286 =>
  (asB v286).bind fun c286 =>
  if c286 then
    ((prun Try.prog (Instr.indexAt 23 v18_3 v22)).bind fun v291 =>
    (erun Try.prog (Instr.storeAt 5 v291 (Value.int IntKind.u8 2)) W11).bind fun r_3 =>
    some (Res.norm [t0_11, o1_11, A2_11, v10_7, v15_4, v16_3, v18_3, v22] r_3.2)).bind fun (r : Res) => (r.unblock 9).cont fun vs_11 W12 =>
    let t0_12 := nth vs_11 0
    let o1_12 := nth vs_11 1
    let A2_12 := nth vs_11 2
    let v10_8 := nth vs_11 3
    let v15_5 := nth vs_11 4
    let v16_4 := nth vs_11 5
    let v18_4 := nth vs_11 6
    let v22_1 := nth vs_11 7
    (bin .add v22_1 (Value.int IntKind.i64 1)).bind fun v288 =>
    some (Res.norm [t0_12, o1_12, A2_12, v10_8, v15_5, v16_4, v18_4, v288] W12)
  else
  some (Res.exit 8 [t0_11, o1_11, A2_11, v10_7, v15_4, v16_3, v18_3] W11)
noncomputable def f4.l4 (call : CallF) (vs_13 : List Value) (W14 : World) : Option Res :=
  let t0_14 := nth vs_13 0
  let o1_14 := nth vs_13 1
  let A2_14 := nth vs_13 2
  let v10_10 := nth vs_13 3
  let v15_7 := nth vs_13 4
  let v18_6 := nth vs_13 5
  let v23 := nth vs_13 6
  let v24 := nth vs_13 7
  (bin .lss v24 (Value.int IntKind.i64 40)).bind fun v294 =>
  (asB v294).bind fun c294 =>
  if c294 then
    ((erun Try.prog (Instr.buildSlice 23 1 #[(0, (Value.int IntKind.u8 1))]) W14).bind fun r298 =>
    (erun Try.prog (Builtin.append_ #[23, 23] 23 #[v23, r298.1]) r298.2).bind fun r299 =>
    some (Res.norm [t0_14, o1_14, A2_14, v10_10, v15_7, v18_6, r299.1, v24] r299.2)).bind fun (r : Res) => (r.unblock 11).cont fun vs_14 W15 =>
    let t0_15 := nth vs_14 0
    let o1_15 := nth vs_14 1
    let A2_15 := nth vs_14 2
    let v10_11 := nth vs_14 3
    let v15_8 := nth vs_14 4
    let v18_7 := nth vs_14 5
    let v23_1 := nth vs_14 6
    let v24_1 := nth vs_14 7
    (bin .add v24_1 (Value.int IntKind.i64 1)).bind fun v296 =>
    some (Res.norm [t0_15, o1_15, A2_15, v10_11, v15_8, v18_7, v23_1, v296] W15)
  else
  some (Res.exit 10 [t0_14, o1_14, A2_14, v10_10, v15_7, v18_6, v23] W14)
noncomputable def f4.l5 (call : CallF) (vs_16 : List Value) (W17 : World) : Option Res :=
  let t0_17 := nth vs_16 0
  let o1_17 := nth vs_16 1
  let A2_17 := nth vs_16 2
  let v10_13 := nth vs_16 3
  let v15_10 := nth vs_16 4
  let v23_3 := nth vs_16 5
  let v25 := nth vs_16 6
  let v26 := nth vs_16 7
  (bin .lss v26 (Value.int IntKind.i64 40)).bind fun v302 =>
  (asB v302).bind fun c302 =>
  if c302 then
    ((erun Try.prog (Instr.buildSlice 23 1 #[(0, (Value.int IntKind.u8 2))]) W17).bind fun r306 =>
    (erun Try.prog (Builtin.append_ #[23, 23] 23 #[v25, r306.1]) r306.2).bind fun r307 =>
    some (Res.norm [t0_17, o1_17, A2_17, v10_13, v15_10, v23_3, r307.1, v26] r307.2)).bind fun (r : Res) => (r.unblock 13).cont fun vs_17 W18 =>
    let t0_18 := nth vs_17 0
    let o1_18 := nth vs_17 1
    let A2_18 := nth vs_17 2
    let v10_14 := nth vs_17 3
    let v15_11 := nth vs_17 4
    let v23_4 := nth vs_17 5
    let v25_1 := nth vs_17 6
    let v26_1 := nth vs_17 7
    (bin .add v26_1 (Value.int IntKind.i64 1)).bind fun v304 =>
    some (Res.norm [t0_18, o1_18, A2_18, v10_14, v15_11, v23_4, v25_1, v304] W18)
  else
  some (Res.exit 12 [t0_17, o1_17, A2_17, v10_13, v15_10, v23_3, v25] W17)
noncomputable def f4.l6 (call : CallF) (vs_19 : List Value) (W20 : World) : Option Res :=
  let t0_20 := nth vs_19 0
  let o1_20 := nth vs_19 1
  let A2_20 := nth vs_19 2
  let v10_16 := nth vs_19 3
  let v15_13 := nth vs_19 4
  let v23_6 := nth vs_19 5
  let v25_3 := nth vs_19 6
  let v27 := nth vs_19 7
  (prun Try.prog (Builtin.len_ #[23] 3 #[v23_6])).bind fun v310 =>
  (bin .lss v27 v310).bind fun v311 =>
  (asB v311).bind fun c311 =>
  if c311 then
    ((prun Try.prog (Instr.indexAt 23 v23_6 v27)).bind fun v316 =>
    (rrun Try.prog (Instr.loadAt 5 v316) W20).bind fun v317 =>
    (bin .neq v317 (Value.int IntKind.u8 1)).bind fun v318 =>
    (asB v318).bind fun b319 =>
    (if b319 = false then (prun Try.prog (Instr.indexAt 23 v25_3 v27)).bind fun v322 =>
      (rrun Try.prog (Instr.loadAt 5 v322) W20).bind fun v323 =>
      (bin .neq v323 (Value.int IntKind.u8 2)).bind fun v324 =>
      some (v324, W20)
     else some ((Value.bool true), W20)).bind fun r325 =>
    (asB r325.1).bind fun c325 =>
    if c325 then
      some (Res.ret [(Value.bool false)] r325.2)
    else
    some (Res.norm [t0_20, o1_20, A2_20, v10_16, v15_13, v23_6, v25_3, v27] r325.2)).bind fun (r : Res) => (r.unblock 15).cont fun vs_20 W21 =>
    let t0_21 := nth vs_20 0
    let o1_21 := nth vs_20 1
    let A2_21 := nth vs_20 2
    let v10_17 := nth vs_20 3
    let v15_14 := nth vs_20 4
    let v23_7 := nth vs_20 5
    let v25_4 := nth vs_20 6
    let v27_1 := nth vs_20 7
    (bin .add v27_1 (Value.int IntKind.i64 1)).bind fun v313 =>
    some (Res.norm [t0_21, o1_21, A2_21, v10_17, v15_14, v23_7, v25_4, v313] W21)
  else
  some (Res.exit 14 [t0_20, o1_20, A2_20, v10_16, v15_13] W20)
noncomputable def f4.l7 (call : CallF) (vs_6 : List Value) (W7 : World) : Option Res :=
  let t0_7 := nth vs_6 0
  let o1_7 := nth vs_6 1
  let A2_7 := nth vs_6 2
  let v10_3 := nth vs_6 3
  let v15 := nth vs_6 4
  (prun Try.prog (Builtin.len_ #[24] 3 #[o1_7])).bind fun v135 =>
  (bin .lss v15 v135).bind fun v136 =>
  (asB v136).bind fun b137 =>
  (if b137 = true then (prun Try.prog (Builtin.len_ #[24] 3 #[A2_7])).bind fun v140 =>
    (bin .lss v15 v140).bind fun v141 =>
    some (v141, W7)
   else some ((Value.bool false), W7)).bind fun r142 =>
  (asB r142.1).bind fun c142 =>
  if c142 then
    (((prun Try.prog (Instr.indexAt 24 o1_7 v15)).bind fun v149 =>
    some (v149, r142.2.drew)).bind fun r149 =>
    ((rrun Try.prog (Instr.loadAt 3 r149.1) r149.2).bind fun v150 =>
    some (v150, r149.2)).bind fun r150 =>
    ((prun Try.prog (Instr.indexAt 24 A2_7 v15)).bind fun v153 =>
    some (v153, r150.2)).bind fun r153 =>
    ((rrun Try.prog (Instr.loadAt 3 r153.1) r153.2).bind fun v154 =>
    some (v154, r153.2)).bind fun r154 =>
    ((nilV Try.prog (.func (Fn.method "Read") #[v10_3] #[])).bind fun v156 =>
    some (v156, r154.2)).bind fun r156 =>
    ((imethod Try.prog v10_3 "Read" r156.2).bind fun m158 =>
    (call m158.1 #[m158.2, r150.1, r154.1] r156.2).bind fun r158_1 =>
    some (r158_1.1, r158_1.2)).bind fun r158 =>
    ((prun Try.prog (Instr.extract r158.1 0)).bind fun v159 =>
    some (v159, r158.2)).bind fun r159 =>
    ((prun Try.prog (Instr.extract r158.1 1)).bind fun v160 =>
    some (v160, r159.2)).bind fun r160 =>
    chkThen (True)
    (((prun Try.prog (Instr.indexAt 24 o1_7 v15)).bind fun v165 =>
    some (v165, r160.2.drew)).bind fun r165 =>
    ((rrun Try.prog (Instr.loadAt 3 r165.1) r165.2).bind fun v166 =>
    some (v166, r165.2)).bind fun r166 =>
    ((prun Try.prog (Instr.indexAt 24 A2_7 v15)).bind fun v169 =>
    some (v169, r166.2)).bind fun r169 =>
    ((rrun Try.prog (Instr.loadAt 3 r169.1) r169.2).bind fun v170 =>
    some (v170, r169.2)).bind fun r170 =>
    ((nilV Try.prog (.func (Fn.method "Read") #[v10_3] #[])).bind fun v172 =>
    some (v172, r170.2)).bind fun r172 =>
    ((imethod Try.prog v10_3 "Read" r172.2).bind fun m174 =>
    (call m174.1 #[m174.2, r166.1, r170.1] r172.2).bind fun r174_1 =>
    some (r174_1.1, r174_1.2)).bind fun r174 =>
    ((prun Try.prog (Instr.extract r174.1 0)).bind fun v175 =>
    some (v175, r174.2)).bind fun r175 =>
    ((prun Try.prog (Instr.extract r174.1 1)).bind fun v176 =>
    some (v176, r175.2)).bind fun r176 =>
    chkThen (True)
    ((prun Try.prog (Instr.indexAt 24 o1_7 v15)).bind fun v179 =>
    (rrun Try.prog (Instr.loadAt 3 v179) r176.2.drew).bind fun v180 =>
    (bin .geq v180 (Value.int IntKind.i64 0)).bind fun v181 =>
    (asB v181).bind fun b182 =>
    (if b182 = true then (prun Try.prog (Instr.indexAt 24 A2_7 v15)).bind fun v185 =>
      (rrun Try.prog (Instr.loadAt 3 v185) r176.2.drew).bind fun v186 =>
      (bin .geq v186 (Value.int IntKind.i64 0)).bind fun v187 =>
      some (v187, r176.2.drew)
     else some ((Value.bool false), r176.2.drew)).bind fun r188 =>
    (asB r188.1).bind fun b189 =>
    (if b189 = true then (prun Try.prog (Instr.indexAt 24 o1_7 v15)).bind fun v192 =>
      (rrun Try.prog (Instr.loadAt 3 v192) r188.2).bind fun v193 =>
      (prun Try.prog (Builtin.len_ #[23] 3 #[t0_7])).bind fun v195 =>
      (bin .leq v193 v195).bind fun v196 =>
      some (v196, r188.2)
     else some ((Value.bool false), r188.2)).bind fun r197 =>
    (asB r197.1).bind fun b198 =>
    (if b198 = true then (prun Try.prog (Instr.indexAt 24 A2_7 v15)).bind fun v201 =>
      (rrun Try.prog (Instr.loadAt 3 v201) r197.2).bind fun v202 =>
      (prun Try.prog (Builtin.len_ #[23] 3 #[t0_7])).bind fun v204 =>
      (prun Try.prog (Instr.indexAt 24 o1_7 v15)).bind fun v207 =>
      (rrun Try.prog (Instr.loadAt 3 v207) r197.2).bind fun v208 =>
      (bin .sub v204 v208).bind fun v209 =>
      (bin .leq v202 v209).bind fun v210 =>
      some (v210, r197.2)
     else some ((Value.bool false), r197.2)).bind fun r211 =>
    (bin .neq r160.1 r176.1).bind fun v214 =>
    (asB v214).bind fun b215 =>
    (if b215 = false then (bin .eql r160.1 (Value.int IntKind.i64 0)).bind fun v217 =>
      (prun Try.prog (do eqGuard .neq 4 (Operand.tmp 217) (Operand.tmp 218) v217 r211.1; binOp .neq 4 v217 r211.1)).bind fun v219 =>
      some (v219, r211.2)
     else some ((Value.bool true), r211.2)).bind fun r220 =>
    (asB r220.1).bind fun b221 =>
    (if b221 = false then (prun Try.prog (Op.unary .not r211.1)).bind fun v223 =>
      (asB v223).bind fun b224 =>
      (if b224 = true then (bin .neq r160.1 (Value.int IntKind.i64 151)).bind fun v226 =>
        (asB v226).bind fun b227 =>
        (if b227 = false then (prun Try.prog (Builtin.len_ #[23] 3 #[r159.1])).bind fun v229 =>
          (bin .neq v229 (Value.int IntKind.i64 0)).bind fun v230 =>
          some (v230, r220.2)
         else some ((Value.bool true), r220.2)).bind fun r231 =>
        (asB r231.1).bind fun b232 =>
        (if b232 = false then (prun Try.prog (Builtin.len_ #[23] 3 #[r175.1])).bind fun v234 =>
          (bin .neq v234 (Value.int IntKind.i64 0)).bind fun v235 =>
          some (v235, r231.2)
         else some ((Value.bool true), r231.2)).bind fun r236 =>
        some (r236.1, r236.2)
       else some ((Value.bool false), r220.2)).bind fun r237 =>
      some (r237.1, r237.2)
     else some ((Value.bool true), r220.2)).bind fun r238 =>
    (asB r238.1).bind fun b239 =>
    (if b239 = false then (imethod Try.prog v10_3 "Size" r238.2).bind fun m241 =>
      (call m241.1 #[m241.2] r238.2).bind fun r241 =>
      (prun Try.prog (Builtin.len_ #[23] 3 #[t0_7])).bind fun v243 =>
      (bin .neq r241.1 v243).bind fun v244 =>
      some (v244, r241.2)
     else some ((Value.bool true), r238.2)).bind fun r245 =>
    (asB r245.1).bind fun c245 =>
    if c245 then
      some (Res.ret [(Value.bool false)] r245.2)
    else
    (prun Try.prog (Op.unary .not r211.1)).bind fun v247 =>
    (asB v247).bind fun c247 =>
    if c247 then
      some (Res.exit 5 [t0_7, o1_7, A2_7, v10_3, v15] r245.2)
    else
    (rrun Try.prog (convert 23 9 r159.1) r245.2.drew).bind fun v249 =>
    (prun Try.prog (Instr.indexAt 24 o1_7 v15)).bind fun v253 =>
    (rrun Try.prog (Instr.loadAt 3 v253) r245.2.drew).bind fun v254 =>
    (prun Try.prog (Instr.indexAt 24 o1_7 v15)).bind fun v257 =>
    (rrun Try.prog (Instr.loadAt 3 v257) r245.2.drew).bind fun v258 =>
    (prun Try.prog (Instr.indexAt 24 A2_7 v15)).bind fun v261 =>
    (rrun Try.prog (Instr.loadAt 3 v261) r245.2.drew).bind fun v262 =>
    (bin .add v258 v262).bind fun v263 =>
    (prun Try.prog (Instr.sliceAt 23 t0_7 (some v254) (some v263) none)).bind fun v264 =>
    (rrun Try.prog (convert 23 9 v264) r245.2.drew).bind fun v265 =>
    (prun Try.prog (do eqGuard .neq 9 (Operand.tmp 249) (Operand.tmp 265) v249 v265; binOp .neq 9 v249 v265)).bind fun v266 =>
    (asB v266).bind fun b267 =>
    (if b267 = false then (rrun Try.prog (convert 23 9 r175.1) r245.2.drew).bind fun v269 =>
      (rrun Try.prog (convert 23 9 r159.1) r245.2.drew).bind fun v271 =>
      (prun Try.prog (do eqGuard .neq 9 (Operand.tmp 269) (Operand.tmp 271) v269 v271; binOp .neq 9 v269 v271)).bind fun v272 =>
      some (v272, r245.2.drew)
     else some ((Value.bool true), r245.2.drew)).bind fun r273 =>
    (asB r273.1).bind fun c273 =>
    if c273 then
      some (Res.ret [(Value.bool false)] r273.2)
    else
    (iter (f4.l2 call) [t0_7, o1_7, A2_7, v10_3, v15, r159.1, r175.1, (Value.int IntKind.i64 0)] r273.2).bind fun (r : Res) => (r.unblock 6).cont fun vs_9 W10 =>
    let t0_10 := nth vs_9 0
    let o1_10 := nth vs_9 1
    let A2_10 := nth vs_9 2
    let v10_6 := nth vs_9 3
    let v15_3 := nth vs_9 4
    let v16_2 := nth vs_9 5
    let v18_2 := nth vs_9 6
    (iter (f4.l3 call) [t0_10, o1_10, A2_10, v10_6, v15_3, v16_2, v18_2, (Value.int IntKind.i64 0)] W10).bind fun (r : Res) => (r.unblock 8).cont fun vs_12 W13 =>
    let t0_13 := nth vs_12 0
    let o1_13 := nth vs_12 1
    let A2_13 := nth vs_12 2
    let v10_9 := nth vs_12 3
    let v15_6 := nth vs_12 4
    let v16_5 := nth vs_12 5
    let v18_5 := nth vs_12 6
    (iter (f4.l4 call) [t0_13, o1_13, A2_13, v10_9, v15_6, v18_5, v16_5, (Value.int IntKind.i64 0)] W13).bind fun (r : Res) => (r.unblock 10).cont fun vs_15 W16 =>
    let t0_16 := nth vs_15 0
    let o1_16 := nth vs_15 1
    let A2_16 := nth vs_15 2
    let v10_12 := nth vs_15 3
    let v15_9 := nth vs_15 4
    let v18_8 := nth vs_15 5
    let v23_2 := nth vs_15 6
    (iter (f4.l5 call) [t0_16, o1_16, A2_16, v10_12, v15_9, v23_2, v18_8, (Value.int IntKind.i64 0)] W16).bind fun (r : Res) => (r.unblock 12).cont fun vs_18 W19 =>
    let t0_19 := nth vs_18 0
    let o1_19 := nth vs_18 1
    let A2_19 := nth vs_18 2
    let v10_15 := nth vs_18 3
    let v15_12 := nth vs_18 4
    let v23_5 := nth vs_18 5
    let v25_2 := nth vs_18 6
    (iter (f4.l6 call) [t0_19, o1_19, A2_19, v10_15, v15_12, v23_5, v25_2, (Value.int IntKind.i64 0)] W19).bind fun (r : Res) => (r.unblock 14).cont fun vs_21 W22 =>
    let t0_22 := nth vs_21 0
    let o1_22 := nth vs_21 1
    let A2_22 := nth vs_21 2
    let v10_18 := nth vs_21 3
    let v15_15 := nth vs_21 4
    some (Res.norm [t0_22, o1_22, A2_22, v10_18, v15_15] W22)))).bind fun (r : Res) => (r.unblock 5).cont fun vs_22 W23 =>
    let t0_23 := nth vs_22 0
    let o1_23 := nth vs_22 1
    let A2_23 := nth vs_22 2
    let v10_19 := nth vs_22 3
    let v15_16 := nth vs_22 4
    (bin .add v15_16 (Value.int IntKind.i64 1)).bind fun v144 =>
    some (Res.norm [t0_23, o1_23, A2_23, v10_19, v144] W23)
  else
  some (Res.exit 4 [] r142.2)
noncomputable def f4 (call : CallF) (t0 : Value) (o1 : Value) (A2 : Value) (W0 : World) : Option (Value × World) :=
  ((call 8 #[] W0).bind fun r28 =>
  (prun Try.prog (Builtin.len_ #[23] 3 #[t0])).bind fun v30 =>
  (bin .add v30 (Value.int IntKind.i64 20)).bind fun v31 =>
  (erun Try.prog (Instr.makeSlice 23 v31 v31) r28.2).bind fun r32 =>
  (erun Try.prog (Builtin.copy_ #[23, 23] 3 #[r32.1, t0]) r32.2).bind fun r35 =>
  (prun Try.prog (Builtin.len_ #[23] 3 #[t0])).bind fun v37 =>
  (iter (f4.l0 call) [t0, o1, A2, r28.1, r32.1, v37] r35.2).bind fun (r : Res) => (r.unblock 0).cont fun vs_2 W3 =>
  let t0_3 := nth vs_2 0
  let o1_3 := nth vs_2 1
  let A2_3 := nth vs_2 2
  let v7_2 := nth vs_2 3
  let v8_2 := nth vs_2 4
  (prun Try.prog (Builtin.len_ #[23] 3 #[t0_3])).bind fun v49 =>
  (prun Try.prog (Instr.sliceAt 23 v8_2 none (some v49) none)).bind fun v50 =>
  (call 9 #[v50] W3).bind fun r51 =>
  (prun Try.prog (Op.unary .not v7_2)).bind fun v53 =>
  (asB v53).bind fun b54 =>
  (if b54 = false then (rrun Try.prog (do eqGuard .eql 26 (Operand.tmp 55) (Operand.const Value.nilIface) r51.1 Value.nilIface; binOp .eql 26 r51.1 Value.nilIface) r51.2).bind fun v56 =>
    some (v56, r51.2)
   else some ((Value.bool true), r51.2)).bind fun r57 =>
  (asB r57.1).bind fun c57 =>
  if c57 then
    some (Res.ret [(Value.bool false)] r57.2)
  else
  (iter (f4.l1 call) [t0_3, o1_3, A2_3, v8_2, r51.1, (Value.int IntKind.i64 0)] r57.2).bind fun (r : Res) => (r.unblock 2).cont fun vs_5 W6 =>
  let t0_6 := nth vs_5 0
  let o1_6 := nth vs_5 1
  let A2_6 := nth vs_5 2
  let v8_5 := nth vs_5 3
  let v10_2 := nth vs_5 4
  (prun Try.prog (Builtin.len_ #[23] 3 #[t0_6])).bind fun v102 =>
  (prun Try.prog (Instr.sliceAt 23 v8_5 none (some v102) none)).bind fun v103 =>
  (call 9 #[v103] W6).bind fun r104 =>
  (rrun Try.prog (do eqGuard .eql 26 (Operand.tmp 105) (Operand.const Value.nilIface) r104.1 Value.nilIface; binOp .eql 26 r104.1 Value.nilIface) r104.2).bind fun v106 =>
  (asB v106).bind fun b107 =>
  (if b107 = false then (imethod Try.prog r104.1 "Size" r104.2).bind fun m109 =>
    (call m109.1 #[m109.2] r104.2).bind fun r109 =>
    (prun Try.prog (Builtin.len_ #[23] 3 #[t0_6])).bind fun v111 =>
    (bin .neq r109.1 v111).bind fun v112 =>
    some (v112, r109.2)
   else some ((Value.bool true), r104.2)).bind fun r113 =>
  (asB r113.1).bind fun c113 =>
  if c113 then
    some (Res.ret [(Value.bool false)] r113.2)
  else
  (prun Try.prog (Builtin.len_ #[23] 3 #[t0_6])).bind fun v117 =>
  (imethod Try.prog r104.1 "Read" r113.2).bind fun m118 =>
  (call m118.1 #[m118.2, (Value.int IntKind.i64 0), v117] r113.2).bind fun r118 =>
  (prun Try.prog (Instr.extract r118.1 0)).bind fun v119 =>
  (prun Try.prog (Instr.extract r118.1 1)).bind fun v120 =>
  (bin .neq v120 (Value.int IntKind.i64 0)).bind fun v122 =>
  (asB v122).bind fun b123 =>
  (if b123 = false then (rrun Try.prog (convert 23 9 v119) r118.2.drew).bind fun v125 =>
    (prun Try.prog (Builtin.len_ #[23] 3 #[t0_6])).bind fun v128 =>
    (prun Try.prog (Instr.sliceAt 23 v8_5 none (some v128) none)).bind fun v129 =>
    (rrun Try.prog (convert 23 9 v129) r118.2.drew).bind fun v130 =>
    (prun Try.prog (do eqGuard .neq 9 (Operand.tmp 125) (Operand.tmp 130) v125 v130; binOp .neq 9 v125 v130)).bind fun v131 =>
    some (v131, r118.2.drew)
   else some ((Value.bool true), r118.2.drew)).bind fun r132 =>
  (asB r132.1).bind fun c132 =>
  if c132 then
    some (Res.ret [(Value.bool false)] r132.2)
  else
  (iter (f4.l7 call) [t0_6, o1_6, A2_6, v10_2, (Value.int IntKind.i64 0)] r132.2).bind fun (r : Res) => (r.unblock 4).cont fun vs_23 W24 =>
  some (Res.ret [(Value.bool true)] W24)).bind Res.done
theorem f4.eq (call dfr : CallF) (t0 : Value) (o1 : Value) (A2 : Value) (W0 : World) : aFun Try.prog call dfr Try.f4 f4.ann (ofArgs #[t0, o1, A2]) W0 = f4 call t0 o1 A2 W0 := by kernel_rfl

/-- dailies/dailieslaw11.ArenaGreat -/
def f5.ann : Ann := (.s .z (.s .z (.s .z (.s .z (.s .z (.s (.s .z (.c (.s .z .z) .z)) (.s .z (.s .z (.s (.s .z (.c (.s .z .z) .z)) (.s .z (.s .z (.s .z (.s (.s .z (.j [0, 6, 7, 9, 12, 13, 14, 15] .z .z)) (.s (.s .z (.c (.s .z .z) .z)) (.s .z (.s .z (.s .z .z)))))))))))))))))
noncomputable def f5 (call : CallF) (t0 : Value) (o1 : Value) (W0 : World) : Option (Value × World) :=
  ((call 10 #[] W0).bind fun r19 =>
  (call 11 #[t0, (Value.int IntKind.i64 33554432)] r19.2).bind fun r21 =>
  (bin .mul (Value.int IntKind.i64 2) r21.1).bind fun v23 =>
  (call 11 #[o1, (Value.int IntKind.i64 3)] r21.2).bind fun r25 =>
  (bin .sub v23 r25.1).bind fun v26 =>
  (prun Try.prog (Builtin.max_ #[3, 3] 3 #[(Value.int IntKind.i64 0), v26])).bind fun v27 =>
  (call 12 #[v27] r25.2).bind fun r30 =>
  (prun Try.prog (Instr.extract r30.1 0)).bind fun v31 =>
  (prun Try.prog (Instr.extract r30.1 1)).bind fun v32 =>
  (prun Try.prog (Op.unary .not r19.1)).bind fun v34 =>
  (asB v34).bind fun b35 =>
  (if b35 = false then (rrun Try.prog (do eqGuard .eql 34 (Operand.tmp 36) (Operand.const (Value.pointer none)) v31 (Value.pointer none); binOp .eql 34 v31 (Value.pointer none)) r30.2).bind fun v37 =>
    some (v37, r30.2)
   else some ((Value.bool true), r30.2)).bind fun r38 =>
  (asB r38.1).bind fun b39 =>
  (if b39 = false then (bin .neq v32 (Value.int IntKind.i64 0)).bind fun v41 =>
    some (v41, r38.2)
   else some ((Value.bool true), r38.2)).bind fun r42 =>
  (asB r42.1).bind fun c42 =>
  if c42 then
    some (Res.ret [(Value.bool false)] r42.2)
  else
  (call 13 #[v31, r21.1] r42.2).bind fun r46 =>
  (prun Try.prog (Instr.extract r46.1 0)).bind fun v47 =>
  (prun Try.prog (Instr.extract r46.1 1)).bind fun v48 =>
  (bin .mul (Value.int IntKind.i64 2) r21.1).bind fun v50 =>
  (bin .leq v50 v27).bind fun v52 =>
  (bin .eql v48 (Value.int IntKind.i64 0)).bind fun v54 =>
  (prun Try.prog (do eqGuard .neq 4 (Operand.tmp 54) (Operand.tmp 55) v54 v52; binOp .neq 4 v54 v52)).bind fun v56 =>
  (asB v56).bind fun b57 =>
  (if b57 = false then (asB v52).bind fun b59 =>
    (if b59 = true then (prun Try.prog (Builtin.len_ #[37] 3 #[v47])).bind fun v61 =>
      (bin .neq v61 r21.1).bind fun v63 =>
      some (v63, r46.2)
     else some ((Value.bool false), r46.2)).bind fun r64 =>
    some (r64.1, r64.2)
   else some ((Value.bool true), r46.2)).bind fun r65 =>
  (asB r65.1).bind fun b66 =>
  (if b66 = false then (prun Try.prog (Op.unary .not v52)).bind fun v68 =>
    (asB v68).bind fun b69 =>
    (if b69 = true then (bin .neq v48 (Value.int IntKind.i64 111)).bind fun v71 =>
      some (v71, r65.2)
     else some ((Value.bool false), r65.2)).bind fun r72 =>
    some (r72.1, r72.2)
   else some ((Value.bool true), r65.2)).bind fun r73 =>
  (asB r73.1).bind fun c73 =>
  if c73 then
    some (Res.ret [(Value.bool false)] r73.2)
  else
  (call 14 #[v31, (Value.int IntKind.i64 0)] r73.2).bind fun r75 =>
  (call 15 #[v31, r21.1] r75.2).bind fun r79 =>
  (prun Try.prog (Instr.extract r79.1 0)).bind fun v80 =>
  (prun Try.prog (Instr.extract r79.1 1)).bind fun v81 =>
  (bin .leq r21.1 v27).bind fun v84 =>
  (asB v84).bind fun c84 =>
  (if c84 then
    some (Res.norm [r21.1, v27, v31, v47, r75.1, v80, v81, r21.1] r79.2)
   else
    some (Res.norm [r21.1, v27, v31, v47, r75.1, v80, v81, (Value.int IntKind.i64 0)] r79.2)).bind fun (r : Res) => r.cont fun vs W1 =>
  let t0_1 := nth vs 0
  let y6 := nth vs 1
  let v7 := nth vs 2
  let v9 := nth vs 3
  let v12 := nth vs 4
  let v13 := nth vs 5
  let v14 := nth vs 6
  let v15 := nth vs 7
  (bin .neq v12 (Value.int IntKind.i64 0)).bind fun v87 =>
  (asB v87).bind fun b88 =>
  (if b88 = false then (bin .eql v14 (Value.int IntKind.i64 0)).bind fun v90 =>
    (bin .leq t0_1 y6).bind fun v93 =>
    (prun Try.prog (do eqGuard .neq 4 (Operand.tmp 90) (Operand.tmp 93) v90 v93; binOp .neq 4 v90 v93)).bind fun v94 =>
    some (v94, W1)
   else some ((Value.bool true), W1)).bind fun r95 =>
  (asB r95.1).bind fun b96 =>
  (if b96 = false then (prun Try.prog (Builtin.len_ #[23] 3 #[v13])).bind fun v98 =>
    (bin .neq v98 v15).bind fun v100 =>
    some (v100, r95.2)
   else some ((Value.bool true), r95.2)).bind fun r101 =>
  (asB r101.1).bind fun b102 =>
  (if b102 = false then (bin .neq v14 (Value.int IntKind.i64 0)).bind fun v104 =>
    (asB v104).bind fun b105 =>
    (if b105 = true then (bin .neq v14 (Value.int IntKind.i64 111)).bind fun v107 =>
      some (v107, r101.2)
     else some ((Value.bool false), r101.2)).bind fun r108 =>
    some (r108.1, r108.2)
   else some ((Value.bool true), r101.2)).bind fun r109 =>
  (asB r109.1).bind fun b110 =>
  (if b110 = false then (call 16 #[v7] r109.2).bind fun r112 =>
    (bin .neq r112.1 v15).bind fun v114 =>
    some (v114, r112.2)
   else some ((Value.bool true), r109.2)).bind fun r115 =>
  (asB r115.1).bind fun c115 =>
  if c115 then
    some (Res.ret [(Value.bool false)] r115.2)
  else
  (bin .sub y6 v15).bind fun v120 =>
  (bin .add v120 (Value.int IntKind.i64 1)).bind fun v121 =>
  (call 15 #[v7, v121] r115.2).bind fun r122 =>
  (prun Try.prog (Instr.extract r122.1 0)).bind fun v123 =>
  (prun Try.prog (Instr.extract r122.1 1)).bind fun v124 =>
  (call 17 #[v9, (Value.int IntKind.u16 0)] r122.2).bind fun r126 =>
  (asB r126.1).bind fun b127 =>
  (if b127 = true then (call 18 #[v13, (Value.int IntKind.u8 0)] r126.2).bind fun r129 =>
    some (r129.1, r129.2)
   else some ((Value.bool false), r126.2)).bind fun r130 =>
  (asB r130.1).bind fun b132 =>
  (if b132 = true then (bin .eql v124 (Value.int IntKind.i64 111)).bind fun v134 =>
    some (v134, r130.2)
   else some ((Value.bool false), r130.2)).bind fun r135 =>
  some (Res.ret [r135.1] r135.2)).bind Res.done
theorem f5.eq (call dfr : CallF) (t0 : Value) (o1 : Value) (W0 : World) : aFun Try.prog call dfr Try.f5 f5.ann (ofArgs #[t0, o1]) W0 = f5 call t0 o1 W0 := by kernel_rfl

/-- dailies/dailieslaw11.ArenaPlays -/
def f6.ann : Ann := (.s .z (.s .z (.s .z (.s .z (.s (.s .z (.c (.s .z .z) .z)) (.s (.s .z (.b [6] (.l [1, 6, 8] (.s (.s .z (.c .z .z)) (.s (.b [1, 6, 8] (.s .z (.s .z (.s .z (.c (.s .z .z) .z))))) .z))))) (.s .z .z)))))))
noncomputable def f6.l0 (call : CallF) (vs : List Value) (W1 : World) : Option Res :=
  let script1_1 := nth vs 0
  let w6 := nth vs 1
  let i8 := nth vs 2
  (prun Try.prog (Builtin.len_ #[46] 3 #[script1_1])).bind fun v27 =>
  (bin .lss i8 v27).bind fun v28 =>
  (asB v28).bind fun b29 =>
  (if b29 = true then (nilV Try.prog w6).bind fun v31 =>
    (prun Try.prog (Instr.fieldAt 54 v31 5)).bind fun v32 =>
    (rrun Try.prog (Instr.loadAt 3 v32) W1).bind fun v33 =>
    (bin .leq v33 (Value.int IntKind.i64 2147483647)).bind fun v34 =>
    some (v34, W1)
   else some ((Value.bool false), W1)).bind fun r35 =>
  (asB r35.1).bind fun c35 =>
  if c35 then
    ((prun Try.prog (Instr.indexAt 46 script1_1 i8)).bind fun v41 =>
    (rrun Try.prog (Instr.loadAt 57 v41) r35.2).bind fun v42 =>
    (call 19 #[w6, v42] r35.2).bind fun r43 =>
    (call 20 #[w6] r43.2).bind fun r45 =>
    (prun Try.prog (Op.unary .not r43.1)).bind fun v47 =>
    (asB v47).bind fun b48 =>
    (if b48 = false then (prun Try.prog (Op.unary .not r45.1)).bind fun v50 =>
      some (v50, r45.2)
     else some ((Value.bool true), r45.2)).bind fun r51 =>
    (asB r51.1).bind fun c51 =>
    if c51 then
      some (Res.ret [(Value.bool false)] r51.2)
    else
    some (Res.norm [script1_1, w6, i8] r51.2)).bind fun (r : Res) => (r.unblock 1).cont fun vs_1 W2 =>
    let script1_2 := nth vs_1 0
    let w6_1 := nth vs_1 1
    let i8_1 := nth vs_1 2
    (bin .add i8_1 (Value.int IntKind.i64 1)).bind fun v37 =>
    some (Res.norm [script1_2, w6_1, v37] W2)
  else
  some (Res.exit 0 [w6] r35.2)
noncomputable def f6 (call : CallF) (most0 : Value) (script1 : Value) (W0 : World) : Option (Value × World) :=
  ((call 10 #[] W0).bind fun r11 =>
  (prun Try.prog (Instr.build 54 #[])).bind fun v12 =>
  (erun Try.prog (Instr.box 54 v12) r11.2).bind fun r13 =>
  (call 11 #[most0, (Value.int IntKind.i64 1048576)] r13.2).bind fun r16 =>
  (prun Try.prog (Instr.build 57 #[(0, (Value.int IntKind.i64 1)), (2, r16.1)])).bind fun v17 =>
  (call 19 #[r13.1, v17] r16.2).bind fun r18 =>
  (prun Try.prog (Op.unary .not r11.1)).bind fun v20 =>
  (asB v20).bind fun b21 =>
  (if b21 = false then (prun Try.prog (Op.unary .not r18.1)).bind fun v23 =>
    some (v23, r18.2)
   else some ((Value.bool true), r18.2)).bind fun r24 =>
  (asB r24.1).bind fun c24 =>
  if c24 then
    some (Res.ret [(Value.bool false)] r24.2)
  else
  (iter (f6.l0 call) [script1, r13.1, (Value.int IntKind.i64 0)] r24.2).bind fun (r : Res) => (r.unblock 0).cont fun vs_2 W3 =>
  let w6_2 := nth vs_2 0
  (call 21 #[w6_2] W3).bind fun r53 =>
  some (Res.ret [r53.1] r53.2)).bind Res.done
theorem f6.eq (call dfr : CallF) (most0 : Value) (script1 : Value) (W0 : World) : aFun Try.prog call dfr Try.f6 f6.ann (ofArgs #[most0, script1]) W0 = f6 call most0 script1 W0 := by kernel_rfl

/-- dailies/dailieslaw11.ArenaMeter -/
def f7.ann : Ann := (.s .z (.s .z (.s .z (.s .z (.s (.s .z (.c (.s .z .z) .z)) (.s .z (.s .z (.s (.s .z (.b [0, 2, 8, 10, 11] (.l [0, 1, 2, 8, 10, 11, 12] (.s (.s .z (.c .z .z)) (.s (.b [0, 1, 2, 8, 10, 11, 12] (.s .z (.s .z (.s (.s .z (.c (.s .z .z) .z)) (.s (.s .z (.j [0, 1, 2, 8, 10, 11, 12] .z .z)) .z))))) .z))))) (.s .z (.s (.s .z (.b [0, 8, 16] (.l [0, 2, 8, 10, 11, 16, 17] (.s (.s .z (.c .z .z)) (.s (.b [0, 2, 8, 10, 11, 16, 17] (.s .z (.s .z (.s (.s .z (.c (.s .z .z) .z)) (.s (.s .z (.j [0, 2, 8, 10, 11, 16, 17] .z .z)) (.s .z (.s (.s .z (.j [0, 2, 8, 10, 11, 16, 17] (.s .z (.s (.s .z (.c (.s .z .z) .z)) .z)) .z)) (.s .z (.c (.s .z .z) .z))))))))) .z))))) (.s .z (.s .z (.s .z (.s .z .z))))))))))))))
noncomputable def f7.l0 (call : CallF) (vs : List Value) (W1 : World) : Option Res :=
  let t0_1 := nth vs 0
  let o1_1 := nth vs 1
  let A2_1 := nth vs 2
  let v8 := nth vs 3
  let v10 := nth vs 4
  let v11 := nth vs 5
  let v12 := nth vs 6
  (prun Try.prog (Builtin.len_ #[24] 3 #[o1_1])).bind fun v47 =>
  (bin .lss v12 v47).bind fun v48 =>
  (asB v48).bind fun c48 =>
  if c48 then
    ((prun Try.prog (Instr.indexAt 24 o1_1 v12)).bind fun v53 =>
    (rrun Try.prog (Instr.loadAt 3 v53) W1).bind fun v54 =>
    (call 11 #[v54, (Value.int IntKind.i64 1048576)] W1).bind fun r55 =>
    (call 15 #[v8, r55.1] r55.2).bind fun r59 =>
    (prun Try.prog (Instr.extract r59.1 0)).bind fun v60 =>
    (prun Try.prog (Instr.extract r59.1 1)).bind fun v61 =>
    (bin .eql v61 (Value.int IntKind.i64 0)).bind fun v63 =>
    (bin .add v10 r55.1).bind fun v66 =>
    (bin .leq v66 t0_1).bind fun v68 =>
    (prun Try.prog (do eqGuard .neq 4 (Operand.tmp 63) (Operand.tmp 68) v63 v68; binOp .neq 4 v63 v68)).bind fun v69 =>
    (asB v69).bind fun b70 =>
    (if b70 = false then (bin .eql v61 (Value.int IntKind.i64 0)).bind fun v72 =>
      (asB v72).bind fun b73 =>
      (if b73 = true then (prun Try.prog (Builtin.len_ #[23] 3 #[v60])).bind fun v75 =>
        (bin .neq v75 r55.1).bind fun v77 =>
        some (v77, r59.2)
       else some ((Value.bool false), r59.2)).bind fun r78 =>
      some (r78.1, r78.2)
     else some ((Value.bool true), r59.2)).bind fun r79 =>
    (asB r79.1).bind fun c79 =>
    if c79 then
      some (Res.ret [(Value.bool false)] r79.2)
    else
    (bin .eql v61 (Value.int IntKind.i64 0)).bind fun v81 =>
    (asB v81).bind fun c81 =>
    (if c81 then
      (bin .add v10 r55.1).bind fun v84 =>
      some (Res.norm [t0_1, o1_1, A2_1, v8, v84, v11, v12] r79.2)
     else
      some (Res.norm [t0_1, o1_1, A2_1, v8, v10, v11, v12] r79.2)).bind fun (r : Res) => r.cont fun vs_1 W2 =>
    let t0_2 := nth vs_1 0
    let o1_2 := nth vs_1 1
    let A2_2 := nth vs_1 2
    let v8_1 := nth vs_1 3
    let v10_1 := nth vs_1 4
    let v11_1 := nth vs_1 5
    let v12_1 := nth vs_1 6
    (prun Try.prog (Builtin.max_ #[3, 3] 3 #[v11_1, v10_1])).bind fun v87 =>
    some (Res.norm [t0_2, o1_2, A2_2, v8_1, v10_1, v87, v12_1] W2)).bind fun (r : Res) => (r.unblock 1).cont fun vs_2 W3 =>
    let t0_3 := nth vs_2 0
    let o1_3 := nth vs_2 1
    let A2_3 := nth vs_2 2
    let v8_2 := nth vs_2 3
    let v10_2 := nth vs_2 4
    let v11_2 := nth vs_2 5
    let v12_2 := nth vs_2 6
    (bin .add v12_2 (Value.int IntKind.i64 1)).bind fun v50 =>
    some (Res.norm [t0_3, o1_3, A2_3, v8_2, v10_2, v11_2, v50] W3)
  else
  some (Res.exit 0 [t0_1, A2_1, v8, v10, v11] W1)
noncomputable def f7.l1 (call : CallF) (vs_4 : List Value) (W5 : World) : Option Res :=
  let t0_5 := nth vs_4 0
  let A2_5 := nth vs_4 1
  let v8_4 := nth vs_4 2
  let v10_4 := nth vs_4 3
  let v11_4 := nth vs_4 4
  let v16 := nth vs_4 5
  let v17 := nth vs_4 6
  (prun Try.prog (Builtin.len_ #[24] 3 #[A2_5])).bind fun v92 =>
  (bin .lss v17 v92).bind fun v93 =>
  (asB v93).bind fun c93 =>
  if c93 then
    ((prun Try.prog (Instr.indexAt 24 A2_5 v17)).bind fun v98 =>
    (rrun Try.prog (Instr.loadAt 3 v98) W5).bind fun v99 =>
    (call 11 #[v99, (Value.int IntKind.i64 1048576)] W5).bind fun r100 =>
    (call 13 #[v8_4, r100.1] r100.2).bind fun r104 =>
    (prun Try.prog (Instr.extract r104.1 0)).bind fun v105 =>
    (prun Try.prog (Instr.extract r104.1 1)).bind fun v106 =>
    (bin .eql v106 (Value.int IntKind.i64 0)).bind fun v108 =>
    (bin .mul (Value.int IntKind.i64 2) r100.1).bind fun v111 =>
    (bin .add v10_4 v111).bind fun v112 =>
    (bin .leq v112 t0_5).bind fun v114 =>
    (prun Try.prog (do eqGuard .neq 4 (Operand.tmp 108) (Operand.tmp 114) v108 v114; binOp .neq 4 v108 v114)).bind fun v115 =>
    (asB v115).bind fun b116 =>
    (if b116 = false then (bin .eql v106 (Value.int IntKind.i64 0)).bind fun v118 =>
      (asB v118).bind fun b119 =>
      (if b119 = true then (prun Try.prog (Builtin.len_ #[37] 3 #[v105])).bind fun v121 =>
        (bin .neq v121 r100.1).bind fun v123 =>
        some (v123, r104.2)
       else some ((Value.bool false), r104.2)).bind fun r124 =>
      some (r124.1, r124.2)
     else some ((Value.bool true), r104.2)).bind fun r125 =>
    (asB r125.1).bind fun c125 =>
    if c125 then
      some (Res.ret [(Value.bool false)] r125.2)
    else
    (bin .eql v106 (Value.int IntKind.i64 0)).bind fun v127 =>
    (asB v127).bind fun c127 =>
    (if c127 then
      (bin .mul (Value.int IntKind.i64 2) r100.1).bind fun v130 =>
      (bin .add v10_4 v130).bind fun v131 =>
      some (Res.norm [t0_5, A2_5, v8_4, v131, v11_4, v16, v17] r125.2)
     else
      some (Res.norm [t0_5, A2_5, v8_4, v10_4, v11_4, v16, v17] r125.2)).bind fun (r : Res) => r.cont fun vs_5 W6 =>
    let t0_6 := nth vs_5 0
    let A2_6 := nth vs_5 1
    let v8_5 := nth vs_5 2
    let v10_5 := nth vs_5 3
    let v11_5 := nth vs_5 4
    let v16_1 := nth vs_5 5
    let v17_1 := nth vs_5 6
    (prun Try.prog (Builtin.max_ #[3, 3] 3 #[v11_5, v10_5])).bind fun v134 =>
    (bin .rem v17_1 (Value.int IntKind.i64 3)).bind fun v136 =>
    (bin .eql v136 (Value.int IntKind.i64 2)).bind fun v137 =>
    (asB v137).bind fun c137 =>
    (if c137 then
      (call 14 #[v8_5, v16_1] W6).bind fun r140 =>
      (bin .neq r140.1 (Value.int IntKind.i64 0)).bind fun v142 =>
      (asB v142).bind fun b143 =>
      (if b143 = false then (call 16 #[v8_5] r140.2).bind fun r145 =>
        (bin .neq r145.1 v16_1).bind fun v147 =>
        some (v147, r145.2)
       else some ((Value.bool true), r140.2)).bind fun r148 =>
      (asB r148.1).bind fun c148 =>
      if c148 then
        some (Res.ret [(Value.bool false)] r148.2)
      else
      some (Res.norm [t0_6, A2_6, v8_5, v16_1, v134, v16_1, v17_1] r148.2)
     else
      some (Res.norm [t0_6, A2_6, v8_5, v10_5, v134, v16_1, v17_1] W6)).bind fun (r : Res) => r.cont fun vs_6 W7 =>
    let t0_7 := nth vs_6 0
    let A2_7 := nth vs_6 1
    let v8_6 := nth vs_6 2
    let v10_6 := nth vs_6 3
    let v11_6 := nth vs_6 4
    let v16_2 := nth vs_6 5
    let v17_2 := nth vs_6 6
    (call 16 #[v8_6] W7).bind fun r151 =>
    (bin .neq r151.1 v10_6).bind fun v153 =>
    (asB v153).bind fun b154 =>
    (if b154 = false then (call 23 #[v8_6] r151.2).bind fun r156 =>
      (bin .neq r156.1 v11_6).bind fun v158 =>
      some (v158, r156.2)
     else some ((Value.bool true), r151.2)).bind fun r159 =>
    (asB r159.1).bind fun b160 =>
    (if b160 = false then (bin .gtr v11_6 t0_7).bind fun v163 =>
      some (v163, r159.2)
     else some ((Value.bool true), r159.2)).bind fun r164 =>
    (asB r164.1).bind fun c164 =>
    if c164 then
      some (Res.ret [(Value.bool false)] r164.2)
    else
    some (Res.norm [t0_7, A2_7, v8_6, v10_6, v11_6, v16_2, v17_2] r164.2)).bind fun (r : Res) => (r.unblock 3).cont fun vs_7 W8 =>
    let t0_8 := nth vs_7 0
    let A2_8 := nth vs_7 1
    let v8_7 := nth vs_7 2
    let v10_7 := nth vs_7 3
    let v11_7 := nth vs_7 4
    let v16_3 := nth vs_7 5
    let v17_3 := nth vs_7 6
    (bin .add v17_3 (Value.int IntKind.i64 1)).bind fun v95 =>
    some (Res.norm [t0_8, A2_8, v8_7, v10_7, v11_7, v16_3, v95] W8)
  else
  some (Res.exit 2 [t0_5, v8_4, v16] W5)
noncomputable def f7 (call : CallF) (t0 : Value) (o1 : Value) (A2 : Value) (W0 : World) : Option (Value × World) :=
  ((call 10 #[] W0).bind fun r27 =>
  (call 11 #[t0, (Value.int IntKind.i64 1048576)] r27.2).bind fun r29 =>
  (call 12 #[r29.1] r29.2).bind fun r32 =>
  (prun Try.prog (Instr.extract r32.1 0)).bind fun v33 =>
  (prun Try.prog (Instr.extract r32.1 1)).bind fun v34 =>
  (prun Try.prog (Op.unary .not r27.1)).bind fun v36 =>
  (asB v36).bind fun b37 =>
  (if b37 = false then (rrun Try.prog (do eqGuard .eql 34 (Operand.tmp 38) (Operand.const (Value.pointer none)) v33 (Value.pointer none); binOp .eql 34 v33 (Value.pointer none)) r32.2).bind fun v39 =>
    some (v39, r32.2)
   else some ((Value.bool true), r32.2)).bind fun r40 =>
  (asB r40.1).bind fun b41 =>
  (if b41 = false then (bin .neq v34 (Value.int IntKind.i64 0)).bind fun v43 =>
    some (v43, r40.2)
   else some ((Value.bool true), r40.2)).bind fun r44 =>
  (asB r44.1).bind fun c44 =>
  if c44 then
    some (Res.ret [(Value.bool false)] r44.2)
  else
  (iter (f7.l0 call) [r29.1, o1, A2, v33, (Value.int IntKind.i64 0), (Value.int IntKind.i64 0), (Value.int IntKind.i64 0)] r44.2).bind fun (r : Res) => (r.unblock 0).cont fun vs_3 W4 =>
  let t0_4 := nth vs_3 0
  let A2_4 := nth vs_3 1
  let v8_3 := nth vs_3 2
  let v10_3 := nth vs_3 3
  let v11_3 := nth vs_3 4
  (call 22 #[v8_3] W4).bind fun r89 =>
  (iter (f7.l1 call) [t0_4, A2_4, v8_3, v10_3, v11_3, r89.1, (Value.int IntKind.i64 0)] r89.2).bind fun (r : Res) => (r.unblock 2).cont fun vs_8 W9 =>
  let t0_9 := nth vs_8 0
  let v8_8 := nth vs_8 1
  let v16_4 := nth vs_8 2
  (call 14 #[v8_8, v16_4] W9).bind fun r167 =>
  (bin .sub t0_9 v16_4).bind fun v172 =>
  (call 15 #[v8_8, v172] r167.2).bind fun r173 =>
  (prun Try.prog (Instr.extract r173.1 0)).bind fun v174 =>
  (prun Try.prog (Instr.extract r173.1 1)).bind fun v175 =>
  (call 15 #[v8_8, (Value.int IntKind.i64 1)] r173.2).bind fun r178 =>
  (prun Try.prog (Instr.extract r178.1 0)).bind fun v179 =>
  (prun Try.prog (Instr.extract r178.1 1)).bind fun v180 =>
  (bin .eql r167.1 (Value.int IntKind.i64 0)).bind fun v182 =>
  (asB v182).bind fun b183 =>
  (if b183 = true then (bin .eql v175 (Value.int IntKind.i64 0)).bind fun v185 =>
    some (v185, r178.2)
   else some ((Value.bool false), r178.2)).bind fun r186 =>
  (asB r186.1).bind fun b187 =>
  (if b187 = true then (bin .eql v180 (Value.int IntKind.i64 111)).bind fun v189 =>
    some (v189, r186.2)
   else some ((Value.bool false), r186.2)).bind fun r190 =>
  (asB r190.1).bind fun b191 =>
  (if b191 = true then (call 16 #[v8_8] r190.2).bind fun r193 =>
    (bin .eql r193.1 t0_9).bind fun v195 =>
    some (v195, r193.2)
   else some ((Value.bool false), r190.2)).bind fun r196 =>
  (asB r196.1).bind fun b197 =>
  (if b197 = true then (call 23 #[v8_8] r196.2).bind fun r199 =>
    (bin .eql r199.1 t0_9).bind fun v201 =>
    some (v201, r199.2)
   else some ((Value.bool false), r196.2)).bind fun r202 =>
  some (Res.ret [r202.1] r202.2)).bind Res.done
theorem f7.eq (call dfr : CallF) (t0 : Value) (o1 : Value) (A2 : Value) (W0 : World) : aFun Try.prog call dfr Try.f7 f7.ann (ofArgs #[t0, o1, A2]) W0 = f7 call t0 o1 A2 W0 := by kernel_rfl

/-- dailies/dailieslaw13.alive -/
def f8.ann : Ann := (.s .z (.s .z (.s (.s .z (.c (.s .z .z) .z)) (.s .z (.s .z (.s .z .z))))))
noncomputable def f8 (call : CallF)  (W0 : World) : Option (Value × World) :=
  ((erun Try.prog (Instr.buildSlice 23 3 #[(0, (Value.int IntKind.u8 1)), (1, (Value.int IntKind.u8 2)), (2, (Value.int IntKind.u8 3))]) W0).bind fun r6 =>
  (call 9 #[r6.1] r6.2).bind fun r7 =>
  (rrun Try.prog (do eqGuard .eql 26 (Operand.tmp 8) (Operand.const Value.nilIface) r7.1 Value.nilIface; binOp .eql 26 r7.1 Value.nilIface) r7.2).bind fun v9 =>
  (asB v9).bind fun b10 =>
  (if b10 = false then (imethod Try.prog r7.1 "Size" r7.2).bind fun m12 =>
    (call m12.1 #[m12.2] r7.2).bind fun r12 =>
    (bin .neq r12.1 (Value.int IntKind.i64 3)).bind fun v13 =>
    some (v13, r12.2)
   else some ((Value.bool true), r7.2)).bind fun r14 =>
  (asB r14.1).bind fun c14 =>
  if c14 then
    some (Res.ret [(Value.bool false)] r14.2)
  else
  (imethod Try.prog r7.1 "Read" r14.2).bind fun m17 =>
  (call m17.1 #[m17.2, (Value.int IntKind.i64 1), (Value.int IntKind.i64 2)] r14.2).bind fun r17 =>
  (prun Try.prog (Instr.extract r17.1 0)).bind fun v18 =>
  (prun Try.prog (Instr.extract r17.1 1)).bind fun v19 =>
  (call 24 #[(Value.int IntKind.i64 1000), (Value.int IntKind.i64 500)] r17.2).bind fun r21 =>
  (prun Try.prog (Instr.extract r21.1 0)).bind fun v22 =>
  (prun Try.prog (Instr.extract r21.1 1)).bind fun v23 =>
  (bin .eql v19 (Value.int IntKind.i64 0)).bind fun v25 =>
  (asB v25).bind fun b26 =>
  (if b26 = true then (rrun Try.prog (convert 23 9 v18) r21.2).bind fun v28 =>
    (prun Try.prog (do eqGuard .eql 9 (Operand.tmp 28) (Operand.const (Value.string { data := #[2, 3] })) v28 (Value.string { data := #[2, 3] }); binOp .eql 9 v28 (Value.string { data := #[2, 3] }))).bind fun v29 =>
    some (v29, r21.2)
   else some ((Value.bool false), r21.2)).bind fun r30 =>
  (asB r30.1).bind fun b31 =>
  (if b31 = true then (bin .eql v22 (Value.int IntKind.i64 5000)).bind fun v33 =>
    some (v33, r30.2)
   else some ((Value.bool false), r30.2)).bind fun r34 =>
  (asB r34.1).bind fun b35 =>
  (if b35 = true then (bin .eql v23 (Value.int IntKind.i64 0)).bind fun v37 =>
    some (v37, r34.2)
   else some ((Value.bool false), r34.2)).bind fun r38 =>
  some (Res.ret [r38.1] r38.2)).bind Res.done
theorem f8.eq (call dfr : CallF)  (W0 : World) : aFun Try.prog call dfr Try.f8 f8.ann (ofArgs #[]) W0 = f8 call  W0 := by kernel_rfl

/-- dailies/view.Of -/
def f9.ann : Ann := (.s .z (.s .z .z))
noncomputable def f9 (call : CallF) (b0 : Value) (W0 : World) : Option (Value × World) :=
  ((erun Try.prog (Instr.buildSlice 23 0 #[]) W0).bind fun r3 =>
  (erun Try.prog (Builtin.append_ #[23, 23] 23 #[r3.1, b0]) r3.2).bind fun r5 =>
  (prun Try.prog (Instr.build 63 #[(0, r5.1)])).bind fun v6 =>
  (prun Try.prog (Instr.makeInterface 63 v6)).bind fun v7 =>
  some (Res.ret [v7] r5.2)).bind Res.done
theorem f9.eq (call dfr : CallF) (b0 : Value) (W0 : World) : aFun Try.prog call dfr Try.f9 f9.ann (ofArgs #[b0]) W0 = f9 call b0 W0 := by kernel_rfl

/-- dailies/dailieslaw11.awake -/
def f10.ann : Ann := (.s .z (.s .z (.s (.s .z (.c (.s .z .z) .z)) (.s .z (.s .z (.s .z (.s .z .z)))))))
noncomputable def f10 (call : CallF)  (W0 : World) : Option (Value × World) :=
  ((call 12 #[(Value.int IntKind.i64 10)] W0).bind fun r10 =>
  (prun Try.prog (Instr.extract r10.1 0)).bind fun v11 =>
  (prun Try.prog (Instr.extract r10.1 1)).bind fun v12 =>
  (rrun Try.prog (do eqGuard .eql 34 (Operand.tmp 13) (Operand.const (Value.pointer none)) v11 (Value.pointer none); binOp .eql 34 v11 (Value.pointer none)) r10.2).bind fun v14 =>
  (asB v14).bind fun b15 =>
  (if b15 = false then (bin .neq v12 (Value.int IntKind.i64 0)).bind fun v17 =>
    some (v17, r10.2)
   else some ((Value.bool true), r10.2)).bind fun r18 =>
  (asB r18.1).bind fun c18 =>
  if c18 then
    some (Res.ret [(Value.bool false)] r18.2)
  else
  (call 15 #[v11, (Value.int IntKind.i64 4)] r18.2).bind fun r21 =>
  (prun Try.prog (Instr.extract r21.1 0)).bind fun v22 =>
  (prun Try.prog (Instr.extract r21.1 1)).bind fun v23 =>
  (call 13 #[v11, (Value.int IntKind.i64 3)] r21.2).bind fun r26 =>
  (prun Try.prog (Instr.extract r26.1 0)).bind fun v27 =>
  (prun Try.prog (Instr.extract r26.1 1)).bind fun v28 =>
  (call 15 #[v11, (Value.int IntKind.i64 1)] r26.2).bind fun r31 =>
  (prun Try.prog (Instr.extract r31.1 0)).bind fun v32 =>
  (prun Try.prog (Instr.extract r31.1 1)).bind fun v33 =>
  (bin .eql v23 (Value.int IntKind.i64 0)).bind fun v35 =>
  (asB v35).bind fun b36 =>
  (if b36 = true then (bin .eql v28 (Value.int IntKind.i64 0)).bind fun v38 =>
    some (v38, r31.2)
   else some ((Value.bool false), r31.2)).bind fun r39 =>
  (asB r39.1).bind fun b40 =>
  (if b40 = true then (bin .eql v33 (Value.int IntKind.i64 111)).bind fun v42 =>
    some (v42, r39.2)
   else some ((Value.bool false), r39.2)).bind fun r43 =>
  (asB r43.1).bind fun b44 =>
  (if b44 = true then (prun Try.prog (Builtin.len_ #[23] 3 #[v22])).bind fun v46 =>
    (bin .eql v46 (Value.int IntKind.i64 4)).bind fun v47 =>
    some (v47, r43.2)
   else some ((Value.bool false), r43.2)).bind fun r48 =>
  (asB r48.1).bind fun b49 =>
  (if b49 = true then (prun Try.prog (Builtin.len_ #[37] 3 #[v27])).bind fun v51 =>
    (bin .eql v51 (Value.int IntKind.i64 3)).bind fun v52 =>
    some (v52, r48.2)
   else some ((Value.bool false), r48.2)).bind fun r53 =>
  (asB r53.1).bind fun b54 =>
  (if b54 = true then (call 16 #[v11] r53.2).bind fun r56 =>
    (bin .eql r56.1 (Value.int IntKind.i64 10)).bind fun v57 =>
    some (v57, r56.2)
   else some ((Value.bool false), r53.2)).bind fun r58 =>
  some (Res.ret [r58.1] r58.2)).bind Res.done
theorem f10.eq (call dfr : CallF)  (W0 : World) : aFun Try.prog call dfr Try.f10 f10.ann (ofArgs #[]) W0 = f10 call  W0 := by kernel_rfl

/-- dailies/dailieslaw11.pick -/
def f11.ann : Ann := (.s .z (.s (.s .z (.j [0, 1] .z .z)) (.s .z .z)))
noncomputable def f11 (call : CallF) (c0 : Value) (n1 : Value) (W0 : World) : Option (Value × World) :=
  ((bin .lss c0 (Value.int IntKind.i64 0)).bind fun v6 =>
  (asB v6).bind fun c6 =>
  (if c6 then
    (bin .add c0 (Value.int IntKind.i64 1)).bind fun v8 =>
    (prun Try.prog (Op.unary .neg v8)).bind fun v9 =>
    some (Res.norm [v9, n1] W0)
   else
    some (Res.norm [c0, n1] W0)).bind fun (r : Res) => r.cont fun vs W1 =>
  let c0_1 := nth vs 0
  let n1_1 := nth vs 1
  (bin .rem c0_1 n1_1).bind fun v12 =>
  some (Res.ret [v12] W1)).bind Res.done
theorem f11.eq (call dfr : CallF) (c0 : Value) (n1 : Value) (W0 : World) : aFun Try.prog call dfr Try.f11 f11.ann (ofArgs #[c0, n1]) W0 = f11 call c0 n1 W0 := by kernel_rfl

/-- dailies/arena.New -/
def f12.ann : Ann := (.s .z (.s (.s .z (.c (.s .z .z) .z)) (.s .z .z)))
noncomputable def f12 (call : CallF) (most0 : Value) (W0 : World) : Option (Value × World) :=
  ((bin .lss most0 (Value.int IntKind.i64 0)).bind fun v5 =>
  (asB v5).bind fun b6 =>
  (if b6 = false then (bin .gtr most0 (Value.int IntKind.i64 1073741824)).bind fun v8 =>
    some (v8, W0)
   else some ((Value.bool true), W0)).bind fun r9 =>
  (asB r9.1).bind fun c9 =>
  if c9 then
    some (Res.ret [(Value.pointer none), (Value.int IntKind.i64 1)] r9.2)
  else
  (prun Try.prog (Instr.build 65 #[(0, most0)])).bind fun v11 =>
  (erun Try.prog (Instr.box 65 v11) r9.2).bind fun r12 =>
  some (Res.ret [r12.1, (Value.int IntKind.i64 0)] r12.2)).bind Res.done
theorem f12.eq (call dfr : CallF) (most0 : Value) (W0 : World) : aFun Try.prog call dfr Try.f12 f12.ann (ofArgs #[most0]) W0 = f12 call most0 W0 := by kernel_rfl

/-- (*dailies/arena.Arena).Samples -/
def f13.ann : Ann := (.s .z (.s .z .z))
noncomputable def f13 (call : CallF) (a0 : Value) (n1 : Value) (W0 : World) : Option (Value × World) :=
  ((call 25 #[a0, n1, (Value.int IntKind.i64 2)] W0).bind fun r8 =>
  (prun Try.prog (Instr.extract r8.1 0)).bind fun v9 =>
  (prun Try.prog (Instr.extract r8.1 1)).bind fun v10 =>
  some (Res.ret [v9, v10] r8.2)).bind Res.done
theorem f13.eq (call dfr : CallF) (a0 : Value) (n1 : Value) (W0 : World) : aFun Try.prog call dfr Try.f13 f13.ann (ofArgs #[a0, n1]) W0 = f13 call a0 n1 W0 := by kernel_rfl

/-- (*dailies/arena.Arena).Release -/
def f14.ann : Ann := (.s .z (.s (.s .z (.c (.s .z .z) .z)) (.s .z (.s .z .z))))
noncomputable def f14 (call : CallF) (a0 : Value) (mark1 : Value) (W0 : World) : Option (Value × World) :=
  ((bin .lss mark1 (Value.int IntKind.i64 0)).bind fun v6 =>
  (asB v6).bind fun b7 =>
  (if b7 = false then (nilV Try.prog a0).bind fun v10 =>
    (prun Try.prog (Instr.fieldAt 65 v10 1)).bind fun v11 =>
    (rrun Try.prog (Instr.loadAt 3 v11) W0).bind fun v12 =>
    (bin .gtr mark1 v12).bind fun v13 =>
    some (v13, W0)
   else some ((Value.bool true), W0)).bind fun r14 =>
  (asB r14.1).bind fun c14 =>
  if c14 then
    some (Res.ret [(Value.int IntKind.i64 1)] r14.2)
  else
  (nilV Try.prog a0).bind fun v17 =>
  (prun Try.prog (Instr.fieldAt 65 v17 1)).bind fun v18 =>
  (erun Try.prog (Instr.storeAt 3 v18 mark1) r14.2).bind fun r =>
  some (Res.ret [(Value.int IntKind.i64 0)] r.2)).bind Res.done
theorem f14.eq (call dfr : CallF) (a0 : Value) (mark1 : Value) (W0 : World) : aFun Try.prog call dfr Try.f14 f14.ann (ofArgs #[a0, mark1]) W0 = f14 call a0 mark1 W0 := by kernel_rfl

/-- (*dailies/arena.Arena).Bytes -/
def f15.ann : Ann := (.s .z (.s .z .z))
noncomputable def f15 (call : CallF) (a0 : Value) (n1 : Value) (W0 : World) : Option (Value × World) :=
  ((call 26 #[a0, n1, (Value.int IntKind.i64 1)] W0).bind fun r8 =>
  (prun Try.prog (Instr.extract r8.1 0)).bind fun v9 =>
  (prun Try.prog (Instr.extract r8.1 1)).bind fun v10 =>
  some (Res.ret [v9, v10] r8.2)).bind Res.done
theorem f15.eq (call dfr : CallF) (a0 : Value) (n1 : Value) (W0 : World) : aFun Try.prog call dfr Try.f15 f15.ann (ofArgs #[a0, n1]) W0 = f15 call a0 n1 W0 := by kernel_rfl

/-- (*dailies/arena.Arena).Given -/
def f16.ann : Ann := (.s .z (.s .z .z))
noncomputable def f16 (call : CallF) (a0 : Value) (W0 : World) : Option (Value × World) :=
  ((nilV Try.prog a0).bind fun v4 =>
  (prun Try.prog (Instr.fieldAt 65 v4 1)).bind fun v5 =>
  (rrun Try.prog (Instr.loadAt 3 v5) W0).bind fun v6 =>
  some (Res.ret [v6] W0)).bind Res.done
theorem f16.eq (call dfr : CallF) (a0 : Value) (W0 : World) : aFun Try.prog call dfr Try.f16 f16.ann (ofArgs #[a0]) W0 = f16 call a0 W0 := by kernel_rfl

/-- dailies/dailieslaw11.fulls -/
def f17.ann : Ann := (.s .z (.s (.s .z (.b [] (.l [0, 1, 5] (.s (.s .z (.c .z .z)) (.s (.b [0, 1, 5] (.s .z (.c (.s .z .z) .z))) .z))))) (.s .z .z)))
noncomputable def f17.l0 (call : CallF) (vs : List Value) (W1 : World) : Option Res :=
  let l0_1 := nth vs 0
  let m1_1 := nth vs 1
  let i5 := nth vs 2
  (prun Try.prog (Builtin.len_ #[37] 3 #[l0_1])).bind fun v8 =>
  (bin .lss i5 v8).bind fun v9 =>
  (asB v9).bind fun c9 =>
  if c9 then
    ((prun Try.prog (Instr.indexAt 37 l0_1 i5)).bind fun v14 =>
    (rrun Try.prog (Instr.loadAt 43 v14) W1).bind fun v15 =>
    (bin .neq v15 m1_1).bind fun v17 =>
    (asB v17).bind fun c17 =>
    if c17 then
      some (Res.ret [(Value.bool false)] W1)
    else
    some (Res.norm [l0_1, m1_1, i5] W1)).bind fun (r : Res) => (r.unblock 1).cont fun vs_1 W2 =>
    let l0_2 := nth vs_1 0
    let m1_2 := nth vs_1 1
    let i5_1 := nth vs_1 2
    (bin .add i5_1 (Value.int IntKind.i64 1)).bind fun v11 =>
    some (Res.norm [l0_2, m1_2, v11] W2)
  else
  some (Res.exit 0 [] W1)
noncomputable def f17 (call : CallF) (l0 : Value) (m1 : Value) (W0 : World) : Option (Value × World) :=
  ((iter (f17.l0 call) [l0, m1, (Value.int IntKind.i64 0)] W0).bind fun (r : Res) => (r.unblock 0).cont fun vs_2 W3 =>
  some (Res.ret [(Value.bool true)] W3)).bind Res.done
theorem f17.eq (call dfr : CallF) (l0 : Value) (m1 : Value) (W0 : World) : aFun Try.prog call dfr Try.f17 f17.ann (ofArgs #[l0, m1]) W0 = f17 call l0 m1 W0 := by kernel_rfl

/-- dailies/dailieslaw11.full -/
def f18.ann : Ann := (.s .z (.s (.s .z (.b [] (.l [0, 1, 5] (.s (.s .z (.c .z .z)) (.s (.b [0, 1, 5] (.s .z (.c (.s .z .z) .z))) .z))))) (.s .z .z)))
noncomputable def f18.l0 (call : CallF) (vs : List Value) (W1 : World) : Option Res :=
  let l0_1 := nth vs 0
  let m1_1 := nth vs 1
  let i5 := nth vs 2
  (prun Try.prog (Builtin.len_ #[23] 3 #[l0_1])).bind fun v8 =>
  (bin .lss i5 v8).bind fun v9 =>
  (asB v9).bind fun c9 =>
  if c9 then
    ((prun Try.prog (Instr.indexAt 23 l0_1 i5)).bind fun v14 =>
    (rrun Try.prog (Instr.loadAt 5 v14) W1).bind fun v15 =>
    (bin .neq v15 m1_1).bind fun v17 =>
    (asB v17).bind fun c17 =>
    if c17 then
      some (Res.ret [(Value.bool false)] W1)
    else
    some (Res.norm [l0_1, m1_1, i5] W1)).bind fun (r : Res) => (r.unblock 1).cont fun vs_1 W2 =>
    let l0_2 := nth vs_1 0
    let m1_2 := nth vs_1 1
    let i5_1 := nth vs_1 2
    (bin .add i5_1 (Value.int IntKind.i64 1)).bind fun v11 =>
    some (Res.norm [l0_2, m1_2, v11] W2)
  else
  some (Res.exit 0 [] W1)
noncomputable def f18 (call : CallF) (l0 : Value) (m1 : Value) (W0 : World) : Option (Value × World) :=
  ((iter (f18.l0 call) [l0, m1, (Value.int IntKind.i64 0)] W0).bind fun (r : Res) => (r.unblock 0).cont fun vs_2 W3 =>
  some (Res.ret [(Value.bool true)] W3)).bind Res.done
theorem f18.eq (call dfr : CallF) (l0 : Value) (m1 : Value) (W0 : World) : aFun Try.prog call dfr Try.f18 f18.ann (ofArgs #[l0, m1]) W0 = f18 call l0 m1 W0 := by kernel_rfl

/-- (*dailies/dailieslaw11.World).step -/
def f19.ann : Ann := (.s .z (.s (.s .z (.c (.s .z (.s .z (.s (.s .z (.c (.s .z .z) .z)) (.s (.s .z (.j [] (.s .z (.s .z .z)) .z)) (.s .z .z))))) .z)) (.s .z (.s (.s .z (.b [] (.s (.s .z (.j [0, 3, 9, 77, 78] .z .z)) (.c (.s .z .z) (.s .z (.c (.s .z (.s .z .z)) (.s .z (.c (.s .z (.s .z .z)) (.s .z (.c (.s .z .z) .z)))))))))) (.s .z .z)))))
noncomputable def f19 (call : CallF) (t0 : Value) (o1 : Value) (W0 : World) : Option (Value × World) :=
  ((erun Try.prog (Instr.box 57 o1) W0).bind fun r3 =>
  (prun Try.prog (Instr.fieldAt 57 r3.1 0)).bind fun v11 =>
  (rrun Try.prog (Instr.loadAt 3 v11) r3.2).bind fun v12 =>
  (bin .eql v12 (Value.int IntKind.i64 1)).bind fun v13 =>
  (asB v13).bind fun c13 =>
  if c13 then
    (prun Try.prog (Instr.fieldAt 57 r3.1 2)).bind fun v15 =>
    (rrun Try.prog (Instr.loadAt 3 v15) r3.2).bind fun v16 =>
    (call 12 #[v16] r3.2).bind fun r17 =>
    (prun Try.prog (Instr.extract r17.1 0)).bind fun v18 =>
    (prun Try.prog (Instr.extract r17.1 1)).bind fun v19 =>
    (prun Try.prog (Instr.fieldAt 57 r3.1 2)).bind fun v21 =>
    (rrun Try.prog (Instr.loadAt 3 v21) r17.2).bind fun v22 =>
    (call 27 #[v22] r17.2).bind fun r23 =>
    (prun Try.prog (Instr.extract r23.1 0)).bind fun v24 =>
    (prun Try.prog (Instr.extract r23.1 1)).bind fun v25 =>
    (bin .neq v19 v25).bind fun v28 =>
    (asB v28).bind fun b29 =>
    (if b29 = false then (rrun Try.prog (do eqGuard .eql 34 (Operand.tmp 30) (Operand.const (Value.pointer none)) v18 (Value.pointer none); binOp .eql 34 v18 (Value.pointer none)) r23.2).bind fun v31 =>
      (rrun Try.prog (do eqGuard .eql 68 (Operand.tmp 32) (Operand.const (Value.pointer none)) v24 (Value.pointer none); binOp .eql 68 v24 (Value.pointer none)) r23.2).bind fun v33 =>
      (prun Try.prog (do eqGuard .neq 4 (Operand.tmp 31) (Operand.tmp 33) v31 v33; binOp .neq 4 v31 v33)).bind fun v34 =>
      some (v34, r23.2)
     else some ((Value.bool true), r23.2)).bind fun r35 =>
    (asB r35.1).bind fun c35 =>
    if c35 then
      some (Res.ret [(Value.bool false)] r35.2)
    else
    (rrun Try.prog (do eqGuard .neq 34 (Operand.tmp 36) (Operand.const (Value.pointer none)) v18 (Value.pointer none); binOp .neq 34 v18 (Value.pointer none)) r35.2).bind fun v37 =>
    (asB v37).bind fun c37 =>
    (if c37 then
      (nilV Try.prog t0).bind fun v40 =>
      (prun Try.prog (Instr.fieldAt 54 v40 0)).bind fun v41 =>
      (rrun Try.prog (Instr.loadAt 48 v41) r35.2).bind fun v42 =>
      (erun Try.prog (Instr.buildSlice 48 1 #[(0, v18)]) r35.2).bind fun r44 =>
      (erun Try.prog (Builtin.append_ #[48, 48] 48 #[v42, r44.1]) r44.2).bind fun r45 =>
      (nilV Try.prog t0).bind fun v46 =>
      (prun Try.prog (Instr.fieldAt 54 v46 0)).bind fun v47 =>
      (erun Try.prog (Instr.storeAt 48 v47 r45.1) r45.2).bind fun r =>
      (nilV Try.prog t0).bind fun v50 =>
      (prun Try.prog (Instr.fieldAt 54 v50 1)).bind fun v51 =>
      (rrun Try.prog (Instr.loadAt 49 v51) r.2).bind fun v52 =>
      (erun Try.prog (Instr.buildSlice 49 1 #[(0, v24)]) r.2).bind fun r54 =>
      (erun Try.prog (Builtin.append_ #[49, 49] 49 #[v52, r54.1]) r54.2).bind fun r55 =>
      (nilV Try.prog t0).bind fun v56 =>
      (prun Try.prog (Instr.fieldAt 54 v56 1)).bind fun v57 =>
      (erun Try.prog (Instr.storeAt 49 v57 r55.1) r55.2).bind fun r_1 =>
      (nilV Try.prog t0).bind fun v60 =>
      (prun Try.prog (Instr.fieldAt 54 v60 2)).bind fun v61 =>
      (rrun Try.prog (Instr.loadAt 50 v61) r_1.2).bind fun v62 =>
      (erun Try.prog (Instr.buildSlice 24 1 #[(0, (Value.int IntKind.i64 0))]) r_1.2).bind fun r63 =>
      (erun Try.prog (Instr.buildSlice 50 1 #[(0, r63.1)]) r63.2).bind fun r64 =>
      (erun Try.prog (Builtin.append_ #[50, 50] 50 #[v62, r64.1]) r64.2).bind fun r65 =>
      (nilV Try.prog t0).bind fun v66 =>
      (prun Try.prog (Instr.fieldAt 54 v66 2)).bind fun v67 =>
      (erun Try.prog (Instr.storeAt 50 v67 r65.1) r65.2).bind fun r_2 =>
      some (Res.norm [] r_2.2)
     else
      some (Res.norm [] r35.2)).bind fun (r : Res) => r.cont fun vs W1 =>
    some (Res.ret [(Value.bool true)] W1)
  else
  (prun Try.prog (Instr.fieldAt 57 r3.1 1)).bind fun v68 =>
  (rrun Try.prog (Instr.loadAt 3 v68) r3.2.drew).bind fun v69 =>
  (nilV Try.prog t0).bind fun v71 =>
  (prun Try.prog (Instr.fieldAt 54 v71 0)).bind fun v72 =>
  (rrun Try.prog (Instr.loadAt 48 v72) r3.2.drew).bind fun v73 =>
  (prun Try.prog (Builtin.len_ #[48] 3 #[v73])).bind fun v74 =>
  (call 11 #[v69, v74] r3.2.drew).bind fun r75 =>
  (prun Try.prog (Instr.fieldAt 57 r3.1 0)).bind fun v76 =>
  (rrun Try.prog (Instr.loadAt 3 v76) r75.2).bind fun v77 =>
  ((bin .eql v77 (Value.int IntKind.i64 2)).bind fun v79 =>
  (asB v79).bind fun c78 =>
  (if c78 then
    some (Res.norm [t0, r3.1, r75.1, v77, v79] r75.2)
   else
    (bin .eql v77 (Value.int IntKind.i64 3)).bind fun v80 =>
    some (Res.norm [t0, r3.1, r75.1, v77, v80] r75.2)).bind fun (r : Res) => r.cont fun vs_1 W2 =>
  let t0_1 := nth vs_1 0
  let r3_1 := nth vs_1 1
  let v9 := nth vs_1 2
  let v77_1 := nth vs_1 3
  let v78 := nth vs_1 4
  (asB v78).bind fun c78_1 =>
  if c78_1 then
    (rrun Try.prog (Instr.loadAt 57 r3_1) W2).bind fun v83 =>
    (call 28 #[t0_1, v9, v83] W2).bind fun r84 =>
    some (Res.ret [r84.1] r84.2)
  else
  (bin .eql v77_1 (Value.int IntKind.i64 4)).bind fun v86 =>
  (asB v86).bind fun c85 =>
  if c85 then
    ((nilV Try.prog t0_1).bind fun v88 =>
    some (v88, W2.drew)).bind fun r88 =>
    ((prun Try.prog (Instr.fieldAt 54 r88.1 2)).bind fun v89 =>
    some (v89, r88.2)).bind fun r89 =>
    ((rrun Try.prog (Instr.loadAt 50 r89.1) r89.2).bind fun v90 =>
    some (v90, r89.2)).bind fun r90 =>
    ((nilV Try.prog t0_1).bind fun v93 =>
    some (v93, r90.2)).bind fun r93 =>
    ((prun Try.prog (Instr.fieldAt 54 r93.1 2)).bind fun v94 =>
    some (v94, r93.2)).bind fun r94 =>
    ((rrun Try.prog (Instr.loadAt 50 r94.1) r94.2).bind fun v95 =>
    some (v95, r94.2)).bind fun r95 =>
    ((prun Try.prog (Instr.indexAt 50 r95.1 v9)).bind fun v97 =>
    some (v97, r95.2)).bind fun r97 =>
    ((rrun Try.prog (Instr.loadAt 24 r97.1) r97.2).bind fun v98 =>
    some (v98, r97.2)).bind fun r98 =>
    ((nilV Try.prog t0_1).bind fun v100 =>
    some (v100, r98.2)).bind fun r100 =>
    ((prun Try.prog (Instr.fieldAt 54 r100.1 0)).bind fun v101 =>
    some (v101, r100.2)).bind fun r101 =>
    ((rrun Try.prog (Instr.loadAt 48 r101.1) r101.2).bind fun v102 =>
    some (v102, r101.2)).bind fun r102 =>
    ((prun Try.prog (Instr.indexAt 48 r102.1 v9)).bind fun v104 =>
    some (v104, r102.2)).bind fun r104 =>
    ((rrun Try.prog (Instr.loadAt 34 r104.1) r104.2).bind fun v105 =>
    some (v105, r104.2)).bind fun r105 =>
    ((call 22 #[r105.1] r105.2).bind fun r106_1 =>
    some (r106_1.1, r106_1.2)).bind fun r106 =>
    ((erun Try.prog (Instr.buildSlice 24 1 #[(0, r106.1)]) r106.2).bind fun r107_1 =>
    some (r107_1.1, r107_1.2)).bind fun r107 =>
    ((erun Try.prog (Builtin.append_ #[24, 24] 24 #[r98.1, r107.1]) r107.2).bind fun r108_1 =>
    some (r108_1.1, r108_1.2)).bind fun r108 =>
    ((prun Try.prog (Instr.indexAt 50 r90.1 v9)).bind fun v109 =>
    some (v109, r108.2)).bind fun r109 =>
    ((erun Try.prog (Instr.storeAt 24 r109.1 r108.1) r109.2).bind fun r_4 =>
    some (undef, r_4.2)).bind fun r_3 =>
    chkThen ((((rrun Try.prog (Instr.loadAt 50 r89.1) r105.2).bind fun v90_5 => some v90_5) = some r90.1 ∧ ((rrun Try.prog (Instr.loadAt 50 r89.1) r106.2).bind fun v90_6 => some v90_6) = some r90.1) ∧ (((rrun Try.prog (Instr.loadAt 50 r89.1) r106.2).bind fun v90_3 => some v90_3) = some r90.1 ∧ ((rrun Try.prog (Instr.loadAt 50 r89.1) r107.2).bind fun v90_4 => some v90_4) = some r90.1) ∧ (((rrun Try.prog (Instr.loadAt 50 r89.1) r107.2).bind fun v90_1 => some v90_1) = some r90.1 ∧ ((rrun Try.prog (Instr.loadAt 50 r89.1) r108.2).bind fun v90_2 => some v90_2) = some r90.1) ∧ (((rrun Try.prog (Instr.loadAt 50 r94.1) r105.2).bind fun v95_3 => some v95_3) = some r95.1 ∧ ((rrun Try.prog (Instr.loadAt 50 r94.1) r106.2).bind fun v95_4 => some v95_4) = some r95.1) ∧ (((rrun Try.prog (Instr.loadAt 50 r94.1) r106.2).bind fun v95_1 => some v95_1) = some r95.1 ∧ ((rrun Try.prog (Instr.loadAt 50 r94.1) r107.2).bind fun v95_2 => some v95_2) = some r95.1) ∧ (((rrun Try.prog (Instr.loadAt 24 r97.1) r105.2).bind fun v98_3 => some v98_3) = some r98.1 ∧ ((rrun Try.prog (Instr.loadAt 24 r97.1) r106.2).bind fun v98_4 => some v98_4) = some r98.1) ∧ (((rrun Try.prog (Instr.loadAt 24 r97.1) r106.2).bind fun v98_1 => some v98_1) = some r98.1 ∧ ((rrun Try.prog (Instr.loadAt 24 r97.1) r107.2).bind fun v98_2 => some v98_2) = some r98.1) ∧ True)
    (((nilV Try.prog t0_1).bind fun v111 =>
    some (v111, r_3.2.drew)).bind fun r111 =>
    ((prun Try.prog (Instr.fieldAt 54 r111.1 0)).bind fun v112 =>
    some (v112, r111.2)).bind fun r112 =>
    ((rrun Try.prog (Instr.loadAt 48 r112.1) r112.2).bind fun v113 =>
    some (v113, r112.2)).bind fun r113 =>
    ((prun Try.prog (Instr.indexAt 48 r113.1 v9)).bind fun v115 =>
    some (v115, r113.2)).bind fun r115 =>
    ((rrun Try.prog (Instr.loadAt 34 r115.1) r115.2).bind fun v116 =>
    some (v116, r115.2)).bind fun r116 =>
    ((call 22 #[r116.1] r116.2).bind fun r117_1 =>
    some (r117_1.1, r117_1.2)).bind fun r117 =>
    ((nilV Try.prog t0_1).bind fun v119 =>
    some (v119, r117.2)).bind fun r119 =>
    ((prun Try.prog (Instr.fieldAt 54 r119.1 1)).bind fun v120 =>
    some (v120, r119.2)).bind fun r120 =>
    ((rrun Try.prog (Instr.loadAt 49 r120.1) r120.2).bind fun v121 =>
    some (v121, r120.2)).bind fun r121 =>
    ((prun Try.prog (Instr.indexAt 49 r121.1 v9)).bind fun v123 =>
    some (v123, r121.2)).bind fun r123 =>
    ((rrun Try.prog (Instr.loadAt 68 r123.1) r123.2).bind fun v124 =>
    some (v124, r123.2)).bind fun r124 =>
    ((nilV Try.prog r124.1).bind fun v125 =>
    some (v125, r124.2)).bind fun r125 =>
    ((prun Try.prog (Instr.fieldAt 73 r125.1 1)).bind fun v126 =>
    some (v126, r125.2)).bind fun r126 =>
    ((rrun Try.prog (Instr.loadAt 3 r126.1) r126.2).bind fun v127 =>
    some (v127, r126.2)).bind fun r127 =>
    ((bin .eql r117.1 r127.1).bind fun v128 =>
    some (v128, r127.2)).bind fun r128 =>
    chkThen ((((rrun Try.prog (Instr.loadAt 49 r120.1) r116.2).bind fun v121_1 => some v121_1) = some r121.1 ∧ ((rrun Try.prog (Instr.loadAt 49 r120.1) r117.2).bind fun v121_2 => some v121_2) = some r121.1) ∧ (((rrun Try.prog (Instr.loadAt 68 r123.1) r116.2).bind fun v124_1 => some v124_1) = some r124.1 ∧ ((rrun Try.prog (Instr.loadAt 68 r123.1) r117.2).bind fun v124_2 => some v124_2) = some r124.1) ∧ (((rrun Try.prog (Instr.loadAt 3 r126.1) r116.2).bind fun v127_1 => some v127_1) = some r127.1 ∧ ((rrun Try.prog (Instr.loadAt 3 r126.1) r117.2).bind fun v127_2 => some v127_2) = some r127.1) ∧ True)
    (some (Res.ret [r128.1] r128.2)))
  else
  (bin .eql v77_1 (Value.int IntKind.i64 5)).bind fun v130 =>
  (asB v130).bind fun c129 =>
  if c129 then
    ((nilV Try.prog t0_1).bind fun v132 =>
    some (v132, W2.drew)).bind fun r132 =>
    ((prun Try.prog (Instr.fieldAt 54 r132.1 2)).bind fun v133 =>
    some (v133, r132.2)).bind fun r133 =>
    ((rrun Try.prog (Instr.loadAt 50 r133.1) r133.2).bind fun v134 =>
    some (v134, r133.2)).bind fun r134 =>
    ((prun Try.prog (Instr.indexAt 50 r134.1 v9)).bind fun v136 =>
    some (v136, r134.2)).bind fun r136 =>
    ((rrun Try.prog (Instr.loadAt 24 r136.1) r136.2).bind fun v137 =>
    some (v137, r136.2)).bind fun r137 =>
    ((prun Try.prog (Instr.fieldAt 57 r3_1 2)).bind fun v138 =>
    some (v138, r137.2)).bind fun r138 =>
    ((rrun Try.prog (Instr.loadAt 3 r138.1) r138.2).bind fun v139 =>
    some (v139, r138.2)).bind fun r139 =>
    ((nilV Try.prog t0_1).bind fun v141 =>
    some (v141, r139.2)).bind fun r141 =>
    ((prun Try.prog (Instr.fieldAt 54 r141.1 2)).bind fun v142 =>
    some (v142, r141.2)).bind fun r142 =>
    ((rrun Try.prog (Instr.loadAt 50 r142.1) r142.2).bind fun v143 =>
    some (v143, r142.2)).bind fun r143 =>
    ((prun Try.prog (Instr.indexAt 50 r143.1 v9)).bind fun v145 =>
    some (v145, r143.2)).bind fun r145 =>
    ((rrun Try.prog (Instr.loadAt 24 r145.1) r145.2).bind fun v146 =>
    some (v146, r145.2)).bind fun r146 =>
    ((prun Try.prog (Builtin.len_ #[24] 3 #[r146.1])).bind fun v147 =>
    some (v147, r146.2)).bind fun r147 =>
    ((call 11 #[r139.1, r147.1] r147.2).bind fun r148_1 =>
    some (r148_1.1, r148_1.2)).bind fun r148 =>
    ((prun Try.prog (Instr.indexAt 24 r137.1 r148.1)).bind fun v149 =>
    some (v149, r148.2)).bind fun r149 =>
    ((rrun Try.prog (Instr.loadAt 3 r149.1) r149.2).bind fun v150 =>
    some (v150, r149.2)).bind fun r150 =>
    chkThen ((((rrun Try.prog (Instr.loadAt 50 r133.1) r147.2).bind fun v134_1 => some v134_1) = some r134.1 ∧ ((rrun Try.prog (Instr.loadAt 50 r133.1) r148.2).bind fun v134_2 => some v134_2) = some r134.1) ∧ (((rrun Try.prog (Instr.loadAt 24 r136.1) r147.2).bind fun v137_1 => some v137_1) = some r137.1 ∧ ((rrun Try.prog (Instr.loadAt 24 r136.1) r148.2).bind fun v137_2 => some v137_2) = some r137.1) ∧ True)
    (((nilV Try.prog t0_1).bind fun v152 =>
    some (v152, r150.2.drew)).bind fun r152 =>
    ((prun Try.prog (Instr.fieldAt 54 r152.1 0)).bind fun v153 =>
    some (v153, r152.2)).bind fun r153 =>
    ((rrun Try.prog (Instr.loadAt 48 r153.1) r153.2).bind fun v154 =>
    some (v154, r153.2)).bind fun r154 =>
    ((prun Try.prog (Instr.indexAt 48 r154.1 v9)).bind fun v156 =>
    some (v156, r154.2)).bind fun r156 =>
    ((rrun Try.prog (Instr.loadAt 34 r156.1) r156.2).bind fun v157 =>
    some (v157, r156.2)).bind fun r157 =>
    ((call 14 #[r157.1, r150.1] r157.2).bind fun r159_1 =>
    some (r159_1.1, r159_1.2)).bind fun r159 =>
    ((nilV Try.prog t0_1).bind fun v161 =>
    some (v161, r159.2)).bind fun r161 =>
    ((prun Try.prog (Instr.fieldAt 54 r161.1 1)).bind fun v162 =>
    some (v162, r161.2)).bind fun r162 =>
    ((rrun Try.prog (Instr.loadAt 49 r162.1) r162.2).bind fun v163 =>
    some (v163, r162.2)).bind fun r163 =>
    ((prun Try.prog (Instr.indexAt 49 r163.1 v9)).bind fun v165 =>
    some (v165, r163.2)).bind fun r165 =>
    ((rrun Try.prog (Instr.loadAt 68 r165.1) r165.2).bind fun v166 =>
    some (v166, r165.2)).bind fun r166 =>
    ((call 29 #[r166.1, r150.1] r166.2).bind fun r168_1 =>
    some (r168_1.1, r168_1.2)).bind fun r168 =>
    ((bin .eql r159.1 r168.1).bind fun v169 =>
    some (v169, r168.2)).bind fun r169 =>
    chkThen ((((rrun Try.prog (Instr.loadAt 49 r162.1) r157.2).bind fun v163_1 => some v163_1) = some r163.1 ∧ ((rrun Try.prog (Instr.loadAt 49 r162.1) r159.2).bind fun v163_2 => some v163_2) = some r163.1) ∧ (((rrun Try.prog (Instr.loadAt 68 r165.1) r157.2).bind fun v166_1 => some v166_1) = some r166.1 ∧ ((rrun Try.prog (Instr.loadAt 68 r165.1) r159.2).bind fun v166_2 => some v166_2) = some r166.1) ∧ True)
    (some (Res.ret [r169.1] r169.2)))
  else
  (bin .eql v77_1 (Value.int IntKind.i64 6)).bind fun v171 =>
  (asB v171).bind fun c170 =>
  if c170 then
    ((nilV Try.prog t0_1).bind fun v173 =>
    some (v173, W2.drew)).bind fun r173 =>
    ((prun Try.prog (Instr.fieldAt 54 r173.1 0)).bind fun v174 =>
    some (v174, r173.2)).bind fun r174 =>
    ((rrun Try.prog (Instr.loadAt 48 r174.1) r174.2).bind fun v175 =>
    some (v175, r174.2)).bind fun r175 =>
    ((prun Try.prog (Instr.indexAt 48 r175.1 v9)).bind fun v177 =>
    some (v177, r175.2)).bind fun r177 =>
    ((rrun Try.prog (Instr.loadAt 34 r177.1) r177.2).bind fun v178 =>
    some (v178, r177.2)).bind fun r178 =>
    ((prun Try.prog (Instr.fieldAt 57 r3_1 2)).bind fun v179 =>
    some (v179, r178.2)).bind fun r179 =>
    ((rrun Try.prog (Instr.loadAt 3 r179.1) r179.2).bind fun v180 =>
    some (v180, r179.2)).bind fun r180 =>
    ((call 14 #[r178.1, r180.1] r180.2).bind fun r181_1 =>
    some (r181_1.1, r181_1.2)).bind fun r181 =>
    ((nilV Try.prog t0_1).bind fun v183 =>
    some (v183, r181.2)).bind fun r183 =>
    ((prun Try.prog (Instr.fieldAt 54 r183.1 1)).bind fun v184 =>
    some (v184, r183.2)).bind fun r184 =>
    ((rrun Try.prog (Instr.loadAt 49 r184.1) r184.2).bind fun v185 =>
    some (v185, r184.2)).bind fun r185 =>
    ((prun Try.prog (Instr.indexAt 49 r185.1 v9)).bind fun v187 =>
    some (v187, r185.2)).bind fun r187 =>
    ((rrun Try.prog (Instr.loadAt 68 r187.1) r187.2).bind fun v188 =>
    some (v188, r187.2)).bind fun r188 =>
    ((prun Try.prog (Instr.fieldAt 57 r3_1 2)).bind fun v189 =>
    some (v189, r188.2)).bind fun r189 =>
    ((rrun Try.prog (Instr.loadAt 3 r189.1) r189.2).bind fun v190 =>
    some (v190, r189.2)).bind fun r190 =>
    ((call 29 #[r188.1, r190.1] r190.2).bind fun r191_1 =>
    some (r191_1.1, r191_1.2)).bind fun r191 =>
    ((bin .eql r181.1 r191.1).bind fun v192 =>
    some (v192, r191.2)).bind fun r192 =>
    chkThen ((((rrun Try.prog (Instr.loadAt 49 r184.1) r180.2).bind fun v185_1 => some v185_1) = some r185.1 ∧ ((rrun Try.prog (Instr.loadAt 49 r184.1) r181.2).bind fun v185_2 => some v185_2) = some r185.1) ∧ (((rrun Try.prog (Instr.loadAt 68 r187.1) r180.2).bind fun v188_1 => some v188_1) = some r188.1 ∧ ((rrun Try.prog (Instr.loadAt 68 r187.1) r181.2).bind fun v188_2 => some v188_2) = some r188.1) ∧ (((rrun Try.prog (Instr.loadAt 3 r189.1) r180.2).bind fun v190_1 => some v190_1) = some r190.1 ∧ ((rrun Try.prog (Instr.loadAt 3 r189.1) r181.2).bind fun v190_2 => some v190_2) = some r190.1) ∧ True)
    (some (Res.ret [r192.1] r192.2))
  else
  some (Res.norm [] W2)).bind fun (r : Res) => (r.unblock 0).cont fun vs_2 W3 =>
  some (Res.ret [(Value.bool true)] W3)).bind Res.done
theorem f19.eq (call dfr : CallF) (t0 : Value) (o1 : Value) (W0 : World) : aFun Try.prog call dfr Try.f19 f19.ann (ofArgs #[t0, o1]) W0 = f19 call t0 o1 W0 := by kernel_rfl

/-- (*dailies/dailieslaw11.World).same -/
def f20.ann : Ann := (.s .z (.s (.s .z (.b [] (.l [0, 3] (.s (.s .z (.c .z .z)) (.s (.b [0, 3] (.s .z (.c (.s .z .z) .z))) .z))))) (.s .z .z)))
noncomputable def f20.l0 (call : CallF) (vs : List Value) (W1 : World) : Option Res :=
  let w0_1 := nth vs 0
  let i3 := nth vs 1
  (nilV Try.prog w0_1).bind fun v6 =>
  (prun Try.prog (Instr.fieldAt 54 v6 0)).bind fun v7 =>
  (rrun Try.prog (Instr.loadAt 48 v7) W1).bind fun v8 =>
  (prun Try.prog (Builtin.len_ #[48] 3 #[v8])).bind fun v9 =>
  (bin .lss i3 v9).bind fun v10 =>
  (asB v10).bind fun c10 =>
  if c10 then
    (((nilV Try.prog w0_1).bind fun v14 =>
    some (v14, W1.drew)).bind fun r14 =>
    ((prun Try.prog (Instr.fieldAt 54 r14.1 0)).bind fun v15 =>
    some (v15, r14.2)).bind fun r15 =>
    ((rrun Try.prog (Instr.loadAt 48 r15.1) r15.2).bind fun v16 =>
    some (v16, r15.2)).bind fun r16 =>
    ((prun Try.prog (Instr.indexAt 48 r16.1 i3)).bind fun v18 =>
    some (v18, r16.2)).bind fun r18 =>
    ((rrun Try.prog (Instr.loadAt 34 r18.1) r18.2).bind fun v19 =>
    some (v19, r18.2)).bind fun r19 =>
    ((call 16 #[r19.1] r19.2).bind fun r20_1 =>
    some (r20_1.1, r20_1.2)).bind fun r20 =>
    ((nilV Try.prog w0_1).bind fun v22 =>
    some (v22, r20.2)).bind fun r22 =>
    ((prun Try.prog (Instr.fieldAt 54 r22.1 1)).bind fun v23 =>
    some (v23, r22.2)).bind fun r23 =>
    ((rrun Try.prog (Instr.loadAt 49 r23.1) r23.2).bind fun v24 =>
    some (v24, r23.2)).bind fun r24 =>
    ((prun Try.prog (Instr.indexAt 49 r24.1 i3)).bind fun v26 =>
    some (v26, r24.2)).bind fun r26 =>
    ((rrun Try.prog (Instr.loadAt 68 r26.1) r26.2).bind fun v27 =>
    some (v27, r26.2)).bind fun r27 =>
    ((nilV Try.prog r27.1).bind fun v28 =>
    some (v28, r27.2)).bind fun r28 =>
    ((prun Try.prog (Instr.fieldAt 73 r28.1 1)).bind fun v29 =>
    some (v29, r28.2)).bind fun r29 =>
    ((rrun Try.prog (Instr.loadAt 3 r29.1) r29.2).bind fun v30 =>
    some (v30, r29.2)).bind fun r30 =>
    ((bin .neq r20.1 r30.1).bind fun v31 =>
    some (v31, r30.2)).bind fun r31 =>
    (if wantedV false r31.1 = true then some (w0_1, r31.2) else some (undef, r31.2)).bind fun r33 =>
    (if wantedV false r31.1 = true then (nilV Try.prog r33.1).bind fun v34 =>
    some (v34, r33.2) else some (undef, r33.2)).bind fun r34 =>
    (if wantedV false r31.1 = true then (prun Try.prog (Instr.fieldAt 54 r34.1 0)).bind fun v35 =>
    some (v35, r34.2) else some (undef, r34.2)).bind fun r35 =>
    (if wantedV false r31.1 = true then (rrun Try.prog (Instr.loadAt 48 r35.1) r35.2).bind fun v36 =>
    some (v36, r35.2) else some (undef, r35.2)).bind fun r36 =>
    (if wantedV false r31.1 = true then some (i3, r36.2) else some (undef, r36.2)).bind fun r37 =>
    (if wantedV false r31.1 = true then (prun Try.prog (Instr.indexAt 48 r36.1 r37.1)).bind fun v38 =>
    some (v38, r37.2) else some (undef, r37.2)).bind fun r38 =>
    (if wantedV false r31.1 = true then (rrun Try.prog (Instr.loadAt 34 r38.1) r38.2).bind fun v39 =>
    some (v39, r38.2) else some (undef, r38.2)).bind fun r39 =>
    (if wantedV false r31.1 = true then (call 23 #[r39.1] r39.2).bind fun r40_1 =>
    some (r40_1.1, r40_1.2) else some (undef, r39.2)).bind fun r40 =>
    (if wantedV false r31.1 = true then some (w0_1, r40.2) else some (undef, r40.2)).bind fun r41 =>
    (if wantedV false r31.1 = true then (nilV Try.prog r41.1).bind fun v42 =>
    some (v42, r41.2) else some (undef, r41.2)).bind fun r42 =>
    (if wantedV false r31.1 = true then (prun Try.prog (Instr.fieldAt 54 r42.1 1)).bind fun v43 =>
    some (v43, r42.2) else some (undef, r42.2)).bind fun r43 =>
    (if wantedV false r31.1 = true then (rrun Try.prog (Instr.loadAt 49 r43.1) r43.2).bind fun v44 =>
    some (v44, r43.2) else some (undef, r43.2)).bind fun r44 =>
    (if wantedV false r31.1 = true then some (i3, r44.2) else some (undef, r44.2)).bind fun r45 =>
    (if wantedV false r31.1 = true then (prun Try.prog (Instr.indexAt 49 r44.1 r45.1)).bind fun v46 =>
    some (v46, r45.2) else some (undef, r45.2)).bind fun r46 =>
    (if wantedV false r31.1 = true then (rrun Try.prog (Instr.loadAt 68 r46.1) r46.2).bind fun v47 =>
    some (v47, r46.2) else some (undef, r46.2)).bind fun r47 =>
    (if wantedV false r31.1 = true then (nilV Try.prog r47.1).bind fun v48 =>
    some (v48, r47.2) else some (undef, r47.2)).bind fun r48 =>
    (if wantedV false r31.1 = true then (prun Try.prog (Instr.fieldAt 73 r48.1 2)).bind fun v49 =>
    some (v49, r48.2) else some (undef, r48.2)).bind fun r49 =>
    (if wantedV false r31.1 = true then (rrun Try.prog (Instr.loadAt 3 r49.1) r49.2).bind fun v50 =>
    some (v50, r49.2) else some (undef, r49.2)).bind fun r50 =>
    (if wantedV false r31.1 = true then (bin .neq r40.1 r50.1).bind fun v51 =>
    some (v51, r50.2) else some (undef, r50.2)).bind fun r51 =>
    ((pickV r31.1 (Value.bool true) r51.1).bind fun v52 =>
    some (v52, r51.2)).bind fun r52 =>
    (if wantedV false r52.1 = true then some (w0_1, r52.2) else some (undef, r52.2)).bind fun r54 =>
    (if wantedV false r52.1 = true then (nilV Try.prog r54.1).bind fun v55 =>
    some (v55, r54.2) else some (undef, r54.2)).bind fun r55 =>
    (if wantedV false r52.1 = true then (prun Try.prog (Instr.fieldAt 54 r55.1 0)).bind fun v56 =>
    some (v56, r55.2) else some (undef, r55.2)).bind fun r56 =>
    (if wantedV false r52.1 = true then (rrun Try.prog (Instr.loadAt 48 r56.1) r56.2).bind fun v57 =>
    some (v57, r56.2) else some (undef, r56.2)).bind fun r57 =>
    (if wantedV false r52.1 = true then some (i3, r57.2) else some (undef, r57.2)).bind fun r58 =>
    (if wantedV false r52.1 = true then (prun Try.prog (Instr.indexAt 48 r57.1 r58.1)).bind fun v59 =>
    some (v59, r58.2) else some (undef, r58.2)).bind fun r59 =>
    (if wantedV false r52.1 = true then (rrun Try.prog (Instr.loadAt 34 r59.1) r59.2).bind fun v60 =>
    some (v60, r59.2) else some (undef, r59.2)).bind fun r60 =>
    (if wantedV false r52.1 = true then (call 22 #[r60.1] r60.2).bind fun r61_1 =>
    some (r61_1.1, r61_1.2) else some (undef, r60.2)).bind fun r61 =>
    (if wantedV false r52.1 = true then some (w0_1, r61.2) else some (undef, r61.2)).bind fun r62 =>
    (if wantedV false r52.1 = true then (nilV Try.prog r62.1).bind fun v63 =>
    some (v63, r62.2) else some (undef, r62.2)).bind fun r63 =>
    (if wantedV false r52.1 = true then (prun Try.prog (Instr.fieldAt 54 r63.1 1)).bind fun v64 =>
    some (v64, r63.2) else some (undef, r63.2)).bind fun r64 =>
    (if wantedV false r52.1 = true then (rrun Try.prog (Instr.loadAt 49 r64.1) r64.2).bind fun v65 =>
    some (v65, r64.2) else some (undef, r64.2)).bind fun r65 =>
    (if wantedV false r52.1 = true then some (i3, r65.2) else some (undef, r65.2)).bind fun r66 =>
    (if wantedV false r52.1 = true then (prun Try.prog (Instr.indexAt 49 r65.1 r66.1)).bind fun v67 =>
    some (v67, r66.2) else some (undef, r66.2)).bind fun r67 =>
    (if wantedV false r52.1 = true then (rrun Try.prog (Instr.loadAt 68 r67.1) r67.2).bind fun v68 =>
    some (v68, r67.2) else some (undef, r67.2)).bind fun r68 =>
    (if wantedV false r52.1 = true then (nilV Try.prog r68.1).bind fun v69 =>
    some (v69, r68.2) else some (undef, r68.2)).bind fun r69 =>
    (if wantedV false r52.1 = true then (prun Try.prog (Instr.fieldAt 73 r69.1 1)).bind fun v70 =>
    some (v70, r69.2) else some (undef, r69.2)).bind fun r70 =>
    (if wantedV false r52.1 = true then (rrun Try.prog (Instr.loadAt 3 r70.1) r70.2).bind fun v71 =>
    some (v71, r70.2) else some (undef, r70.2)).bind fun r71 =>
    (if wantedV false r52.1 = true then (bin .neq r61.1 r71.1).bind fun v72 =>
    some (v72, r71.2) else some (undef, r71.2)).bind fun r72 =>
    ((pickV r52.1 (Value.bool true) r72.1).bind fun v73 =>
    some (v73, r72.2)).bind fun r73 =>
    chkThen ((((rrun Try.prog (Instr.loadAt 49 r23.1) r19.2).bind fun v24_1 => some v24_1) = some r24.1 ∧ ((rrun Try.prog (Instr.loadAt 49 r23.1) r20.2).bind fun v24_2 => some v24_2) = some r24.1) ∧ (((rrun Try.prog (Instr.loadAt 68 r26.1) r19.2).bind fun v27_1 => some v27_1) = some r27.1 ∧ ((rrun Try.prog (Instr.loadAt 68 r26.1) r20.2).bind fun v27_2 => some v27_2) = some r27.1) ∧ (((rrun Try.prog (Instr.loadAt 3 r29.1) r19.2).bind fun v30_1 => some v30_1) = some r30.1 ∧ ((rrun Try.prog (Instr.loadAt 3 r29.1) r20.2).bind fun v30_2 => some v30_2) = some r30.1) ∧ ((if wantedV false r31.1 = true then ((rrun Try.prog (Instr.loadAt 49 r43.1) r39.2).bind fun v44_1 => some v44_1) = some r44.1 else True) ∧ (if wantedV false r31.1 = true then ((rrun Try.prog (Instr.loadAt 49 r43.1) r40.2).bind fun v44_2 => some v44_2) = some r44.1 else True)) ∧ ((if wantedV false r31.1 = true then ((rrun Try.prog (Instr.loadAt 68 r46.1) r39.2).bind fun v47_1 => some v47_1) = some r47.1 else True) ∧ (if wantedV false r31.1 = true then ((rrun Try.prog (Instr.loadAt 68 r46.1) r40.2).bind fun v47_2 => some v47_2) = some r47.1 else True)) ∧ ((if wantedV false r31.1 = true then ((rrun Try.prog (Instr.loadAt 3 r49.1) r39.2).bind fun v50_1 => some v50_1) = some r50.1 else True) ∧ (if wantedV false r31.1 = true then ((rrun Try.prog (Instr.loadAt 3 r49.1) r40.2).bind fun v50_2 => some v50_2) = some r50.1 else True)) ∧ ((if wantedV false r52.1 = true then ((rrun Try.prog (Instr.loadAt 49 r64.1) r60.2).bind fun v65_1 => some v65_1) = some r65.1 else True) ∧ (if wantedV false r52.1 = true then ((rrun Try.prog (Instr.loadAt 49 r64.1) r61.2).bind fun v65_2 => some v65_2) = some r65.1 else True)) ∧ ((if wantedV false r52.1 = true then ((rrun Try.prog (Instr.loadAt 68 r67.1) r60.2).bind fun v68_1 => some v68_1) = some r68.1 else True) ∧ (if wantedV false r52.1 = true then ((rrun Try.prog (Instr.loadAt 68 r67.1) r61.2).bind fun v68_2 => some v68_2) = some r68.1 else True)) ∧ ((if wantedV false r52.1 = true then ((rrun Try.prog (Instr.loadAt 3 r70.1) r60.2).bind fun v71_1 => some v71_1) = some r71.1 else True) ∧ (if wantedV false r52.1 = true then ((rrun Try.prog (Instr.loadAt 3 r70.1) r61.2).bind fun v71_2 => some v71_2) = some r71.1 else True)) ∧ True)
    ((asB r73.1).bind fun c73 =>
    if c73 then
      some (Res.ret [(Value.bool false)] r73.2)
    else
    some (Res.norm [w0_1, i3] r73.2))).bind fun (r : Res) => (r.unblock 1).cont fun vs_1 W2 =>
    let w0_2 := nth vs_1 0
    let i3_1 := nth vs_1 1
    (bin .add i3_1 (Value.int IntKind.i64 1)).bind fun v12 =>
    some (Res.norm [w0_2, v12] W2)
  else
  some (Res.exit 0 [] W1)
noncomputable def f20 (call : CallF) (w0 : Value) (W0 : World) : Option (Value × World) :=
  ((iter (f20.l0 call) [w0, (Value.int IntKind.i64 0)] W0).bind fun (r : Res) => (r.unblock 0).cont fun vs_2 W3 =>
  some (Res.ret [(Value.bool true)] W3)).bind Res.done
theorem f20.eq (call dfr : CallF) (w0 : Value) (W0 : World) : aFun Try.prog call dfr Try.f20 f20.ann (ofArgs #[w0]) W0 = f20 call w0 W0 := by kernel_rfl

/-- (*dailies/dailieslaw11.World).ends -/
def f21.ann : Ann := (.s .z (.s (.s .z (.b [0] (.l [0, 3] (.s (.s .z (.c .z .z)) (.s (.b [0, 3] (.s .z (.s .z (.c (.s .z .z) .z)))) .z))))) (.s (.s .z (.b [0] (.l [0, 5] (.s (.s .z (.c .z .z)) (.s (.b [0, 5] (.s .z (.s .z (.c (.s .z .z) .z)))) .z))))) (.s (.s .z (.b [0] (.l [0, 7] (.s (.s .z (.c .z .z)) (.s (.b [0, 7] (.s .z (.b [0, 7] (.l [0, 7, 8] (.s (.s .z (.c .z .z)) (.s (.b [0, 7, 8] .z) .z)))))) .z))))) (.s (.s .z (.b [0] (.l [0, 9] (.s (.s .z (.c .z .z)) (.s (.b [0, 9] (.s .z (.b [0, 9] (.l [0, 9, 10] (.s (.s .z (.c .z .z)) (.s (.b [0, 9, 10] .z) .z)))))) .z))))) (.s .z (.s (.s .z (.b [0, 11] (.l [0, 11, 12] (.s (.s .z (.c .z .z)) (.s (.b [0, 11, 12] (.s .z (.s (.s .z (.b [0, 11, 12, 13] (.l [0, 11, 12, 13, 14] (.s (.s .z (.c .z .z)) (.s (.b [0, 11, 12, 13, 14] .z) .z))))) .z))) .z))))) (.s .z (.s (.s .z (.b [0, 11, 15] (.l [0, 11, 15, 16] (.s (.s .z (.c .z .z)) (.s (.b [0, 11, 15, 16] (.s .z (.s (.s .z (.b [0, 11, 15, 16, 17] (.l [0, 11, 15, 16, 17, 18] (.s (.s .z (.c .z .z)) (.s (.b [0, 11, 15, 16, 17, 18] .z) .z))))) .z))) .z))))) (.s (.s .z (.b [0, 15] (.l [0, 11, 15, 19] (.s (.s .z (.c .z .z)) (.s (.b [0, 11, 15, 19] (.s .z (.s .z (.s .z (.c (.s .z .z) .z))))) .z))))) (.s (.s .z (.b [] (.l [0, 15, 22] (.s (.s .z (.c .z .z)) (.s (.b [0, 15, 22] (.s .z (.s .z (.s .z (.c (.s .z .z) .z))))) .z))))) (.s .z .z))))))))))))
noncomputable def f21.l0 (call : CallF) (vs : List Value) (W1 : World) : Option Res :=
  let t0_1 := nth vs 0
  let r3 := nth vs 1
  (nilV Try.prog t0_1).bind fun v27 =>
  (prun Try.prog (Instr.fieldAt 54 v27 3)).bind fun v28 =>
  (rrun Try.prog (Instr.loadAt 51 v28) W1).bind fun v29 =>
  (prun Try.prog (Builtin.len_ #[51] 3 #[v29])).bind fun v30 =>
  (bin .lss r3 v30).bind fun v31 =>
  (asB v31).bind fun c31 =>
  if c31 then
    ((nilV Try.prog t0_1).bind fun v35 =>
    (prun Try.prog (Instr.fieldAt 54 v35 3)).bind fun v36 =>
    (rrun Try.prog (Instr.loadAt 51 v36) W1).bind fun v37 =>
    (prun Try.prog (Instr.indexAt 51 v37 r3)).bind fun v39 =>
    (rrun Try.prog (Instr.loadAt 23 v39) W1).bind fun v40 =>
    (call 18 #[v40, (Value.int IntKind.u8 0)] W1).bind fun r41 =>
    (prun Try.prog (Op.unary .not r41.1)).bind fun v43 =>
    (asB v43).bind fun c43 =>
    if c43 then
      some (Res.ret [(Value.bool false)] r41.2)
    else
    some (Res.norm [t0_1, r3] r41.2)).bind fun (r : Res) => (r.unblock 1).cont fun vs_1 W2 =>
    let t0_2 := nth vs_1 0
    let r3_1 := nth vs_1 1
    (bin .add r3_1 (Value.int IntKind.i64 1)).bind fun v33 =>
    some (Res.norm [t0_2, v33] W2)
  else
  some (Res.exit 0 [t0_1] W1)
noncomputable def f21.l1 (call : CallF) (vs_3 : List Value) (W4 : World) : Option Res :=
  let t0_4 := nth vs_3 0
  let a5 := nth vs_3 1
  (nilV Try.prog t0_4).bind fun v46 =>
  (prun Try.prog (Instr.fieldAt 54 v46 4)).bind fun v47 =>
  (rrun Try.prog (Instr.loadAt 52 v47) W4).bind fun v48 =>
  (prun Try.prog (Builtin.len_ #[52] 3 #[v48])).bind fun v49 =>
  (bin .lss a5 v49).bind fun v50 =>
  (asB v50).bind fun c50 =>
  if c50 then
    ((nilV Try.prog t0_4).bind fun v54 =>
    (prun Try.prog (Instr.fieldAt 54 v54 4)).bind fun v55 =>
    (rrun Try.prog (Instr.loadAt 52 v55) W4).bind fun v56 =>
    (prun Try.prog (Instr.indexAt 52 v56 a5)).bind fun v58 =>
    (rrun Try.prog (Instr.loadAt 37 v58) W4).bind fun v59 =>
    (call 17 #[v59, (Value.int IntKind.u16 0)] W4).bind fun r60 =>
    (prun Try.prog (Op.unary .not r60.1)).bind fun v62 =>
    (asB v62).bind fun c62 =>
    if c62 then
      some (Res.ret [(Value.bool false)] r60.2)
    else
    some (Res.norm [t0_4, a5] r60.2)).bind fun (r : Res) => (r.unblock 3).cont fun vs_4 W5 =>
    let t0_5 := nth vs_4 0
    let a5_1 := nth vs_4 1
    (bin .add a5_1 (Value.int IntKind.i64 1)).bind fun v52 =>
    some (Res.norm [t0_5, v52] W5)
  else
  some (Res.exit 2 [t0_4] W4)
noncomputable def f21.l2 (call : CallF) (vs_7 : List Value) (W8 : World) : Option Res :=
  let t0_8 := nth vs_7 0
  let v7_1 := nth vs_7 1
  let v8 := nth vs_7 2
  (nilV Try.prog t0_8).bind fun v74 =>
  (prun Try.prog (Instr.fieldAt 54 v74 3)).bind fun v75 =>
  (rrun Try.prog (Instr.loadAt 51 v75) W8).bind fun v76 =>
  (prun Try.prog (Instr.indexAt 51 v76 v7_1)).bind fun v78 =>
  (rrun Try.prog (Instr.loadAt 23 v78) W8).bind fun v79 =>
  (prun Try.prog (Builtin.len_ #[23] 3 #[v79])).bind fun v80 =>
  (bin .lss v8 v80).bind fun v81 =>
  (asB v81).bind fun c81 =>
  if c81 then
    ((nilV Try.prog t0_8).bind fun v85 =>
    (prun Try.prog (Instr.fieldAt 54 v85 3)).bind fun v86 =>
    (rrun Try.prog (Instr.loadAt 51 v86) W8).bind fun v87 =>
    (prun Try.prog (Instr.indexAt 51 v87 v7_1)).bind fun v89 =>
    (rrun Try.prog (Instr.loadAt 23 v89) W8).bind fun v90 =>
    (bin .rem v7_1 (Value.int IntKind.i64 250)).bind fun v93 =>
    (bin .add (Value.int IntKind.i64 1) v93).bind fun v94 =>
    (prun Try.prog (convert 3 5 v94)).bind fun v95 =>
    (prun Try.prog (Instr.indexAt 23 v90 v8)).bind fun v96 =>
    (erun Try.prog (Instr.storeAt 5 v96 v95) W8).bind fun r =>
    some (Res.norm [t0_8, v7_1, v8] r.2)).bind fun (r : Res) => (r.unblock 7).cont fun vs_8 W9 =>
    let t0_9 := nth vs_8 0
    let v7_2 := nth vs_8 1
    let v8_1 := nth vs_8 2
    (bin .add v8_1 (Value.int IntKind.i64 1)).bind fun v83 =>
    some (Res.norm [t0_9, v7_2, v83] W9)
  else
  some (Res.exit 6 [t0_8, v7_1] W8)
noncomputable def f21.l3 (call : CallF) (vs_6 : List Value) (W7 : World) : Option Res :=
  let t0_7 := nth vs_6 0
  let v7 := nth vs_6 1
  (nilV Try.prog t0_7).bind fun v65 =>
  (prun Try.prog (Instr.fieldAt 54 v65 3)).bind fun v66 =>
  (rrun Try.prog (Instr.loadAt 51 v66) W7).bind fun v67 =>
  (prun Try.prog (Builtin.len_ #[51] 3 #[v67])).bind fun v68 =>
  (bin .lss v7 v68).bind fun v69 =>
  (asB v69).bind fun c69 =>
  if c69 then
    ((iter (f21.l2 call) [t0_7, v7, (Value.int IntKind.i64 0)] W7).bind fun (r : Res) => (r.unblock 6).cont fun vs_9 W10 =>
    let t0_10 := nth vs_9 0
    let v7_3 := nth vs_9 1
    some (Res.norm [t0_10, v7_3] W10)).bind fun (r : Res) => (r.unblock 5).cont fun vs_10 W11 =>
    let t0_11 := nth vs_10 0
    let v7_4 := nth vs_10 1
    (bin .add v7_4 (Value.int IntKind.i64 1)).bind fun v71 =>
    some (Res.norm [t0_11, v71] W11)
  else
  some (Res.exit 4 [t0_7] W7)
noncomputable def f21.l4 (call : CallF) (vs_13 : List Value) (W14 : World) : Option Res :=
  let t0_14 := nth vs_13 0
  let v9_1 := nth vs_13 1
  let v10 := nth vs_13 2
  (nilV Try.prog t0_14).bind fun v108 =>
  (prun Try.prog (Instr.fieldAt 54 v108 4)).bind fun v109 =>
  (rrun Try.prog (Instr.loadAt 52 v109) W14).bind fun v110 =>
  (prun Try.prog (Instr.indexAt 52 v110 v9_1)).bind fun v112 =>
  (rrun Try.prog (Instr.loadAt 37 v112) W14).bind fun v113 =>
  (prun Try.prog (Builtin.len_ #[37] 3 #[v113])).bind fun v114 =>
  (bin .lss v10 v114).bind fun v115 =>
  (asB v115).bind fun c115 =>
  if c115 then
    ((nilV Try.prog t0_14).bind fun v119 =>
    (prun Try.prog (Instr.fieldAt 54 v119 4)).bind fun v120 =>
    (rrun Try.prog (Instr.loadAt 52 v120) W14).bind fun v121 =>
    (prun Try.prog (Instr.indexAt 52 v121 v9_1)).bind fun v123 =>
    (rrun Try.prog (Instr.loadAt 37 v123) W14).bind fun v124 =>
    (bin .add (Value.int IntKind.i64 1000) v9_1).bind fun v127 =>
    (prun Try.prog (convert 3 43 v127)).bind fun v128 =>
    (prun Try.prog (Instr.indexAt 37 v124 v10)).bind fun v129 =>
    (erun Try.prog (Instr.storeAt 43 v129 v128) W14).bind fun r_1 =>
    some (Res.norm [t0_14, v9_1, v10] r_1.2)).bind fun (r : Res) => (r.unblock 11).cont fun vs_14 W15 =>
    let t0_15 := nth vs_14 0
    let v9_2 := nth vs_14 1
    let v10_1 := nth vs_14 2
    (bin .add v10_1 (Value.int IntKind.i64 1)).bind fun v117 =>
    some (Res.norm [t0_15, v9_2, v117] W15)
  else
  some (Res.exit 10 [t0_14, v9_1] W14)
noncomputable def f21.l5 (call : CallF) (vs_12 : List Value) (W13 : World) : Option Res :=
  let t0_13 := nth vs_12 0
  let v9 := nth vs_12 1
  (nilV Try.prog t0_13).bind fun v99 =>
  (prun Try.prog (Instr.fieldAt 54 v99 4)).bind fun v100 =>
  (rrun Try.prog (Instr.loadAt 52 v100) W13).bind fun v101 =>
  (prun Try.prog (Builtin.len_ #[52] 3 #[v101])).bind fun v102 =>
  (bin .lss v9 v102).bind fun v103 =>
  (asB v103).bind fun c103 =>
  if c103 then
    ((iter (f21.l4 call) [t0_13, v9, (Value.int IntKind.i64 0)] W13).bind fun (r : Res) => (r.unblock 10).cont fun vs_15 W16 =>
    let t0_16 := nth vs_15 0
    let v9_3 := nth vs_15 1
    some (Res.norm [t0_16, v9_3] W16)).bind fun (r : Res) => (r.unblock 9).cont fun vs_16 W17 =>
    let t0_17 := nth vs_16 0
    let v9_4 := nth vs_16 1
    (bin .add v9_4 (Value.int IntKind.i64 1)).bind fun v105 =>
    some (Res.norm [t0_17, v105] W17)
  else
  some (Res.exit 8 [t0_13] W13)
noncomputable def f21.l6 (call : CallF) (vs_19 : List Value) (W20 : World) : Option Res :=
  let t0_20 := nth vs_19 0
  let v11_1 := nth vs_19 1
  let v12_1 := nth vs_19 2
  let v13 := nth vs_19 3
  let v14 := nth vs_19 4
  (bin .lss v14 (Value.int IntKind.i64 20)).bind fun v147 =>
  (asB v147).bind fun c147 =>
  if c147 then
    ((bin .rem v12_1 (Value.int IntKind.i64 250)).bind fun v152 =>
    (bin .add (Value.int IntKind.i64 1) v152).bind fun v153 =>
    (prun Try.prog (convert 3 5 v153)).bind fun v154 =>
    (erun Try.prog (Instr.buildSlice 23 1 #[(0, v154)]) W20).bind fun r155 =>
    (erun Try.prog (Builtin.append_ #[23, 23] 23 #[v13, r155.1]) r155.2).bind fun r156 =>
    some (Res.norm [t0_20, v11_1, v12_1, r156.1, v14] r156.2)).bind fun (r : Res) => (r.unblock 15).cont fun vs_20 W21 =>
    let t0_21 := nth vs_20 0
    let v11_2 := nth vs_20 1
    let v12_2 := nth vs_20 2
    let v13_1 := nth vs_20 3
    let v14_1 := nth vs_20 4
    (bin .add v14_1 (Value.int IntKind.i64 1)).bind fun v149 =>
    some (Res.norm [t0_21, v11_2, v12_2, v13_1, v149] W21)
  else
  some (Res.exit 14 [t0_20, v11_1, v12_1, v13] W20)
noncomputable def f21.l7 (call : CallF) (vs_18 : List Value) (W19 : World) : Option Res :=
  let t0_19 := nth vs_18 0
  let v11 := nth vs_18 1
  let v12 := nth vs_18 2
  (nilV Try.prog t0_19).bind fun v132 =>
  (prun Try.prog (Instr.fieldAt 54 v132 3)).bind fun v133 =>
  (rrun Try.prog (Instr.loadAt 51 v133) W19).bind fun v134 =>
  (prun Try.prog (Builtin.len_ #[51] 3 #[v134])).bind fun v135 =>
  (bin .lss v12 v135).bind fun v136 =>
  (asB v136).bind fun c136 =>
  if c136 then
    ((nilV Try.prog t0_19).bind fun v140 =>
    (prun Try.prog (Instr.fieldAt 54 v140 3)).bind fun v141 =>
    (rrun Try.prog (Instr.loadAt 51 v141) W19).bind fun v142 =>
    (prun Try.prog (Instr.indexAt 51 v142 v12)).bind fun v144 =>
    (rrun Try.prog (Instr.loadAt 23 v144) W19).bind fun v145 =>
    (iter (f21.l6 call) [t0_19, v11, v12, v145, (Value.int IntKind.i64 0)] W19).bind fun (r : Res) => (r.unblock 14).cont fun vs_21 W22 =>
    let t0_22 := nth vs_21 0
    let v11_3 := nth vs_21 1
    let v12_3 := nth vs_21 2
    let v13_2 := nth vs_21 3
    (erun Try.prog (Instr.buildSlice 51 1 #[(0, v13_2)]) W22).bind fun r159 =>
    (erun Try.prog (Builtin.append_ #[51, 51] 51 #[v11_3, r159.1]) r159.2).bind fun r160 =>
    some (Res.norm [t0_22, r160.1, v12_3] r160.2)).bind fun (r : Res) => (r.unblock 13).cont fun vs_22 W23 =>
    let t0_23 := nth vs_22 0
    let v11_4 := nth vs_22 1
    let v12_4 := nth vs_22 2
    (bin .add v12_4 (Value.int IntKind.i64 1)).bind fun v138 =>
    some (Res.norm [t0_23, v11_4, v138] W23)
  else
  some (Res.exit 12 [t0_19, v11] W19)
noncomputable def f21.l8 (call : CallF) (vs_25 : List Value) (W26 : World) : Option Res :=
  let t0_26 := nth vs_25 0
  let v11_7 := nth vs_25 1
  let v15_1 := nth vs_25 2
  let v16_1 := nth vs_25 3
  let v17 := nth vs_25 4
  let v18 := nth vs_25 5
  (bin .lss v18 (Value.int IntKind.i64 20)).bind fun v178 =>
  (asB v178).bind fun c178 =>
  if c178 then
    ((bin .add (Value.int IntKind.i64 1000) v16_1).bind fun v183 =>
    (prun Try.prog (convert 3 43 v183)).bind fun v184 =>
    (erun Try.prog (Instr.buildSlice 37 1 #[(0, v184)]) W26).bind fun r185 =>
    (erun Try.prog (Builtin.append_ #[37, 37] 37 #[v17, r185.1]) r185.2).bind fun r186 =>
    some (Res.norm [t0_26, v11_7, v15_1, v16_1, r186.1, v18] r186.2)).bind fun (r : Res) => (r.unblock 19).cont fun vs_26 W27 =>
    let t0_27 := nth vs_26 0
    let v11_8 := nth vs_26 1
    let v15_2 := nth vs_26 2
    let v16_2 := nth vs_26 3
    let v17_1 := nth vs_26 4
    let v18_1 := nth vs_26 5
    (bin .add v18_1 (Value.int IntKind.i64 1)).bind fun v180 =>
    some (Res.norm [t0_27, v11_8, v15_2, v16_2, v17_1, v180] W27)
  else
  some (Res.exit 18 [t0_26, v11_7, v15_1, v16_1, v17] W26)
noncomputable def f21.l9 (call : CallF) (vs_24 : List Value) (W25 : World) : Option Res :=
  let t0_25 := nth vs_24 0
  let v11_6 := nth vs_24 1
  let v15 := nth vs_24 2
  let v16 := nth vs_24 3
  (nilV Try.prog t0_25).bind fun v163 =>
  (prun Try.prog (Instr.fieldAt 54 v163 4)).bind fun v164 =>
  (rrun Try.prog (Instr.loadAt 52 v164) W25).bind fun v165 =>
  (prun Try.prog (Builtin.len_ #[52] 3 #[v165])).bind fun v166 =>
  (bin .lss v16 v166).bind fun v167 =>
  (asB v167).bind fun c167 =>
  if c167 then
    ((nilV Try.prog t0_25).bind fun v171 =>
    (prun Try.prog (Instr.fieldAt 54 v171 4)).bind fun v172 =>
    (rrun Try.prog (Instr.loadAt 52 v172) W25).bind fun v173 =>
    (prun Try.prog (Instr.indexAt 52 v173 v16)).bind fun v175 =>
    (rrun Try.prog (Instr.loadAt 37 v175) W25).bind fun v176 =>
    (iter (f21.l8 call) [t0_25, v11_6, v15, v16, v176, (Value.int IntKind.i64 0)] W25).bind fun (r : Res) => (r.unblock 18).cont fun vs_27 W28 =>
    let t0_28 := nth vs_27 0
    let v11_9 := nth vs_27 1
    let v15_3 := nth vs_27 2
    let v16_3 := nth vs_27 3
    let v17_2 := nth vs_27 4
    (erun Try.prog (Instr.buildSlice 52 1 #[(0, v17_2)]) W28).bind fun r189 =>
    (erun Try.prog (Builtin.append_ #[52, 52] 52 #[v15_3, r189.1]) r189.2).bind fun r190 =>
    some (Res.norm [t0_28, v11_9, r190.1, v16_3] r190.2)).bind fun (r : Res) => (r.unblock 17).cont fun vs_28 W29 =>
    let t0_29 := nth vs_28 0
    let v11_10 := nth vs_28 1
    let v15_4 := nth vs_28 2
    let v16_4 := nth vs_28 3
    (bin .add v16_4 (Value.int IntKind.i64 1)).bind fun v169 =>
    some (Res.norm [t0_29, v11_10, v15_4, v169] W29)
  else
  some (Res.exit 16 [t0_25, v11_6, v15] W25)
noncomputable def f21.l10 (call : CallF) (vs_30 : List Value) (W31 : World) : Option Res :=
  let t0_31 := nth vs_30 0
  let v11_12 := nth vs_30 1
  let v15_6 := nth vs_30 2
  let v19 := nth vs_30 3
  (nilV Try.prog t0_31).bind fun v193 =>
  (prun Try.prog (Instr.fieldAt 54 v193 3)).bind fun v194 =>
  (rrun Try.prog (Instr.loadAt 51 v194) W31).bind fun v195 =>
  (prun Try.prog (Builtin.len_ #[51] 3 #[v195])).bind fun v196 =>
  (bin .lss v19 v196).bind fun v197 =>
  (asB v197).bind fun c197 =>
  if c197 then
    ((nilV Try.prog t0_31).bind fun v201 =>
    (prun Try.prog (Instr.fieldAt 54 v201 3)).bind fun v202 =>
    (rrun Try.prog (Instr.loadAt 51 v202) W31).bind fun v203 =>
    (prun Try.prog (Instr.indexAt 51 v203 v19)).bind fun v205 =>
    (rrun Try.prog (Instr.loadAt 23 v205) W31).bind fun v206 =>
    (bin .rem v19 (Value.int IntKind.i64 250)).bind fun v208 =>
    (bin .add (Value.int IntKind.i64 1) v208).bind fun v209 =>
    (prun Try.prog (convert 3 5 v209)).bind fun v210 =>
    (call 18 #[v206, v210] W31).bind fun r211 =>
    (prun Try.prog (Instr.indexAt 51 v11_12 v19)).bind fun v214 =>
    (rrun Try.prog (Instr.loadAt 23 v214) r211.2).bind fun v215 =>
    (bin .rem v19 (Value.int IntKind.i64 250)).bind fun v217 =>
    (bin .add (Value.int IntKind.i64 1) v217).bind fun v218 =>
    (prun Try.prog (convert 3 5 v218)).bind fun v219 =>
    (call 18 #[v215, v219] r211.2).bind fun r220 =>
    (prun Try.prog (Op.unary .not r211.1)).bind fun v222 =>
    (asB v222).bind fun b223 =>
    (if b223 = false then (prun Try.prog (Op.unary .not r220.1)).bind fun v225 =>
      some (v225, r220.2)
     else some ((Value.bool true), r220.2)).bind fun r226 =>
    (asB r226.1).bind fun c226 =>
    if c226 then
      some (Res.ret [(Value.bool false)] r226.2)
    else
    some (Res.norm [t0_31, v11_12, v15_6, v19] r226.2)).bind fun (r : Res) => (r.unblock 21).cont fun vs_31 W32 =>
    let t0_32 := nth vs_31 0
    let v11_13 := nth vs_31 1
    let v15_7 := nth vs_31 2
    let v19_1 := nth vs_31 3
    (bin .add v19_1 (Value.int IntKind.i64 1)).bind fun v199 =>
    some (Res.norm [t0_32, v11_13, v15_7, v199] W32)
  else
  some (Res.exit 20 [t0_31, v15_6] W31)
noncomputable def f21.l11 (call : CallF) (vs_33 : List Value) (W34 : World) : Option Res :=
  let t0_34 := nth vs_33 0
  let v15_9 := nth vs_33 1
  let v22 := nth vs_33 2
  (nilV Try.prog t0_34).bind fun v229 =>
  (prun Try.prog (Instr.fieldAt 54 v229 4)).bind fun v230 =>
  (rrun Try.prog (Instr.loadAt 52 v230) W34).bind fun v231 =>
  (prun Try.prog (Builtin.len_ #[52] 3 #[v231])).bind fun v232 =>
  (bin .lss v22 v232).bind fun v233 =>
  (asB v233).bind fun c233 =>
  if c233 then
    ((nilV Try.prog t0_34).bind fun v237 =>
    (prun Try.prog (Instr.fieldAt 54 v237 4)).bind fun v238 =>
    (rrun Try.prog (Instr.loadAt 52 v238) W34).bind fun v239 =>
    (prun Try.prog (Instr.indexAt 52 v239 v22)).bind fun v241 =>
    (rrun Try.prog (Instr.loadAt 37 v241) W34).bind fun v242 =>
    (bin .add (Value.int IntKind.i64 1000) v22).bind fun v244 =>
    (prun Try.prog (convert 3 43 v244)).bind fun v245 =>
    (call 17 #[v242, v245] W34).bind fun r246 =>
    (prun Try.prog (Instr.indexAt 52 v15_9 v22)).bind fun v249 =>
    (rrun Try.prog (Instr.loadAt 37 v249) r246.2).bind fun v250 =>
    (bin .add (Value.int IntKind.i64 1000) v22).bind fun v252 =>
    (prun Try.prog (convert 3 43 v252)).bind fun v253 =>
    (call 17 #[v250, v253] r246.2).bind fun r254 =>
    (prun Try.prog (Op.unary .not r246.1)).bind fun v256 =>
    (asB v256).bind fun b257 =>
    (if b257 = false then (prun Try.prog (Op.unary .not r254.1)).bind fun v259 =>
      some (v259, r254.2)
     else some ((Value.bool true), r254.2)).bind fun r260 =>
    (asB r260.1).bind fun c260 =>
    if c260 then
      some (Res.ret [(Value.bool false)] r260.2)
    else
    some (Res.norm [t0_34, v15_9, v22] r260.2)).bind fun (r : Res) => (r.unblock 23).cont fun vs_34 W35 =>
    let t0_35 := nth vs_34 0
    let v15_10 := nth vs_34 1
    let v22_1 := nth vs_34 2
    (bin .add v22_1 (Value.int IntKind.i64 1)).bind fun v235 =>
    some (Res.norm [t0_35, v15_10, v235] W35)
  else
  some (Res.exit 22 [] W34)
noncomputable def f21 (call : CallF) (t0 : Value) (W0 : World) : Option (Value × World) :=
  ((iter (f21.l0 call) [t0, (Value.int IntKind.i64 0)] W0).bind fun (r : Res) => (r.unblock 0).cont fun vs_2 W3 =>
  let t0_3 := nth vs_2 0
  (iter (f21.l1 call) [t0_3, (Value.int IntKind.i64 0)] W3).bind fun (r : Res) => (r.unblock 2).cont fun vs_5 W6 =>
  let t0_6 := nth vs_5 0
  (iter (f21.l3 call) [t0_6, (Value.int IntKind.i64 0)] W6).bind fun (r : Res) => (r.unblock 4).cont fun vs_11 W12 =>
  let t0_12 := nth vs_11 0
  (iter (f21.l5 call) [t0_12, (Value.int IntKind.i64 0)] W12).bind fun (r : Res) => (r.unblock 8).cont fun vs_17 W18 =>
  let t0_18 := nth vs_17 0
  (iter (f21.l7 call) [t0_18, (Value.slice none 0 0), (Value.int IntKind.i64 0)] W18).bind fun (r : Res) => (r.unblock 12).cont fun vs_23 W24 =>
  let t0_24 := nth vs_23 0
  let v11_5 := nth vs_23 1
  (iter (f21.l9 call) [t0_24, v11_5, (Value.slice none 0 0), (Value.int IntKind.i64 0)] W24).bind fun (r : Res) => (r.unblock 16).cont fun vs_29 W30 =>
  let t0_30 := nth vs_29 0
  let v11_11 := nth vs_29 1
  let v15_5 := nth vs_29 2
  (iter (f21.l10 call) [t0_30, v11_11, v15_5, (Value.int IntKind.i64 0)] W30).bind fun (r : Res) => (r.unblock 20).cont fun vs_32 W33 =>
  let t0_33 := nth vs_32 0
  let v15_8 := nth vs_32 1
  (iter (f21.l11 call) [t0_33, v15_8, (Value.int IntKind.i64 0)] W33).bind fun (r : Res) => (r.unblock 22).cont fun vs_35 W36 =>
  some (Res.ret [(Value.bool true)] W36)).bind Res.done
theorem f21.eq (call dfr : CallF) (t0 : Value) (W0 : World) : aFun Try.prog call dfr Try.f21 f21.ann (ofArgs #[t0]) W0 = f21 call t0 W0 := by kernel_rfl

/-- (*dailies/arena.Arena).Mark -/
def f22.ann : Ann := (.s .z (.s .z .z))
noncomputable def f22 (call : CallF) (a0 : Value) (W0 : World) : Option (Value × World) :=
  ((nilV Try.prog a0).bind fun v4 =>
  (prun Try.prog (Instr.fieldAt 65 v4 1)).bind fun v5 =>
  (rrun Try.prog (Instr.loadAt 3 v5) W0).bind fun v6 =>
  some (Res.ret [v6] W0)).bind Res.done
theorem f22.eq (call dfr : CallF) (a0 : Value) (W0 : World) : aFun Try.prog call dfr Try.f22 f22.ann (ofArgs #[a0]) W0 = f22 call a0 W0 := by kernel_rfl

/-- (*dailies/arena.Arena).Peak -/
def f23.ann : Ann := (.s .z (.s .z .z))
noncomputable def f23 (call : CallF) (a0 : Value) (W0 : World) : Option (Value × World) :=
  ((nilV Try.prog a0).bind fun v4 =>
  (prun Try.prog (Instr.fieldAt 65 v4 2)).bind fun v5 =>
  (rrun Try.prog (Instr.loadAt 3 v5) W0).bind fun v6 =>
  some (Res.ret [v6] W0)).bind Res.done
theorem f23.eq (call dfr : CallF) (a0 : Value) (W0 : World) : aFun Try.prog call dfr Try.f23 f23.ann (ofArgs #[a0]) W0 = f23 call a0 W0 := by kernel_rfl

/-- dailies/view.Bound -/
def f24.ann : Ann := (.s .z (.s (.s .z (.c (.s .z .z) .z)) (.s .z .z)))
noncomputable def f24 (call : CallF) (limit0 : Value) (length1 : Value) (W0 : World) : Option (Value × World) :=
  ((bin .lss limit0 (Value.int IntKind.i64 0)).bind fun v7 =>
  (asB v7).bind fun b8 =>
  (if b8 = false then (bin .gtr limit0 (Value.int IntKind.i64 4194304)).bind fun v10 =>
    some (v10, W0)
   else some ((Value.bool true), W0)).bind fun r11 =>
  (asB r11.1).bind fun b12 =>
  (if b12 = false then (bin .lss length1 (Value.int IntKind.i64 0)).bind fun v14 =>
    some (v14, r11.2)
   else some ((Value.bool true), r11.2)).bind fun r15 =>
  (asB r15.1).bind fun b16 =>
  (if b16 = false then (bin .gtr length1 (Value.int IntKind.i64 268435456)).bind fun v18 =>
    some (v18, r15.2)
   else some ((Value.bool true), r15.2)).bind fun r19 =>
  (asB r19.1).bind fun c19 =>
  if c19 then
    some (Res.ret [(Value.int IntKind.i64 0), (Value.int IntKind.i64 1)] r19.2)
  else
  (bin .mul (Value.int IntKind.i64 4) limit0).bind fun v21 =>
  (bin .mul (Value.int IntKind.i64 2) length1).bind fun v23 =>
  (bin .add v21 v23).bind fun v24 =>
  some (Res.ret [v24, (Value.int IntKind.i64 0)] r19.2)).bind Res.done
theorem f24.eq (call dfr : CallF) (limit0 : Value) (length1 : Value) (W0 : World) : aFun Try.prog call dfr Try.f24 f24.ann (ofArgs #[limit0, length1]) W0 = f24 call limit0 length1 W0 := by kernel_rfl

/-- dailies/arena.give[uint16] -/
def f25.ann : Ann := (.s .z (.s (.b [0, 1, 2] (.s .z (.c (.s .z .z) (.s .z (.c (.s .z .z) .z))))) (.s .z (.s .z (.s .z (.s .z .z))))))
noncomputable def f25 (call : CallF) (a0 : Value) (n1 : Value) (size2 : Value) (W0 : World) : Option (Value × World) :=
  (((bin .lss n1 (Value.int IntKind.i64 0)).bind fun v11 =>
  (asB v11).bind fun c9 =>
  if c9 then
    some (Res.ret [(Value.slice none 0 0), (Value.int IntKind.i64 1)] W0)
  else
  (nilV Try.prog a0).bind fun v15 =>
  (prun Try.prog (Instr.fieldAt 65 v15 0)).bind fun v16 =>
  (rrun Try.prog (Instr.loadAt 3 v16) W0.drew).bind fun v17 =>
  (nilV Try.prog a0).bind fun v19 =>
  (prun Try.prog (Instr.fieldAt 65 v19 1)).bind fun v20 =>
  (rrun Try.prog (Instr.loadAt 3 v20) W0.drew).bind fun v21 =>
  (bin .sub v17 v21).bind fun v22 =>
  (bin .quo v22 size2).bind fun v24 =>
  (bin .gtr n1 v24).bind fun v25 =>
  (asB v25).bind fun c12 =>
  if c12 then
    some (Res.ret [(Value.slice none 0 0), (Value.int IntKind.i64 111)] W0.drew)
  else
  some (Res.norm [a0, n1, size2] W0.drew)).bind fun (r : Res) => (r.unblock 0).cont fun vs W1 =>
  let a0_1 := nth vs 0
  let n1_1 := nth vs 1
  let size2_1 := nth vs 2
  (nilV Try.prog a0_1).bind fun v27 =>
  (prun Try.prog (Instr.fieldAt 65 v27 1)).bind fun v28 =>
  (rrun Try.prog (Instr.loadAt 3 v28) W1).bind fun v29 =>
  (bin .mul n1_1 size2_1).bind fun v32 =>
  (bin .add v29 v32).bind fun v33 =>
  (nilV Try.prog a0_1).bind fun v34 =>
  (prun Try.prog (Instr.fieldAt 65 v34 1)).bind fun v35 =>
  (erun Try.prog (Instr.storeAt 3 v35 v33) W1).bind fun r =>
  (nilV Try.prog a0_1).bind fun v38 =>
  (prun Try.prog (Instr.fieldAt 65 v38 2)).bind fun v39 =>
  (rrun Try.prog (Instr.loadAt 3 v39) r.2.drew).bind fun v40 =>
  (nilV Try.prog a0_1).bind fun v42 =>
  (prun Try.prog (Instr.fieldAt 65 v42 1)).bind fun v43 =>
  (rrun Try.prog (Instr.loadAt 3 v43) r.2.drew).bind fun v44 =>
  (prun Try.prog (Builtin.max_ #[3, 3] 3 #[v40, v44])).bind fun v45 =>
  (nilV Try.prog a0_1).bind fun v46 =>
  (prun Try.prog (Instr.fieldAt 65 v46 2)).bind fun v47 =>
  (erun Try.prog (Instr.storeAt 3 v47 v45) r.2.drew).bind fun r_1 =>
  (erun Try.prog (Instr.makeSlice 37 n1_1 n1_1) r_1.2).bind fun r49 =>
  (prun Try.prog (Instr.sliceAt 37 r49.1 none (some n1_1) (some n1_1))).bind fun v53 =>
  some (Res.ret [v53, (Value.int IntKind.i64 0)] r49.2)).bind Res.done
theorem f25.eq (call dfr : CallF) (a0 : Value) (n1 : Value) (size2 : Value) (W0 : World) : aFun Try.prog call dfr Try.f25 f25.ann (ofArgs #[a0, n1, size2]) W0 = f25 call a0 n1 size2 W0 := by kernel_rfl

/-- dailies/arena.give[byte] -/
def f26.ann : Ann := (.s .z (.s (.b [0, 1, 2] (.s .z (.c (.s .z .z) (.s .z (.c (.s .z .z) .z))))) (.s .z (.s .z (.s .z (.s .z .z))))))
noncomputable def f26 (call : CallF) (a0 : Value) (n1 : Value) (size2 : Value) (W0 : World) : Option (Value × World) :=
  (((bin .lss n1 (Value.int IntKind.i64 0)).bind fun v11 =>
  (asB v11).bind fun c9 =>
  if c9 then
    some (Res.ret [(Value.slice none 0 0), (Value.int IntKind.i64 1)] W0)
  else
  (nilV Try.prog a0).bind fun v15 =>
  (prun Try.prog (Instr.fieldAt 65 v15 0)).bind fun v16 =>
  (rrun Try.prog (Instr.loadAt 3 v16) W0.drew).bind fun v17 =>
  (nilV Try.prog a0).bind fun v19 =>
  (prun Try.prog (Instr.fieldAt 65 v19 1)).bind fun v20 =>
  (rrun Try.prog (Instr.loadAt 3 v20) W0.drew).bind fun v21 =>
  (bin .sub v17 v21).bind fun v22 =>
  (bin .quo v22 size2).bind fun v24 =>
  (bin .gtr n1 v24).bind fun v25 =>
  (asB v25).bind fun c12 =>
  if c12 then
    some (Res.ret [(Value.slice none 0 0), (Value.int IntKind.i64 111)] W0.drew)
  else
  some (Res.norm [a0, n1, size2] W0.drew)).bind fun (r : Res) => (r.unblock 0).cont fun vs W1 =>
  let a0_1 := nth vs 0
  let n1_1 := nth vs 1
  let size2_1 := nth vs 2
  (nilV Try.prog a0_1).bind fun v27 =>
  (prun Try.prog (Instr.fieldAt 65 v27 1)).bind fun v28 =>
  (rrun Try.prog (Instr.loadAt 3 v28) W1).bind fun v29 =>
  (bin .mul n1_1 size2_1).bind fun v32 =>
  (bin .add v29 v32).bind fun v33 =>
  (nilV Try.prog a0_1).bind fun v34 =>
  (prun Try.prog (Instr.fieldAt 65 v34 1)).bind fun v35 =>
  (erun Try.prog (Instr.storeAt 3 v35 v33) W1).bind fun r =>
  (nilV Try.prog a0_1).bind fun v38 =>
  (prun Try.prog (Instr.fieldAt 65 v38 2)).bind fun v39 =>
  (rrun Try.prog (Instr.loadAt 3 v39) r.2.drew).bind fun v40 =>
  (nilV Try.prog a0_1).bind fun v42 =>
  (prun Try.prog (Instr.fieldAt 65 v42 1)).bind fun v43 =>
  (rrun Try.prog (Instr.loadAt 3 v43) r.2.drew).bind fun v44 =>
  (prun Try.prog (Builtin.max_ #[3, 3] 3 #[v40, v44])).bind fun v45 =>
  (nilV Try.prog a0_1).bind fun v46 =>
  (prun Try.prog (Instr.fieldAt 65 v46 2)).bind fun v47 =>
  (erun Try.prog (Instr.storeAt 3 v47 v45) r.2.drew).bind fun r_1 =>
  (erun Try.prog (Instr.makeSlice 23 n1_1 n1_1) r_1.2).bind fun r49 =>
  (prun Try.prog (Instr.sliceAt 23 r49.1 none (some n1_1) (some n1_1))).bind fun v53 =>
  some (Res.ret [v53, (Value.int IntKind.i64 0)] r49.2)).bind Res.done
theorem f26.eq (call dfr : CallF) (a0 : Value) (n1 : Value) (size2 : Value) (W0 : World) : aFun Try.prog call dfr Try.f26 f26.ann (ofArgs #[a0, n1, size2]) W0 = f26 call a0 n1 size2 W0 := by kernel_rfl

/-- dailies/dailiesref11.New -/
def f27.ann : Ann := (.s .z (.s (.s .z (.c (.s .z .z) .z)) (.s .z .z)))
noncomputable def f27 (call : CallF) (most0 : Value) (W0 : World) : Option (Value × World) :=
  ((bin .lss most0 (Value.int IntKind.i64 0)).bind fun v5 =>
  (asB v5).bind fun b6 =>
  (if b6 = false then (bin .gtr most0 (Value.int IntKind.i64 1073741824)).bind fun v8 =>
    some (v8, W0)
   else some ((Value.bool true), W0)).bind fun r9 =>
  (asB r9.1).bind fun c9 =>
  if c9 then
    some (Res.ret [(Value.pointer none), (Value.int IntKind.i64 1)] r9.2)
  else
  (prun Try.prog (Instr.build 73 #[(0, most0)])).bind fun v11 =>
  (erun Try.prog (Instr.box 73 v11) r9.2).bind fun r12 =>
  some (Res.ret [r12.1, (Value.int IntKind.i64 0)] r12.2)).bind Res.done
theorem f27.eq (call dfr : CallF) (most0 : Value) (W0 : World) : aFun Try.prog call dfr Try.f27 f27.ann (ofArgs #[most0]) W0 = f27 call most0 W0 := by kernel_rfl

/-- (*dailies/dailieslaw11.World).gives -/
def f28.ann : Ann := (.s .z (.s .z (.s (.s .z (.c (.s .z (.s .z (.s (.s .z (.c (.s .z .z) .z)) (.s .z (.s .z (.s .z .z)))))) .z)) (.s .z (.s .z (.s (.s .z (.c (.s .z .z) .z)) (.s .z (.s .z (.s .z .z)))))))))
noncomputable def f28 (call : CallF) (t0 : Value) (o1 : Value) (A2 : Value) (W0 : World) : Option (Value × World) :=
  ((erun Try.prog (Instr.box 57 A2) W0).bind fun r5 =>
  (prun Try.prog (Instr.fieldAt 57 r5.1 2)).bind fun v14 =>
  (rrun Try.prog (Instr.loadAt 3 v14) r5.2).bind fun v15 =>
  (call 30 #[v15] r5.2).bind fun r16 =>
  (prun Try.prog (Instr.fieldAt 57 r5.1 0)).bind fun v17 =>
  (rrun Try.prog (Instr.loadAt 3 v17) r16.2).bind fun v18 =>
  (bin .eql v18 (Value.int IntKind.i64 2)).bind fun v19 =>
  (asB v19).bind fun c19 =>
  if c19 then
    (nilV Try.prog t0).bind fun v22 =>
    (prun Try.prog (Instr.fieldAt 54 v22 0)).bind fun v23 =>
    (rrun Try.prog (Instr.loadAt 48 v23) r16.2).bind fun v24 =>
    (prun Try.prog (Instr.indexAt 48 v24 o1)).bind fun v26 =>
    (rrun Try.prog (Instr.loadAt 34 v26) r16.2).bind fun v27 =>
    (call 15 #[v27, r16.1] r16.2).bind fun r29 =>
    (prun Try.prog (Instr.extract r29.1 0)).bind fun v30 =>
    (prun Try.prog (Instr.extract r29.1 1)).bind fun v31 =>
    (nilV Try.prog t0).bind fun v33 =>
    (prun Try.prog (Instr.fieldAt 54 v33 1)).bind fun v34 =>
    (rrun Try.prog (Instr.loadAt 49 v34) r29.2).bind fun v35 =>
    (prun Try.prog (Instr.indexAt 49 v35 o1)).bind fun v37 =>
    (rrun Try.prog (Instr.loadAt 68 v37) r29.2).bind fun v38 =>
    (call 31 #[v38, r16.1, (Value.int IntKind.i64 1)] r29.2).bind fun r40 =>
    (bin .neq v31 r40.1).bind fun v43 =>
    (asB v43).bind fun b44 =>
    (if b44 = false then (bin .eql v31 (Value.int IntKind.i64 0)).bind fun v46 =>
      (asB v46).bind fun b47 =>
      (if b47 = true then (prun Try.prog (Builtin.len_ #[23] 3 #[v30])).bind fun v49 =>
        (bin .neq v49 r16.1).bind fun v51 =>
        some (v51, r40.2)
       else some ((Value.bool false), r40.2)).bind fun r52 =>
      some (r52.1, r52.2)
     else some ((Value.bool true), r40.2)).bind fun r53 =>
    (asB r53.1).bind fun b54 =>
    (if b54 = false then (bin .neq v31 (Value.int IntKind.i64 0)).bind fun v56 =>
      (asB v56).bind fun b57 =>
      (if b57 = true then (prun Try.prog (Builtin.len_ #[23] 3 #[v30])).bind fun v59 =>
        (bin .neq v59 (Value.int IntKind.i64 0)).bind fun v60 =>
        some (v60, r53.2)
       else some ((Value.bool false), r53.2)).bind fun r61 =>
      some (r61.1, r61.2)
     else some ((Value.bool true), r53.2)).bind fun r62 =>
    (asB r62.1).bind fun c62 =>
    if c62 then
      some (Res.ret [(Value.bool false)] r62.2)
    else
    (nilV Try.prog t0).bind fun v65 =>
    (prun Try.prog (Instr.fieldAt 54 v65 3)).bind fun v66 =>
    (rrun Try.prog (Instr.loadAt 51 v66) r62.2).bind fun v67 =>
    (erun Try.prog (Instr.buildSlice 51 1 #[(0, v30)]) r62.2).bind fun r69 =>
    (erun Try.prog (Builtin.append_ #[51, 51] 51 #[v67, r69.1]) r69.2).bind fun r70 =>
    (nilV Try.prog t0).bind fun v71 =>
    (prun Try.prog (Instr.fieldAt 54 v71 3)).bind fun v72 =>
    (erun Try.prog (Instr.storeAt 51 v72 r70.1) r70.2).bind fun r =>
    (nilV Try.prog t0).bind fun v75 =>
    (prun Try.prog (Instr.fieldAt 54 v75 5)).bind fun v76 =>
    (rrun Try.prog (Instr.loadAt 3 v76) r.2).bind fun v77 =>
    (prun Try.prog (Builtin.len_ #[23] 3 #[v30])).bind fun v79 =>
    (bin .add v77 v79).bind fun v80 =>
    (nilV Try.prog t0).bind fun v81 =>
    (prun Try.prog (Instr.fieldAt 54 v81 5)).bind fun v82 =>
    (erun Try.prog (Instr.storeAt 3 v82 v80) r.2).bind fun r_1 =>
    some (Res.ret [(Value.bool true)] r_1.2)
  else
  (nilV Try.prog t0).bind fun v85 =>
  (prun Try.prog (Instr.fieldAt 54 v85 0)).bind fun v86 =>
  (rrun Try.prog (Instr.loadAt 48 v86) r16.2).bind fun v87 =>
  (prun Try.prog (Instr.indexAt 48 v87 o1)).bind fun v89 =>
  (rrun Try.prog (Instr.loadAt 34 v89) r16.2).bind fun v90 =>
  (call 13 #[v90, r16.1] r16.2).bind fun r92 =>
  (prun Try.prog (Instr.extract r92.1 0)).bind fun v93 =>
  (prun Try.prog (Instr.extract r92.1 1)).bind fun v94 =>
  (nilV Try.prog t0).bind fun v96 =>
  (prun Try.prog (Instr.fieldAt 54 v96 1)).bind fun v97 =>
  (rrun Try.prog (Instr.loadAt 49 v97) r92.2).bind fun v98 =>
  (prun Try.prog (Instr.indexAt 49 v98 o1)).bind fun v100 =>
  (rrun Try.prog (Instr.loadAt 68 v100) r92.2).bind fun v101 =>
  (call 31 #[v101, r16.1, (Value.int IntKind.i64 2)] r92.2).bind fun r103 =>
  (bin .neq v94 r103.1).bind fun v106 =>
  (asB v106).bind fun b107 =>
  (if b107 = false then (bin .eql v94 (Value.int IntKind.i64 0)).bind fun v109 =>
    (asB v109).bind fun b110 =>
    (if b110 = true then (prun Try.prog (Builtin.len_ #[37] 3 #[v93])).bind fun v112 =>
      (bin .neq v112 r16.1).bind fun v114 =>
      some (v114, r103.2)
     else some ((Value.bool false), r103.2)).bind fun r115 =>
    some (r115.1, r115.2)
   else some ((Value.bool true), r103.2)).bind fun r116 =>
  (asB r116.1).bind fun b117 =>
  (if b117 = false then (bin .neq v94 (Value.int IntKind.i64 0)).bind fun v119 =>
    (asB v119).bind fun b120 =>
    (if b120 = true then (prun Try.prog (Builtin.len_ #[37] 3 #[v93])).bind fun v122 =>
      (bin .neq v122 (Value.int IntKind.i64 0)).bind fun v123 =>
      some (v123, r116.2)
     else some ((Value.bool false), r116.2)).bind fun r124 =>
    some (r124.1, r124.2)
   else some ((Value.bool true), r116.2)).bind fun r125 =>
  (asB r125.1).bind fun c125 =>
  if c125 then
    some (Res.ret [(Value.bool false)] r125.2)
  else
  (nilV Try.prog t0).bind fun v128 =>
  (prun Try.prog (Instr.fieldAt 54 v128 4)).bind fun v129 =>
  (rrun Try.prog (Instr.loadAt 52 v129) r125.2).bind fun v130 =>
  (erun Try.prog (Instr.buildSlice 52 1 #[(0, v93)]) r125.2).bind fun r132 =>
  (erun Try.prog (Builtin.append_ #[52, 52] 52 #[v130, r132.1]) r132.2).bind fun r133 =>
  (nilV Try.prog t0).bind fun v134 =>
  (prun Try.prog (Instr.fieldAt 54 v134 4)).bind fun v135 =>
  (erun Try.prog (Instr.storeAt 52 v135 r133.1) r133.2).bind fun r_2 =>
  (nilV Try.prog t0).bind fun v138 =>
  (prun Try.prog (Instr.fieldAt 54 v138 5)).bind fun v139 =>
  (rrun Try.prog (Instr.loadAt 3 v139) r_2.2).bind fun v140 =>
  (prun Try.prog (Builtin.len_ #[37] 3 #[v93])).bind fun v142 =>
  (bin .mul (Value.int IntKind.i64 2) v142).bind fun v143 =>
  (bin .add v140 v143).bind fun v144 =>
  (nilV Try.prog t0).bind fun v145 =>
  (prun Try.prog (Instr.fieldAt 54 v145 5)).bind fun v146 =>
  (erun Try.prog (Instr.storeAt 3 v146 v144) r_2.2).bind fun r_3 =>
  some (Res.ret [(Value.bool true)] r_3.2)).bind Res.done
theorem f28.eq (call dfr : CallF) (t0 : Value) (o1 : Value) (A2 : Value) (W0 : World) : aFun Try.prog call dfr Try.f28 f28.ann (ofArgs #[t0, o1, A2]) W0 = f28 call t0 o1 A2 W0 := by kernel_rfl

/-- (*dailies/dailiesref11.Arena).Release -/
def f29.ann : Ann := (.s .z (.s (.s .z (.c (.s .z .z) .z)) (.s .z (.s .z .z))))
noncomputable def f29 (call : CallF) (a0 : Value) (mark1 : Value) (W0 : World) : Option (Value × World) :=
  ((bin .lss mark1 (Value.int IntKind.i64 0)).bind fun v6 =>
  (asB v6).bind fun b7 =>
  (if b7 = false then (nilV Try.prog a0).bind fun v10 =>
    (prun Try.prog (Instr.fieldAt 73 v10 1)).bind fun v11 =>
    (rrun Try.prog (Instr.loadAt 3 v11) W0).bind fun v12 =>
    (bin .gtr mark1 v12).bind fun v13 =>
    some (v13, W0)
   else some ((Value.bool true), W0)).bind fun r14 =>
  (asB r14.1).bind fun c14 =>
  if c14 then
    some (Res.ret [(Value.int IntKind.i64 1)] r14.2)
  else
  (nilV Try.prog a0).bind fun v17 =>
  (prun Try.prog (Instr.fieldAt 73 v17 1)).bind fun v18 =>
  (erun Try.prog (Instr.storeAt 3 v18 mark1) r14.2).bind fun r =>
  some (Res.ret [(Value.int IntKind.i64 0)] r.2)).bind Res.done
theorem f29.eq (call dfr : CallF) (a0 : Value) (mark1 : Value) (W0 : World) : aFun Try.prog call dfr Try.f29 f29.ann (ofArgs #[a0, mark1]) W0 = f29 call a0 mark1 W0 := by kernel_rfl

/-- dailies/dailieslaw11.asked -/
def f30.ann : Ann := (.s .z (.s (.s .z (.c (.s .z .z) .z)) (.s .z .z)))
noncomputable def f30 (call : CallF) (n0 : Value) (W0 : World) : Option (Value × World) :=
  ((bin .geq n0 (Value.int IntKind.i64 262144)).bind fun v4 =>
  (asB v4).bind fun b5 =>
  (if b5 = true then (bin .leq n0 (Value.int IntKind.i64 2147483648)).bind fun v7 =>
    some (v7, W0)
   else some ((Value.bool false), W0)).bind fun r8 =>
  (asB r8.1).bind fun c8 =>
  if c8 then
    (bin .rem n0 (Value.int IntKind.i64 262144)).bind fun v10 =>
    some (Res.ret [v10] r8.2)
  else
  some (Res.ret [n0] r8.2)).bind Res.done
theorem f30.eq (call dfr : CallF) (n0 : Value) (W0 : World) : aFun Try.prog call dfr Try.f30 f30.ann (ofArgs #[n0]) W0 = f30 call n0 W0 := by kernel_rfl

/-- (*dailies/dailiesref11.Arena).Take -/
def f31.ann : Ann := (.s .z (.s (.s .z (.c (.s .z .z) .z)) (.s (.s .z (.c (.s .z .z) .z)) (.s .z (.s .z (.s .z .z))))))
noncomputable def f31 (call : CallF) (a0 : Value) (n1 : Value) (size2 : Value) (W0 : World) : Option (Value × World) :=
  ((bin .lss n1 (Value.int IntKind.i64 0)).bind fun v8 =>
  (asB v8).bind fun c8 =>
  if c8 then
    some (Res.ret [(Value.int IntKind.i64 1)] W0)
  else
  (nilV Try.prog a0).bind fun v11 =>
  (prun Try.prog (Instr.fieldAt 73 v11 0)).bind fun v12 =>
  (rrun Try.prog (Instr.loadAt 3 v12) W0.drew).bind fun v13 =>
  (nilV Try.prog a0).bind fun v15 =>
  (prun Try.prog (Instr.fieldAt 73 v15 1)).bind fun v16 =>
  (rrun Try.prog (Instr.loadAt 3 v16) W0.drew).bind fun v17 =>
  (bin .sub v13 v17).bind fun v18 =>
  (bin .quo v18 size2).bind fun v20 =>
  (bin .gtr n1 v20).bind fun v21 =>
  (asB v21).bind fun c21 =>
  if c21 then
    some (Res.ret [(Value.int IntKind.i64 111)] W0.drew)
  else
  (nilV Try.prog a0).bind fun v24 =>
  (prun Try.prog (Instr.fieldAt 73 v24 1)).bind fun v25 =>
  (rrun Try.prog (Instr.loadAt 3 v25) W0.drew).bind fun v26 =>
  (bin .mul size2 n1).bind fun v29 =>
  (bin .add v26 v29).bind fun v30 =>
  (nilV Try.prog a0).bind fun v31 =>
  (prun Try.prog (Instr.fieldAt 73 v31 1)).bind fun v32 =>
  (erun Try.prog (Instr.storeAt 3 v32 v30) W0.drew).bind fun r =>
  (nilV Try.prog a0).bind fun v35 =>
  (prun Try.prog (Instr.fieldAt 73 v35 2)).bind fun v36 =>
  (rrun Try.prog (Instr.loadAt 3 v36) r.2.drew).bind fun v37 =>
  (nilV Try.prog a0).bind fun v39 =>
  (prun Try.prog (Instr.fieldAt 73 v39 1)).bind fun v40 =>
  (rrun Try.prog (Instr.loadAt 3 v40) r.2.drew).bind fun v41 =>
  (prun Try.prog (Builtin.max_ #[3, 3] 3 #[v37, v41])).bind fun v42 =>
  (nilV Try.prog a0).bind fun v43 =>
  (prun Try.prog (Instr.fieldAt 73 v43 2)).bind fun v44 =>
  (erun Try.prog (Instr.storeAt 3 v44 v42) r.2.drew).bind fun r_1 =>
  some (Res.ret [(Value.int IntKind.i64 0)] r_1.2)).bind Res.done
theorem f31.eq (call dfr : CallF) (a0 : Value) (n1 : Value) (size2 : Value) (W0 : World) : aFun Try.prog call dfr Try.f31 f31.ann (ofArgs #[a0, n1, size2]) W0 = f31 call a0 n1 size2 W0 := by kernel_rfl

/-- (dailies/view.held).Read -/
def f49.ann : Ann := (.s .z (.s (.s .z (.c (.s .z .z) .z)) (.s .z .z)))
noncomputable def f49 (call : CallF) (s0 : Value) (at1 : Value) (n2 : Value) (W0 : World) : Option (Value × World) :=
  ((erun Try.prog (Instr.box 63 s0) W0).bind fun r3 =>
  (bin .lss at1 (Value.int IntKind.i64 0)).bind fun v9 =>
  (asB v9).bind fun b10 =>
  (if b10 = false then (bin .lss n2 (Value.int IntKind.i64 0)).bind fun v12 =>
    some (v12, r3.2)
   else some ((Value.bool true), r3.2)).bind fun r13 =>
  (asB r13.1).bind fun b14 =>
  (if b14 = false then (prun Try.prog (Instr.fieldAt 63 r3.1 0)).bind fun v16 =>
    (rrun Try.prog (Instr.loadAt 23 v16) r13.2).bind fun v17 =>
    (prun Try.prog (Builtin.len_ #[23] 3 #[v17])).bind fun v18 =>
    (bin .gtr at1 v18).bind fun v19 =>
    some (v19, r13.2)
   else some ((Value.bool true), r13.2)).bind fun r20 =>
  (asB r20.1).bind fun b21 =>
  (if b21 = false then (prun Try.prog (Instr.fieldAt 63 r3.1 0)).bind fun v23 =>
    (rrun Try.prog (Instr.loadAt 23 v23) r20.2).bind fun v24 =>
    (prun Try.prog (Builtin.len_ #[23] 3 #[v24])).bind fun v25 =>
    (bin .sub v25 at1).bind fun v27 =>
    (bin .gtr n2 v27).bind fun v28 =>
    some (v28, r20.2)
   else some ((Value.bool true), r20.2)).bind fun r29 =>
  (asB r29.1).bind fun c29 =>
  if c29 then
    some (Res.ret [(Value.slice none 0 0), (Value.int IntKind.i64 151)] r29.2)
  else
  (erun Try.prog (Instr.buildSlice 23 0 #[]) r29.2).bind fun r30 =>
  (prun Try.prog (Instr.fieldAt 63 r3.1 0)).bind fun v31 =>
  (rrun Try.prog (Instr.loadAt 23 v31) r30.2).bind fun v32 =>
  (bin .add at1 n2).bind fun v36 =>
  (prun Try.prog (Instr.sliceAt 23 v32 (some at1) (some v36) none)).bind fun v37 =>
  (erun Try.prog (Builtin.append_ #[23, 23] 23 #[r30.1, v37]) r30.2).bind fun r38 =>
  some (Res.ret [r38.1, (Value.int IntKind.i64 0)] r38.2)).bind Res.done
theorem f49.eq (call dfr : CallF) (s0 : Value) (at1 : Value) (n2 : Value) (W0 : World) : aFun Try.prog call dfr Try.f49 f49.ann (ofArgs #[s0, at1, n2]) W0 = f49 call s0 at1 n2 W0 := by kernel_rfl

/-- (dailies/view.held).Size -/
def f50.ann : Ann := (.s .z (.s .z .z))
noncomputable def f50 (call : CallF) (s0 : Value) (W0 : World) : Option (Value × World) :=
  ((erun Try.prog (Instr.box 63 s0) W0).bind fun r1 =>
  (prun Try.prog (Instr.fieldAt 63 r1.1 0)).bind fun v3 =>
  (rrun Try.prog (Instr.loadAt 23 v3) r1.2).bind fun v4 =>
  (prun Try.prog (Builtin.len_ #[23] 3 #[v4])).bind fun v5 =>
  some (Res.ret [v5] r1.2)).bind Res.done
theorem f50.eq (call dfr : CallF) (s0 : Value) (W0 : World) : aFun Try.prog call dfr Try.f50 f50.ann (ofArgs #[s0]) W0 = f50 call s0 W0 := by kernel_rfl

def anns (f : FuncId) : Ann := match f with
  | 3 => f3.ann
  | 4 => f4.ann
  | 5 => f5.ann
  | 6 => f6.ann
  | 7 => f7.ann
  | 8 => f8.ann
  | 9 => f9.ann
  | 10 => f10.ann
  | 11 => f11.ann
  | 12 => f12.ann
  | 13 => f13.ann
  | 14 => f14.ann
  | 15 => f15.ann
  | 16 => f16.ann
  | 17 => f17.ann
  | 18 => f18.ann
  | 19 => f19.ann
  | 20 => f20.ann
  | 21 => f21.ann
  | 22 => f22.ann
  | 23 => f23.ann
  | 24 => f24.ann
  | 25 => f25.ann
  | 26 => f26.ann
  | 27 => f27.ann
  | 28 => f28.ann
  | 29 => f29.ann
  | 30 => f30.ann
  | 31 => f31.ann
  | 49 => f49.ann
  | 50 => f50.ann
  | _ => .z
noncomputable abbrev R (prim : Prim) : CallF := Go.Sh.run Try.prog anns prim
theorem f3.run {prim : Prim} {w : World} {r : Value × World} (hn : prim.call 3 #[] w = none) (h : f3 (R prim)  w = some r) : R prim 3 #[] w = some r := run_body Try.func3 (by kernel_rfl) hn (by rw [show anns 3 = f3.ann from rfl, f3.eq]; exact h)
theorem f4.run {prim : Prim} {t0 o1 A2 : Value} {w : World} {r : Value × World} (hn : prim.call 4 #[t0, o1, A2] w = none) (h : f4 (R prim) t0 o1 A2 w = some r) : R prim 4 #[t0, o1, A2] w = some r := run_body Try.func4 (by kernel_rfl) hn (by rw [show anns 4 = f4.ann from rfl, f4.eq]; exact h)
theorem f5.run {prim : Prim} {t0 o1 : Value} {w : World} {r : Value × World} (hn : prim.call 5 #[t0, o1] w = none) (h : f5 (R prim) t0 o1 w = some r) : R prim 5 #[t0, o1] w = some r := run_body Try.func5 (by kernel_rfl) hn (by rw [show anns 5 = f5.ann from rfl, f5.eq]; exact h)
theorem f6.run {prim : Prim} {most0 script1 : Value} {w : World} {r : Value × World} (hn : prim.call 6 #[most0, script1] w = none) (h : f6 (R prim) most0 script1 w = some r) : R prim 6 #[most0, script1] w = some r := run_body Try.func6 (by kernel_rfl) hn (by rw [show anns 6 = f6.ann from rfl, f6.eq]; exact h)
theorem f7.run {prim : Prim} {t0 o1 A2 : Value} {w : World} {r : Value × World} (hn : prim.call 7 #[t0, o1, A2] w = none) (h : f7 (R prim) t0 o1 A2 w = some r) : R prim 7 #[t0, o1, A2] w = some r := run_body Try.func7 (by kernel_rfl) hn (by rw [show anns 7 = f7.ann from rfl, f7.eq]; exact h)
theorem f8.run {prim : Prim} {w : World} {r : Value × World} (hn : prim.call 8 #[] w = none) (h : f8 (R prim)  w = some r) : R prim 8 #[] w = some r := run_body Try.func8 (by kernel_rfl) hn (by rw [show anns 8 = f8.ann from rfl, f8.eq]; exact h)
theorem f9.run {prim : Prim} {b0 : Value} {w : World} {r : Value × World} (hn : prim.call 9 #[b0] w = none) (h : f9 (R prim) b0 w = some r) : R prim 9 #[b0] w = some r := run_body Try.func9 (by kernel_rfl) hn (by rw [show anns 9 = f9.ann from rfl, f9.eq]; exact h)
theorem f10.run {prim : Prim} {w : World} {r : Value × World} (hn : prim.call 10 #[] w = none) (h : f10 (R prim)  w = some r) : R prim 10 #[] w = some r := run_body Try.func10 (by kernel_rfl) hn (by rw [show anns 10 = f10.ann from rfl, f10.eq]; exact h)
theorem f11.run {prim : Prim} {c0 n1 : Value} {w : World} {r : Value × World} (hn : prim.call 11 #[c0, n1] w = none) (h : f11 (R prim) c0 n1 w = some r) : R prim 11 #[c0, n1] w = some r := run_body Try.func11 (by kernel_rfl) hn (by rw [show anns 11 = f11.ann from rfl, f11.eq]; exact h)
theorem f12.run {prim : Prim} {most0 : Value} {w : World} {r : Value × World} (hn : prim.call 12 #[most0] w = none) (h : f12 (R prim) most0 w = some r) : R prim 12 #[most0] w = some r := run_body Try.func12 (by kernel_rfl) hn (by rw [show anns 12 = f12.ann from rfl, f12.eq]; exact h)
theorem f13.run {prim : Prim} {a0 n1 : Value} {w : World} {r : Value × World} (hn : prim.call 13 #[a0, n1] w = none) (h : f13 (R prim) a0 n1 w = some r) : R prim 13 #[a0, n1] w = some r := run_body Try.func13 (by kernel_rfl) hn (by rw [show anns 13 = f13.ann from rfl, f13.eq]; exact h)
theorem f14.run {prim : Prim} {a0 mark1 : Value} {w : World} {r : Value × World} (hn : prim.call 14 #[a0, mark1] w = none) (h : f14 (R prim) a0 mark1 w = some r) : R prim 14 #[a0, mark1] w = some r := run_body Try.func14 (by kernel_rfl) hn (by rw [show anns 14 = f14.ann from rfl, f14.eq]; exact h)
theorem f15.run {prim : Prim} {a0 n1 : Value} {w : World} {r : Value × World} (hn : prim.call 15 #[a0, n1] w = none) (h : f15 (R prim) a0 n1 w = some r) : R prim 15 #[a0, n1] w = some r := run_body Try.func15 (by kernel_rfl) hn (by rw [show anns 15 = f15.ann from rfl, f15.eq]; exact h)
theorem f16.run {prim : Prim} {a0 : Value} {w : World} {r : Value × World} (hn : prim.call 16 #[a0] w = none) (h : f16 (R prim) a0 w = some r) : R prim 16 #[a0] w = some r := run_body Try.func16 (by kernel_rfl) hn (by rw [show anns 16 = f16.ann from rfl, f16.eq]; exact h)
theorem f17.run {prim : Prim} {l0 m1 : Value} {w : World} {r : Value × World} (hn : prim.call 17 #[l0, m1] w = none) (h : f17 (R prim) l0 m1 w = some r) : R prim 17 #[l0, m1] w = some r := run_body Try.func17 (by kernel_rfl) hn (by rw [show anns 17 = f17.ann from rfl, f17.eq]; exact h)
theorem f18.run {prim : Prim} {l0 m1 : Value} {w : World} {r : Value × World} (hn : prim.call 18 #[l0, m1] w = none) (h : f18 (R prim) l0 m1 w = some r) : R prim 18 #[l0, m1] w = some r := run_body Try.func18 (by kernel_rfl) hn (by rw [show anns 18 = f18.ann from rfl, f18.eq]; exact h)
theorem f19.run {prim : Prim} {t0 o1 : Value} {w : World} {r : Value × World} (hn : prim.call 19 #[t0, o1] w = none) (h : f19 (R prim) t0 o1 w = some r) : R prim 19 #[t0, o1] w = some r := run_body Try.func19 (by kernel_rfl) hn (by rw [show anns 19 = f19.ann from rfl, f19.eq]; exact h)
theorem f20.run {prim : Prim} {w0 : Value} {w : World} {r : Value × World} (hn : prim.call 20 #[w0] w = none) (h : f20 (R prim) w0 w = some r) : R prim 20 #[w0] w = some r := run_body Try.func20 (by kernel_rfl) hn (by rw [show anns 20 = f20.ann from rfl, f20.eq]; exact h)
theorem f21.run {prim : Prim} {t0 : Value} {w : World} {r : Value × World} (hn : prim.call 21 #[t0] w = none) (h : f21 (R prim) t0 w = some r) : R prim 21 #[t0] w = some r := run_body Try.func21 (by kernel_rfl) hn (by rw [show anns 21 = f21.ann from rfl, f21.eq]; exact h)
theorem f22.run {prim : Prim} {a0 : Value} {w : World} {r : Value × World} (hn : prim.call 22 #[a0] w = none) (h : f22 (R prim) a0 w = some r) : R prim 22 #[a0] w = some r := run_body Try.func22 (by kernel_rfl) hn (by rw [show anns 22 = f22.ann from rfl, f22.eq]; exact h)
theorem f23.run {prim : Prim} {a0 : Value} {w : World} {r : Value × World} (hn : prim.call 23 #[a0] w = none) (h : f23 (R prim) a0 w = some r) : R prim 23 #[a0] w = some r := run_body Try.func23 (by kernel_rfl) hn (by rw [show anns 23 = f23.ann from rfl, f23.eq]; exact h)
theorem f24.run {prim : Prim} {limit0 length1 : Value} {w : World} {r : Value × World} (hn : prim.call 24 #[limit0, length1] w = none) (h : f24 (R prim) limit0 length1 w = some r) : R prim 24 #[limit0, length1] w = some r := run_body Try.func24 (by kernel_rfl) hn (by rw [show anns 24 = f24.ann from rfl, f24.eq]; exact h)
theorem f25.run {prim : Prim} {a0 n1 size2 : Value} {w : World} {r : Value × World} (hn : prim.call 25 #[a0, n1, size2] w = none) (h : f25 (R prim) a0 n1 size2 w = some r) : R prim 25 #[a0, n1, size2] w = some r := run_body Try.func25 (by kernel_rfl) hn (by rw [show anns 25 = f25.ann from rfl, f25.eq]; exact h)
theorem f26.run {prim : Prim} {a0 n1 size2 : Value} {w : World} {r : Value × World} (hn : prim.call 26 #[a0, n1, size2] w = none) (h : f26 (R prim) a0 n1 size2 w = some r) : R prim 26 #[a0, n1, size2] w = some r := run_body Try.func26 (by kernel_rfl) hn (by rw [show anns 26 = f26.ann from rfl, f26.eq]; exact h)
theorem f27.run {prim : Prim} {most0 : Value} {w : World} {r : Value × World} (hn : prim.call 27 #[most0] w = none) (h : f27 (R prim) most0 w = some r) : R prim 27 #[most0] w = some r := run_body Try.func27 (by kernel_rfl) hn (by rw [show anns 27 = f27.ann from rfl, f27.eq]; exact h)
theorem f28.run {prim : Prim} {t0 o1 A2 : Value} {w : World} {r : Value × World} (hn : prim.call 28 #[t0, o1, A2] w = none) (h : f28 (R prim) t0 o1 A2 w = some r) : R prim 28 #[t0, o1, A2] w = some r := run_body Try.func28 (by kernel_rfl) hn (by rw [show anns 28 = f28.ann from rfl, f28.eq]; exact h)
theorem f29.run {prim : Prim} {a0 mark1 : Value} {w : World} {r : Value × World} (hn : prim.call 29 #[a0, mark1] w = none) (h : f29 (R prim) a0 mark1 w = some r) : R prim 29 #[a0, mark1] w = some r := run_body Try.func29 (by kernel_rfl) hn (by rw [show anns 29 = f29.ann from rfl, f29.eq]; exact h)
theorem f30.run {prim : Prim} {n0 : Value} {w : World} {r : Value × World} (hn : prim.call 30 #[n0] w = none) (h : f30 (R prim) n0 w = some r) : R prim 30 #[n0] w = some r := run_body Try.func30 (by kernel_rfl) hn (by rw [show anns 30 = f30.ann from rfl, f30.eq]; exact h)
theorem f31.run {prim : Prim} {a0 n1 size2 : Value} {w : World} {r : Value × World} (hn : prim.call 31 #[a0, n1, size2] w = none) (h : f31 (R prim) a0 n1 size2 w = some r) : R prim 31 #[a0, n1, size2] w = some r := run_body Try.func31 (by kernel_rfl) hn (by rw [show anns 31 = f31.ann from rfl, f31.eq]; exact h)
theorem f49.run {prim : Prim} {s0 at1 n2 : Value} {w : World} {r : Value × World} (hn : prim.call 49 #[s0, at1, n2] w = none) (h : f49 (R prim) s0 at1 n2 w = some r) : R prim 49 #[s0, at1, n2] w = some r := run_body Try.func49 (by kernel_rfl) hn (by rw [show anns 49 = f49.ann from rfl, f49.eq]; exact h)
theorem f50.run {prim : Prim} {s0 : Value} {w : World} {r : Value × World} (hn : prim.call 50 #[s0] w = none) (h : f50 (R prim) s0 w = some r) : R prim 50 #[s0] w = some r := run_body Try.func50 (by kernel_rfl) hn (by rw [show anns 50 = f50.ann from rfl, f50.eq]; exact h)

/-! ### facts of the types -/
noncomputable def inf (t : Nat) : TypeInfo := (Try.prog.info? t).getD default
@[simp] theorem len23 (ty : TypeId) (a : Option Addr) (n c : Nat) : prun Try.prog (Builtin.len_ #[23] ty #[.slice a n c]) = some (.int .i64 n) := len_slice Try.underlying23 ty a n c
@[simp] theorem len24 (ty : TypeId) (a : Option Addr) (n c : Nat) : prun Try.prog (Builtin.len_ #[24] ty #[.slice a n c]) = some (.int .i64 n) := len_slice Try.underlying24 ty a n c
@[simp] theorem len37 (ty : TypeId) (a : Option Addr) (n c : Nat) : prun Try.prog (Builtin.len_ #[37] ty #[.slice a n c]) = some (.int .i64 n) := len_slice Try.underlying37 ty a n c
@[simp] theorem len46 (ty : TypeId) (a : Option Addr) (n c : Nat) : prun Try.prog (Builtin.len_ #[46] ty #[.slice a n c]) = some (.int .i64 n) := len_slice Try.underlying46 ty a n c
@[simp] theorem len48 (ty : TypeId) (a : Option Addr) (n c : Nat) : prun Try.prog (Builtin.len_ #[48] ty #[.slice a n c]) = some (.int .i64 n) := len_slice Try.underlying48 ty a n c
@[simp] theorem len51 (ty : TypeId) (a : Option Addr) (n c : Nat) : prun Try.prog (Builtin.len_ #[51] ty #[.slice a n c]) = some (.int .i64 n) := len_slice Try.underlying51 ty a n c
@[simp] theorem len52 (ty : TypeId) (a : Option Addr) (n c : Nat) : prun Try.prog (Builtin.len_ #[52] ty #[.slice a n c]) = some (.int .i64 n) := len_slice Try.underlying52 ty a n c
@[simp] theorem ld3 (a : Addr) (w : World) : rrun Try.prog (Instr.loadAt 3 (.pointer (some a))) w = w.cell? a := load_one Try.underlying3 (by kernel_rfl) a w
@[simp] theorem ld5 (a : Addr) (w : World) : rrun Try.prog (Instr.loadAt 5 (.pointer (some a))) w = w.cell? a := load_one Try.underlying5 (by kernel_rfl) a w
@[simp] theorem ld23 (a : Addr) (w : World) : rrun Try.prog (Instr.loadAt 23 (.pointer (some a))) w = w.cell? a := load_one Try.underlying23 (by kernel_rfl) a w
@[simp] theorem ld24 (a : Addr) (w : World) : rrun Try.prog (Instr.loadAt 24 (.pointer (some a))) w = w.cell? a := load_one Try.underlying24 (by kernel_rfl) a w
@[simp] theorem ld34 (a : Addr) (w : World) : rrun Try.prog (Instr.loadAt 34 (.pointer (some a))) w = w.cell? a := load_one Try.underlying34 (by kernel_rfl) a w
@[simp] theorem ld37 (a : Addr) (w : World) : rrun Try.prog (Instr.loadAt 37 (.pointer (some a))) w = w.cell? a := load_one Try.underlying37 (by kernel_rfl) a w
@[simp] theorem ld43 (a : Addr) (w : World) : rrun Try.prog (Instr.loadAt 43 (.pointer (some a))) w = w.cell? a := load_one Try.underlying43 (by kernel_rfl) a w
@[simp] theorem ld48 (a : Addr) (w : World) : rrun Try.prog (Instr.loadAt 48 (.pointer (some a))) w = w.cell? a := load_one Try.underlying48 (by kernel_rfl) a w
@[simp] theorem ld49 (a : Addr) (w : World) : rrun Try.prog (Instr.loadAt 49 (.pointer (some a))) w = w.cell? a := load_one Try.underlying49 (by kernel_rfl) a w
@[simp] theorem ld50 (a : Addr) (w : World) : rrun Try.prog (Instr.loadAt 50 (.pointer (some a))) w = w.cell? a := load_one Try.underlying50 (by kernel_rfl) a w
@[simp] theorem ld51 (a : Addr) (w : World) : rrun Try.prog (Instr.loadAt 51 (.pointer (some a))) w = w.cell? a := load_one Try.underlying51 (by kernel_rfl) a w
@[simp] theorem ld52 (a : Addr) (w : World) : rrun Try.prog (Instr.loadAt 52 (.pointer (some a))) w = w.cell? a := load_one Try.underlying52 (by kernel_rfl) a w
theorem inf57 : Try.prog.info? 57 = some (inf 57) := by kernel_rfl
theorem size57 : (inf 57).size = 3 := by kernel_rfl
theorem ld57 {a : Addr} {w : World} {v0 v1 v2 : Value} (h0 : w.cell? (a.add 0) = some v0) (h1 : w.cell? (a.add 1) = some v1) (h2 : w.cell? (a.add 2) = some v2) : rrun Try.prog (Instr.loadAt 57 (.pointer (some a))) w = some (.agg #[v0, v1, v2]) := load_agg (vs := [v0, v1, v2]) inf57 (by kernel_rfl) (by rw [size57]; rfl) ⟨h0, h1, h2, trivial⟩
@[simp] theorem ld68 (a : Addr) (w : World) : rrun Try.prog (Instr.loadAt 68 (.pointer (some a))) w = w.cell? a := load_one Try.underlying68 (by kernel_rfl) a w
theorem inf3 : Try.prog.info? 3 = some (inf 3) := by kernel_rfl
theorem size3 : (inf 3).size = 1 := by kernel_rfl
theorem st3 {a : Addr} {w : World} {v u : Value} (hv : v.cells = #[v]) (ho : v.oneCell' = true) (hc : w.cell? a = some u) (hf : w.frozen? a = false) : erun Try.prog (Instr.storeAt 3 (.pointer (some a)) v) w = some ((), w.setCell a v) := store_one inf3 size3 hv ho hc hf
theorem inf5 : Try.prog.info? 5 = some (inf 5) := by kernel_rfl
theorem size5 : (inf 5).size = 1 := by kernel_rfl
theorem st5 {a : Addr} {w : World} {v u : Value} (hv : v.cells = #[v]) (ho : v.oneCell' = true) (hc : w.cell? a = some u) (hf : w.frozen? a = false) : erun Try.prog (Instr.storeAt 5 (.pointer (some a)) v) w = some ((), w.setCell a v) := store_one inf5 size5 hv ho hc hf
theorem inf24 : Try.prog.info? 24 = some (inf 24) := by kernel_rfl
theorem size24 : (inf 24).size = 1 := by kernel_rfl
theorem st24 {a : Addr} {w : World} {v u : Value} (hv : v.cells = #[v]) (ho : v.oneCell' = true) (hc : w.cell? a = some u) (hf : w.frozen? a = false) : erun Try.prog (Instr.storeAt 24 (.pointer (some a)) v) w = some ((), w.setCell a v) := store_one inf24 size24 hv ho hc hf
theorem inf43 : Try.prog.info? 43 = some (inf 43) := by kernel_rfl
theorem size43 : (inf 43).size = 1 := by kernel_rfl
theorem st43 {a : Addr} {w : World} {v u : Value} (hv : v.cells = #[v]) (ho : v.oneCell' = true) (hc : w.cell? a = some u) (hf : w.frozen? a = false) : erun Try.prog (Instr.storeAt 43 (.pointer (some a)) v) w = some ((), w.setCell a v) := store_one inf43 size43 hv ho hc hf
theorem inf48 : Try.prog.info? 48 = some (inf 48) := by kernel_rfl
theorem size48 : (inf 48).size = 1 := by kernel_rfl
theorem st48 {a : Addr} {w : World} {v u : Value} (hv : v.cells = #[v]) (ho : v.oneCell' = true) (hc : w.cell? a = some u) (hf : w.frozen? a = false) : erun Try.prog (Instr.storeAt 48 (.pointer (some a)) v) w = some ((), w.setCell a v) := store_one inf48 size48 hv ho hc hf
theorem inf49 : Try.prog.info? 49 = some (inf 49) := by kernel_rfl
theorem size49 : (inf 49).size = 1 := by kernel_rfl
theorem st49 {a : Addr} {w : World} {v u : Value} (hv : v.cells = #[v]) (ho : v.oneCell' = true) (hc : w.cell? a = some u) (hf : w.frozen? a = false) : erun Try.prog (Instr.storeAt 49 (.pointer (some a)) v) w = some ((), w.setCell a v) := store_one inf49 size49 hv ho hc hf
theorem inf50 : Try.prog.info? 50 = some (inf 50) := by kernel_rfl
theorem size50 : (inf 50).size = 1 := by kernel_rfl
theorem st50 {a : Addr} {w : World} {v u : Value} (hv : v.cells = #[v]) (ho : v.oneCell' = true) (hc : w.cell? a = some u) (hf : w.frozen? a = false) : erun Try.prog (Instr.storeAt 50 (.pointer (some a)) v) w = some ((), w.setCell a v) := store_one inf50 size50 hv ho hc hf
theorem inf51 : Try.prog.info? 51 = some (inf 51) := by kernel_rfl
theorem size51 : (inf 51).size = 1 := by kernel_rfl
theorem st51 {a : Addr} {w : World} {v u : Value} (hv : v.cells = #[v]) (ho : v.oneCell' = true) (hc : w.cell? a = some u) (hf : w.frozen? a = false) : erun Try.prog (Instr.storeAt 51 (.pointer (some a)) v) w = some ((), w.setCell a v) := store_one inf51 size51 hv ho hc hf
theorem inf52 : Try.prog.info? 52 = some (inf 52) := by kernel_rfl
theorem size52 : (inf 52).size = 1 := by kernel_rfl
theorem st52 {a : Addr} {w : World} {v u : Value} (hv : v.cells = #[v]) (ho : v.oneCell' = true) (hc : w.cell? a = some u) (hf : w.frozen? a = false) : erun Try.prog (Instr.storeAt 52 (.pointer (some a)) v) w = some ((), w.setCell a v) := store_one inf52 size52 hv ho hc hf
@[simp] theorem fa54_0 (a : Addr) : prun Try.prog (Instr.fieldAt 54 (.pointer (some a)) 0) = some (.pointer (some (a.add 0))) := id (by kernel_rfl)
@[simp] theorem fa54_1 (a : Addr) : prun Try.prog (Instr.fieldAt 54 (.pointer (some a)) 1) = some (.pointer (some (a.add 1))) := id (by kernel_rfl)
@[simp] theorem fa54_2 (a : Addr) : prun Try.prog (Instr.fieldAt 54 (.pointer (some a)) 2) = some (.pointer (some (a.add 2))) := id (by kernel_rfl)
@[simp] theorem fa54_3 (a : Addr) : prun Try.prog (Instr.fieldAt 54 (.pointer (some a)) 3) = some (.pointer (some (a.add 3))) := id (by kernel_rfl)
@[simp] theorem fa54_4 (a : Addr) : prun Try.prog (Instr.fieldAt 54 (.pointer (some a)) 4) = some (.pointer (some (a.add 4))) := id (by kernel_rfl)
@[simp] theorem fa54_5 (a : Addr) : prun Try.prog (Instr.fieldAt 54 (.pointer (some a)) 5) = some (.pointer (some (a.add 5))) := id (by kernel_rfl)
@[simp] theorem fa57_0 (a : Addr) : prun Try.prog (Instr.fieldAt 57 (.pointer (some a)) 0) = some (.pointer (some (a.add 0))) := id (by kernel_rfl)
@[simp] theorem fa57_1 (a : Addr) : prun Try.prog (Instr.fieldAt 57 (.pointer (some a)) 1) = some (.pointer (some (a.add 1))) := id (by kernel_rfl)
@[simp] theorem fa57_2 (a : Addr) : prun Try.prog (Instr.fieldAt 57 (.pointer (some a)) 2) = some (.pointer (some (a.add 2))) := id (by kernel_rfl)
@[simp] theorem fa63_0 (a : Addr) : prun Try.prog (Instr.fieldAt 63 (.pointer (some a)) 0) = some (.pointer (some (a.add 0))) := id (by kernel_rfl)
@[simp] theorem fa65_0 (a : Addr) : prun Try.prog (Instr.fieldAt 65 (.pointer (some a)) 0) = some (.pointer (some (a.add 0))) := id (by kernel_rfl)
@[simp] theorem fa65_1 (a : Addr) : prun Try.prog (Instr.fieldAt 65 (.pointer (some a)) 1) = some (.pointer (some (a.add 1))) := id (by kernel_rfl)
@[simp] theorem fa65_2 (a : Addr) : prun Try.prog (Instr.fieldAt 65 (.pointer (some a)) 2) = some (.pointer (some (a.add 2))) := id (by kernel_rfl)
@[simp] theorem fa73_0 (a : Addr) : prun Try.prog (Instr.fieldAt 73 (.pointer (some a)) 0) = some (.pointer (some (a.add 0))) := id (by kernel_rfl)
@[simp] theorem fa73_1 (a : Addr) : prun Try.prog (Instr.fieldAt 73 (.pointer (some a)) 1) = some (.pointer (some (a.add 1))) := id (by kernel_rfl)
@[simp] theorem fa73_2 (a : Addr) : prun Try.prog (Instr.fieldAt 73 (.pointer (some a)) 2) = some (.pointer (some (a.add 2))) := id (by kernel_rfl)
theorem ix23 (a : Addr) (n c : Nat) (k : IntKind) (j : Int) (h0 : 0 ≤ j) (h1 : j < n) : prun Try.prog (Instr.indexAt 23 (.slice (some a) n c) (.int k j)) = some (.pointer (some (a.add (j.toNat * 1)))) := by
  have h := index_slice Try.underlying23 inf5 a n c k j h0 h1
  rwa [size5] at h
theorem ix24 (a : Addr) (n c : Nat) (k : IntKind) (j : Int) (h0 : 0 ≤ j) (h1 : j < n) : prun Try.prog (Instr.indexAt 24 (.slice (some a) n c) (.int k j)) = some (.pointer (some (a.add (j.toNat * 1)))) := by
  have h := index_slice Try.underlying24 inf3 a n c k j h0 h1
  rwa [size3] at h
theorem ix37 (a : Addr) (n c : Nat) (k : IntKind) (j : Int) (h0 : 0 ≤ j) (h1 : j < n) : prun Try.prog (Instr.indexAt 37 (.slice (some a) n c) (.int k j)) = some (.pointer (some (a.add (j.toNat * 1)))) := by
  have h := index_slice Try.underlying37 inf43 a n c k j h0 h1
  rwa [size43] at h
theorem ix46 (a : Addr) (n c : Nat) (k : IntKind) (j : Int) (h0 : 0 ≤ j) (h1 : j < n) : prun Try.prog (Instr.indexAt 46 (.slice (some a) n c) (.int k j)) = some (.pointer (some (a.add (j.toNat * 3)))) := by
  have h := index_slice Try.underlying46 inf57 a n c k j h0 h1
  rwa [size57] at h
theorem inf34 : Try.prog.info? 34 = some (inf 34) := by kernel_rfl
theorem size34 : (inf 34).size = 1 := by kernel_rfl
theorem ix48 (a : Addr) (n c : Nat) (k : IntKind) (j : Int) (h0 : 0 ≤ j) (h1 : j < n) : prun Try.prog (Instr.indexAt 48 (.slice (some a) n c) (.int k j)) = some (.pointer (some (a.add (j.toNat * 1)))) := by
  have h := index_slice Try.underlying48 inf34 a n c k j h0 h1
  rwa [size34] at h
theorem inf68 : Try.prog.info? 68 = some (inf 68) := by kernel_rfl
theorem size68 : (inf 68).size = 1 := by kernel_rfl
theorem ix49 (a : Addr) (n c : Nat) (k : IntKind) (j : Int) (h0 : 0 ≤ j) (h1 : j < n) : prun Try.prog (Instr.indexAt 49 (.slice (some a) n c) (.int k j)) = some (.pointer (some (a.add (j.toNat * 1)))) := by
  have h := index_slice Try.underlying49 inf68 a n c k j h0 h1
  rwa [size68] at h
theorem ix50 (a : Addr) (n c : Nat) (k : IntKind) (j : Int) (h0 : 0 ≤ j) (h1 : j < n) : prun Try.prog (Instr.indexAt 50 (.slice (some a) n c) (.int k j)) = some (.pointer (some (a.add (j.toNat * 1)))) := by
  have h := index_slice Try.underlying50 inf24 a n c k j h0 h1
  rwa [size24] at h
theorem inf23 : Try.prog.info? 23 = some (inf 23) := by kernel_rfl
theorem size23 : (inf 23).size = 1 := by kernel_rfl
theorem ix51 (a : Addr) (n c : Nat) (k : IntKind) (j : Int) (h0 : 0 ≤ j) (h1 : j < n) : prun Try.prog (Instr.indexAt 51 (.slice (some a) n c) (.int k j)) = some (.pointer (some (a.add (j.toNat * 1)))) := by
  have h := index_slice Try.underlying51 inf23 a n c k j h0 h1
  rwa [size23] at h
theorem inf37 : Try.prog.info? 37 = some (inf 37) := by kernel_rfl
theorem size37 : (inf 37).size = 1 := by kernel_rfl
theorem ix52 (a : Addr) (n c : Nat) (k : IntKind) (j : Int) (h0 : 0 ≤ j) (h1 : j < n) : prun Try.prog (Instr.indexAt 52 (.slice (some a) n c) (.int k j)) = some (.pointer (some (a.add (j.toNat * 1)))) := by
  have h := index_slice Try.underlying52 inf37 a n c k j h0 h1
  rwa [size37] at h
theorem sl23 (a : Option Addr) (n c : Nat) (lo hi mx : Option Value) (l h m : Nat) (hb : prun Try.prog (Instr.sliceBounds true n c lo hi mx) = some (l, h, m)) : prun Try.prog (Instr.sliceAt 23 (.slice a n c) lo hi mx) = some (.slice (if m = l then a else a.map (·.add (l * 1))) (h - l) (m - l)) := by
  have h := slice_at Try.underlying23 inf5 a n c lo hi mx l h m hb
  rwa [size5] at h
theorem sl37 (a : Option Addr) (n c : Nat) (lo hi mx : Option Value) (l h m : Nat) (hb : prun Try.prog (Instr.sliceBounds true n c lo hi mx) = some (l, h, m)) : prun Try.prog (Instr.sliceAt 37 (.slice a n c) lo hi mx) = some (.slice (if m = l then a else a.map (·.add (l * 1))) (h - l) (m - l)) := by
  have h := slice_at Try.underlying37 inf43 a n c lo hi mx l h m hb
  rwa [size43] at h
theorem zero5 : (inf 5).zero = some (.int .u8 0) := by kernel_rfl
theorem bytes5 : (inf 5).bytes = 1 := id (by kernel_rfl)
theorem ap23 {w : World} {base : Nat} {ty : TypeId} {v : Value} {n : Nat} {xs : List Value} (hown : w.ownsRow base 5 1 v n xs) {A : Option Addr} {m c : Nat} {news : List Value} (hl : news.length = m * 1) (hr : Rd w A news) (hnil : A = none → c = 0) (h1 : ∀ u ∈ news, u.oneCell' = true) (h63 : n + m ≤ maxLen) (hbytes : (n + m) * 1 ≤ 140737488355328) (hbase : base ≤ w.heap.size) :
    ∃ v' w', erun Try.prog (Builtin.append_ #[23, 23] ty #[v, .slice A m c]) w = some (v', w') ∧ w'.ownsRow base 5 1 v' (n + m) (xs ++ news) ∧ w.grownBy w' v.ownBlock := e_append Try.underlying23 inf5 zero5 size5 bytes5 rfl (by decide) hown hl hr hnil h1 h63 hbytes hbase
theorem zero3 : (inf 3).zero = some (.int .i64 0) := by kernel_rfl
theorem bytes3 : (inf 3).bytes = 8 := id (by kernel_rfl)
theorem ap24 {w : World} {base : Nat} {ty : TypeId} {v : Value} {n : Nat} {xs : List Value} (hown : w.ownsRow base 3 1 v n xs) {A : Option Addr} {m c : Nat} {news : List Value} (hl : news.length = m * 1) (hr : Rd w A news) (hnil : A = none → c = 0) (h1 : ∀ u ∈ news, u.oneCell' = true) (h63 : n + m ≤ maxLen) (hbytes : (n + m) * 8 ≤ 140737488355328) (hbase : base ≤ w.heap.size) :
    ∃ v' w', erun Try.prog (Builtin.append_ #[24, 24] ty #[v, .slice A m c]) w = some (v', w') ∧ w'.ownsRow base 3 1 v' (n + m) (xs ++ news) ∧ w.grownBy w' v.ownBlock := e_append Try.underlying24 inf3 zero3 size3 bytes3 rfl (by decide) hown hl hr hnil h1 h63 hbytes hbase
theorem zero43 : (inf 43).zero = some (.int .u16 0) := by kernel_rfl
theorem bytes43 : (inf 43).bytes = 2 := id (by kernel_rfl)
theorem ap37 {w : World} {base : Nat} {ty : TypeId} {v : Value} {n : Nat} {xs : List Value} (hown : w.ownsRow base 43 1 v n xs) {A : Option Addr} {m c : Nat} {news : List Value} (hl : news.length = m * 1) (hr : Rd w A news) (hnil : A = none → c = 0) (h1 : ∀ u ∈ news, u.oneCell' = true) (h63 : n + m ≤ maxLen) (hbytes : (n + m) * 2 ≤ 140737488355328) (hbase : base ≤ w.heap.size) :
    ∃ v' w', erun Try.prog (Builtin.append_ #[37, 37] ty #[v, .slice A m c]) w = some (v', w') ∧ w'.ownsRow base 43 1 v' (n + m) (xs ++ news) ∧ w.grownBy w' v.ownBlock := e_append Try.underlying37 inf43 zero43 size43 bytes43 rfl (by decide) hown hl hr hnil h1 h63 hbytes hbase
theorem zero34 : (inf 34).zero = some (.pointer none) := by kernel_rfl
theorem bytes34 : (inf 34).bytes = 8 := id (by kernel_rfl)
theorem ap48 {w : World} {base : Nat} {ty : TypeId} {v : Value} {n : Nat} {xs : List Value} (hown : w.ownsRow base 34 1 v n xs) {A : Option Addr} {m c : Nat} {news : List Value} (hl : news.length = m * 1) (hr : Rd w A news) (hnil : A = none → c = 0) (h1 : ∀ u ∈ news, u.oneCell' = true) (h63 : n + m ≤ maxLen) (hbytes : (n + m) * 8 ≤ 140737488355328) (hbase : base ≤ w.heap.size) :
    ∃ v' w', erun Try.prog (Builtin.append_ #[48, 48] ty #[v, .slice A m c]) w = some (v', w') ∧ w'.ownsRow base 34 1 v' (n + m) (xs ++ news) ∧ w.grownBy w' v.ownBlock := e_append Try.underlying48 inf34 zero34 size34 bytes34 rfl (by decide) hown hl hr hnil h1 h63 hbytes hbase
theorem zero68 : (inf 68).zero = some (.pointer none) := by kernel_rfl
theorem bytes68 : (inf 68).bytes = 8 := id (by kernel_rfl)
theorem ap49 {w : World} {base : Nat} {ty : TypeId} {v : Value} {n : Nat} {xs : List Value} (hown : w.ownsRow base 68 1 v n xs) {A : Option Addr} {m c : Nat} {news : List Value} (hl : news.length = m * 1) (hr : Rd w A news) (hnil : A = none → c = 0) (h1 : ∀ u ∈ news, u.oneCell' = true) (h63 : n + m ≤ maxLen) (hbytes : (n + m) * 8 ≤ 140737488355328) (hbase : base ≤ w.heap.size) :
    ∃ v' w', erun Try.prog (Builtin.append_ #[49, 49] ty #[v, .slice A m c]) w = some (v', w') ∧ w'.ownsRow base 68 1 v' (n + m) (xs ++ news) ∧ w.grownBy w' v.ownBlock := e_append Try.underlying49 inf68 zero68 size68 bytes68 rfl (by decide) hown hl hr hnil h1 h63 hbytes hbase
theorem zero24 : (inf 24).zero = some (.slice none 0 0) := by kernel_rfl
theorem bytes24 : (inf 24).bytes = 24 := id (by kernel_rfl)
theorem ap50 {w : World} {base : Nat} {ty : TypeId} {v : Value} {n : Nat} {xs : List Value} (hown : w.ownsRow base 24 1 v n xs) {A : Option Addr} {m c : Nat} {news : List Value} (hl : news.length = m * 1) (hr : Rd w A news) (hnil : A = none → c = 0) (h1 : ∀ u ∈ news, u.oneCell' = true) (h63 : n + m ≤ maxLen) (hbytes : (n + m) * 24 ≤ 140737488355328) (hbase : base ≤ w.heap.size) :
    ∃ v' w', erun Try.prog (Builtin.append_ #[50, 50] ty #[v, .slice A m c]) w = some (v', w') ∧ w'.ownsRow base 24 1 v' (n + m) (xs ++ news) ∧ w.grownBy w' v.ownBlock := e_append Try.underlying50 inf24 zero24 size24 bytes24 rfl (by decide) hown hl hr hnil h1 h63 hbytes hbase
theorem zero23 : (inf 23).zero = some (.slice none 0 0) := by kernel_rfl
theorem bytes23 : (inf 23).bytes = 24 := id (by kernel_rfl)
theorem ap51 {w : World} {base : Nat} {ty : TypeId} {v : Value} {n : Nat} {xs : List Value} (hown : w.ownsRow base 23 1 v n xs) {A : Option Addr} {m c : Nat} {news : List Value} (hl : news.length = m * 1) (hr : Rd w A news) (hnil : A = none → c = 0) (h1 : ∀ u ∈ news, u.oneCell' = true) (h63 : n + m ≤ maxLen) (hbytes : (n + m) * 24 ≤ 140737488355328) (hbase : base ≤ w.heap.size) :
    ∃ v' w', erun Try.prog (Builtin.append_ #[51, 51] ty #[v, .slice A m c]) w = some (v', w') ∧ w'.ownsRow base 23 1 v' (n + m) (xs ++ news) ∧ w.grownBy w' v.ownBlock := e_append Try.underlying51 inf23 zero23 size23 bytes23 rfl (by decide) hown hl hr hnil h1 h63 hbytes hbase
theorem zero37 : (inf 37).zero = some (.slice none 0 0) := by kernel_rfl
theorem bytes37 : (inf 37).bytes = 24 := id (by kernel_rfl)
theorem ap52 {w : World} {base : Nat} {ty : TypeId} {v : Value} {n : Nat} {xs : List Value} (hown : w.ownsRow base 37 1 v n xs) {A : Option Addr} {m c : Nat} {news : List Value} (hl : news.length = m * 1) (hr : Rd w A news) (hnil : A = none → c = 0) (h1 : ∀ u ∈ news, u.oneCell' = true) (h63 : n + m ≤ maxLen) (hbytes : (n + m) * 24 ≤ 140737488355328) (hbase : base ≤ w.heap.size) :
    ∃ v' w', erun Try.prog (Builtin.append_ #[52, 52] ty #[v, .slice A m c]) w = some (v', w') ∧ w'.ownsRow base 37 1 v' (n + m) (xs ++ news) ∧ w.grownBy w' v.ownBlock := e_append Try.underlying52 inf37 zero37 size37 bytes37 rfl (by decide) hown hl hr hnil h1 h63 hbytes hbase
theorem mk23 {w : World} (base : Nat) (n : Nat) (hbytes : 1 * n ≤ 281474976710656) (h63 : n ≤ maxLen) (hbase : base ≤ w.heap.size) :
    ∃ w', erun Try.prog (Instr.makeSlice 23 (.int .i64 (n : Int)) (.int .i64 (n : Int))) w = some (.slice (some ⟨w.heap.size, 0, none⟩) n n, w') ∧ w'.ownsRow base 5 1 (.slice (some ⟨w.heap.size, 0, none⟩) n n) n (madeCells ((.int .u8 0) : Value).cells (n * 1)).toList ∧ w.grownBy w' none := e_make Try.underlying23 inf5 zero5 size5 .i64 .i64 n (by rw [bytes5]; exact hbytes) h63 hbase
theorem mk37 {w : World} (base : Nat) (n : Nat) (hbytes : 2 * n ≤ 281474976710656) (h63 : n ≤ maxLen) (hbase : base ≤ w.heap.size) :
    ∃ w', erun Try.prog (Instr.makeSlice 37 (.int .i64 (n : Int)) (.int .i64 (n : Int))) w = some (.slice (some ⟨w.heap.size, 0, none⟩) n n, w') ∧ w'.ownsRow base 43 1 (.slice (some ⟨w.heap.size, 0, none⟩) n n) n (madeCells ((.int .u16 0) : Value).cells (n * 1)).toList ∧ w.grownBy w' none := e_make Try.underlying37 inf43 zero43 size43 .i64 .i64 n (by rw [bytes43]; exact hbytes) h63 hbase
@[simp] theorem bs23_0 (w : World) : erun Try.prog (Instr.buildSlice 23 0 #[]) w = some (.slice (some ⟨w.heap.size, 0, none⟩) 0 0, w.alloc (.cells #[] 5)) := id (by kernel_rfl)
@[simp] theorem bs24_0 (w : World) : erun Try.prog (Instr.buildSlice 24 0 #[]) w = some (.slice (some ⟨w.heap.size, 0, none⟩) 0 0, w.alloc (.cells #[] 3)) := id (by kernel_rfl)
@[simp] theorem bs37_0 (w : World) : erun Try.prog (Instr.buildSlice 37 0 #[]) w = some (.slice (some ⟨w.heap.size, 0, none⟩) 0 0, w.alloc (.cells #[] 43)) := id (by kernel_rfl)
@[simp] theorem bs48_0 (w : World) : erun Try.prog (Instr.buildSlice 48 0 #[]) w = some (.slice (some ⟨w.heap.size, 0, none⟩) 0 0, w.alloc (.cells #[] 34)) := id (by kernel_rfl)
@[simp] theorem bs49_0 (w : World) : erun Try.prog (Instr.buildSlice 49 0 #[]) w = some (.slice (some ⟨w.heap.size, 0, none⟩) 0 0, w.alloc (.cells #[] 68)) := id (by kernel_rfl)
@[simp] theorem bs50_0 (w : World) : erun Try.prog (Instr.buildSlice 50 0 #[]) w = some (.slice (some ⟨w.heap.size, 0, none⟩) 0 0, w.alloc (.cells #[] 24)) := id (by kernel_rfl)
@[simp] theorem bs51_0 (w : World) : erun Try.prog (Instr.buildSlice 51 0 #[]) w = some (.slice (some ⟨w.heap.size, 0, none⟩) 0 0, w.alloc (.cells #[] 23)) := id (by kernel_rfl)
@[simp] theorem bs52_0 (w : World) : erun Try.prog (Instr.buildSlice 52 0 #[]) w = some (.slice (some ⟨w.heap.size, 0, none⟩) 0 0, w.alloc (.cells #[] 37)) := id (by kernel_rfl)
theorem tx23_9 {w : World} {A : Option Addr} {c : Nat} {l : List UInt8} {n : Nat} (hn : l.length = n) (hr : Rd w A (bv l)) : rrun Try.prog (convert 23 9 (.slice A n c)) w = some (.string ⟨l.toArray⟩) := e_text Try.underlying23 Try.underlying5 Try.underlying9 hn hr
@[simp] theorem eql9_s (x y : Operand) (a b : ByteArray) : prun Try.prog (do eqGuard .eql 9 x y (.string a) (.string b); binOp .eql 9 (.string a) (.string b)) = some (.bool (a.toList == b.toList)) := id (by kernel_rfl)
@[simp] theorem eql26_some (x y : Operand) (u : TypeId) (v : Value) (w : World) : rrun Try.prog (do eqGuard .eql 26 x y (.iface u v) .nilIface; binOp .eql 26 (.iface u v) .nilIface) w = some (.bool false) := id (by kernel_rfl)
@[simp] theorem eql26_none (x : Operand) (c : Value) (w : World) : rrun Try.prog (do eqGuard .eql 26 x (.const c) .nilIface .nilIface; binOp .eql 26 .nilIface .nilIface) w = some (.bool true) := id (by cases x <;> kernel_rfl)
@[simp] theorem eql34_some (x y : Operand) (a : Addr) (w : World) : rrun Try.prog (do eqGuard .eql 34 x y (.pointer (some a)) (.pointer none); binOp .eql 34 (.pointer (some a)) (.pointer none)) w = some (.bool false) := id (by kernel_rfl)
@[simp] theorem eql34_none (x y : Operand) (w : World) : rrun Try.prog (do eqGuard .eql 34 x y (.pointer none) (.pointer none); binOp .eql 34 (.pointer none) (.pointer none)) w = some (.bool true) := id (by kernel_rfl)
@[simp] theorem eql68_some (x y : Operand) (a : Addr) (w : World) : rrun Try.prog (do eqGuard .eql 68 x y (.pointer (some a)) (.pointer none); binOp .eql 68 (.pointer (some a)) (.pointer none)) w = some (.bool false) := id (by kernel_rfl)
@[simp] theorem eql68_none (x y : Operand) (w : World) : rrun Try.prog (do eqGuard .eql 68 x y (.pointer none) (.pointer none); binOp .eql 68 (.pointer none) (.pointer none)) w = some (.bool true) := id (by kernel_rfl)
@[simp] theorem neq4_b (x y : Operand) (a b : Bool) : prun Try.prog (do eqGuard .neq 4 x y (.bool a) (.bool b); binOp .neq 4 (.bool a) (.bool b)) = some (.bool (!(a == b))) := id (by kernel_rfl)
@[simp] theorem neq9_s (x y : Operand) (a b : ByteArray) : prun Try.prog (do eqGuard .neq 9 x y (.string a) (.string b); binOp .neq 9 (.string a) (.string b)) = some (.bool !(a.toList == b.toList)) := id (by kernel_rfl)
@[simp] theorem neq34_some (x y : Operand) (a : Addr) (w : World) : rrun Try.prog (do eqGuard .neq 34 x y (.pointer (some a)) (.pointer none); binOp .neq 34 (.pointer (some a)) (.pointer none)) w = some (.bool true) := id (by kernel_rfl)
@[simp] theorem neq34_none (x y : Operand) (w : World) : rrun Try.prog (do eqGuard .neq 34 x y (.pointer none) (.pointer none); binOp .neq 34 (.pointer none) (.pointer none)) w = some (.bool false) := id (by kernel_rfl)
@[simp] theorem mi63 (x : Value) : prun Try.prog (Instr.makeInterface 63 x) = some (.iface 63 x) := id (by kernel_rfl)
end Go.Sh.Ytocijepcfannnaa
