/- Functions of the seat's program as conditions over the layer 'Sh', written by a program of this session's own; no condition. -/
import Derived.Test.YtacfghffojijaaaDoorCF
import Derived.Test.YtacfghffojijaaaDoorShW
import Derived.KernelRfl
namespace Go.Sh.YtacfghffojijaaaDoor
open Go Go.Proofs
set_option linter.unusedVariables false
set_option maxRecDepth 100000
/-- dailies/dailieslaw20.ConformMixes, as a condition -/
def f3.wann : WAnn := (.s .r (.s .r (.s .r (.s .r (.s .r (.s (.s .r (.b [3, 4, 5] (.l [0, 3, 4, 5, 6, 7] (.s (.d [0, 3, 4, 5, 6, 7] (.s .z (.c .z .z))) (.s (.b [0, 3, 4, 5, 6, 7] (.s .r (.s (.d [0, 3, 4, 5, 6, 7] (.s .z (.c .z .z))) (.s .r (.b [0, 3, 4, 5, 6, 7] (.l [0, 3, 4, 5, 6, 7, 8] (.s (.d [0, 3, 4, 5, 6, 7, 8] (.s .z (.c .z .z))) (.s (.b [0, 3, 4, 5, 6, 7, 8] (.s .r (.s .r (.s (.t 16 [12] [0, 3, 4, 5, 6, 7, 8, 9, 10, 11, 12]) (.s .r (.s .r (.s (.t 24 [20] [0, 3, 4, 5, 6, 7, 8, 9, 10, 11, 12, 13, 14, 15, 16]) (.s (.d [0, 3, 4, 5, 6, 7, 8, 9, 10, 11, 15] (.s .z (.c (.s .z .z) .z))) (.s (.t 16 [12] [0, 3, 4, 5, 6, 7, 8, 11, 15, 17, 18]) (.s (.t 26 [5, 11, 22] [0, 3, 4, 5, 6, 7, 8, 11, 15, 17, 18, 19, 20]) (.d [0, 3, 4, 5, 6, 7, 8] (.s (.s .z (.c (.s .z .z) .z)) (.s .z .z))))))))))))) .r)))))))) .r))))) (.d [] (.s (.s .z (.b [3, 4] (.l [3, 4, 5, 21] (.s (.s .z (.c .z .z)) (.s (.b [3, 4, 5, 21] (.s .z (.s .z (.c (.s .z .z) .z)))) .z))))) (.s .z (.s (.s .z (.b [3, 23] (.l [3, 4, 23, 24] (.s (.s .z (.c .z .z)) (.s (.b [3, 4, 23, 24] .z) .z))))) (.s (.s .z (.b [3, 23] (.l [3, 23, 25] (.s (.s .z (.c .z .z)) (.s (.b [3, 23, 25] (.s .z (.b [3, 23, 25] (.l [3, 23, 25, 26] (.s (.s .z (.c .z .z)) (.s (.b [3, 23, 25, 26] .z) .z)))))) .z))))) (.s (.s .z (.b [3, 23] (.l [3, 23, 27] (.s (.s .z (.c .z .z)) (.s (.b [3, 23, 27] (.s .z (.s .z (.b [3, 23, 27] (.l [3, 23, 27, 28, 29] (.s (.s .z (.c .z .z)) (.s (.b [3, 23, 27, 28, 29] .z) .z))))))) .z))))) (.s (.s .z (.b [3] (.l [3, 23, 30] (.s (.s .z (.c .z .z)) (.s (.b [3, 23, 30] (.s .z (.b [3, 23, 30] (.l [3, 23, 30, 31] (.s (.s .z (.c .z .z)) (.s (.b [3, 23, 30, 31] (.s .z (.c (.s .z .z) .z))) .z)))))) .z))))) (.s .z .z))))))))))))))
noncomputable def f3.l0 (call : CallF) (vs_1 : List Value) (W2 : World) : Option Res :=
  let r3_1 := nth vs_1 0
  let r4_1 := nth vs_1 1
  let a5_1 := nth vs_1 2
  let v21 := nth vs_1 3
  (prun Tryd.prog (Builtin.len_ #[24] 3 #[r4_1])).bind fun v194 =>
  (bin .lss v21 v194).bind fun v195 =>
  (asB v195).bind fun c195 =>
  if c195 then
    ((prun Tryd.prog (Instr.indexAt 24 r4_1 v21)).bind fun v200 =>
    (rrun Tryd.prog (Instr.loadAt 30 v200) W2.drew).bind fun v201 =>
    (prun Tryd.prog (Instr.indexAt 24 a5_1 v21)).bind fun v204 =>
    (rrun Tryd.prog (Instr.loadAt 30 v204) W2.drew).bind fun v205 =>
    (call 12 #[v201, v205] W2.drew).bind fun r206 =>
    (prun Tryd.prog (Op.unary .not r206.1)).bind fun v208 =>
    (asB v208).bind fun c208 =>
    if c208 then
      some (Res.ret [(Value.bool false)] r206.2)
    else
    some (Res.norm [r3_1, r4_1, a5_1, v21] r206.2)).bind fun (r : Res) => (r.unblock 5).cont fun vs_2 W3 =>
    let r3_2 := nth vs_2 0
    let r4_2 := nth vs_2 1
    let a5_2 := nth vs_2 2
    let v21_1 := nth vs_2 3
    (bin .add v21_1 (Value.int IntKind.i64 1)).bind fun v197 =>
    some (Res.norm [r3_2, r4_2, a5_2, v197] W3)
  else
  some (Res.exit 4 [r3_1, r4_1] W2)
noncomputable def f3.l1 (call : CallF) (vs_4 : List Value) (W5 : World) : Option Res :=
  let r3_4 := nth vs_4 0
  let r4_4 := nth vs_4 1
  let v23 := nth vs_4 2
  let v24 := nth vs_4 3
  (prun Tryd.prog (Builtin.len_ #[24] 3 #[r4_4])).bind fun v211 =>
  (bin .lss v24 v211).bind fun v212 =>
  (asB v212).bind fun c212 =>
  if c212 then
    ((prun Tryd.prog (Instr.indexAt 24 r4_4 v24)).bind fun v218 =>
    (prun Tryd.prog (Instr.fieldAt 30 v218 1)).bind fun v219 =>
    (rrun Tryd.prog (Instr.loadAt 28 v219) W5).bind fun v220 =>
    (erun Tryd.prog (Builtin.append_ #[28, 28] 28 #[v23, v220]) W5).bind fun r221 =>
    some (Res.norm [r3_4, r4_4, r221.1, v24] r221.2)).bind fun (r : Res) => (r.unblock 7).cont fun vs_5 W6 =>
    let r3_5 := nth vs_5 0
    let r4_5 := nth vs_5 1
    let v23_1 := nth vs_5 2
    let v24_1 := nth vs_5 3
    (bin .add v24_1 (Value.int IntKind.i64 1)).bind fun v214 =>
    some (Res.norm [r3_5, r4_5, v23_1, v214] W6)
  else
  some (Res.exit 6 [r3_4, v23] W5)
noncomputable def f3.l2 (call : CallF) (vs_8 : List Value) (W9 : World) : Option Res :=
  let r3_8 := nth vs_8 0
  let v23_4 := nth vs_8 1
  let v25_1 := nth vs_8 2
  let v26 := nth vs_8 3
  (prun Tryd.prog (Instr.indexAt 28 v23_4 v25_1)).bind fun v231 =>
  (rrun Tryd.prog (Instr.loadAt 38 v231) W9).bind fun v232 =>
  (prun Tryd.prog (Builtin.len_ #[38] 3 #[v232])).bind fun v233 =>
  (bin .lss v26 v233).bind fun v234 =>
  (asB v234).bind fun c234 =>
  if c234 then
    ((prun Tryd.prog (Instr.indexAt 28 v23_4 v25_1)).bind fun v239 =>
    (rrun Tryd.prog (Instr.loadAt 38 v239) W9).bind fun v240 =>
    (bin .add (Value.int IntKind.i64 5000) v25_1).bind fun v243 =>
    (prun Tryd.prog (convert 3 39 v243)).bind fun v244 =>
    (prun Tryd.prog (Instr.indexAt 38 v240 v26)).bind fun v245 =>
    (erun Tryd.prog (Instr.storeAt 39 v245 v244) W9).bind fun r =>
    some (Res.norm [r3_8, v23_4, v25_1, v26] r.2)).bind fun (r : Res) => (r.unblock 11).cont fun vs_9 W10 =>
    let r3_9 := nth vs_9 0
    let v23_5 := nth vs_9 1
    let v25_2 := nth vs_9 2
    let v26_1 := nth vs_9 3
    (bin .add v26_1 (Value.int IntKind.i64 1)).bind fun v236 =>
    some (Res.norm [r3_9, v23_5, v25_2, v236] W10)
  else
  some (Res.exit 10 [r3_8, v23_4, v25_1] W9)
noncomputable def f3.l3 (call : CallF) (vs_7 : List Value) (W8 : World) : Option Res :=
  let r3_7 := nth vs_7 0
  let v23_3 := nth vs_7 1
  let v25 := nth vs_7 2
  (prun Tryd.prog (Builtin.len_ #[28] 3 #[v23_3])).bind fun v224 =>
  (bin .lss v25 v224).bind fun v225 =>
  (asB v225).bind fun c225 =>
  if c225 then
    ((iter (f3.l2 call) [r3_7, v23_3, v25, (Value.int IntKind.i64 0)] W8).bind fun (r : Res) => (r.unblock 10).cont fun vs_10 W11 =>
    let r3_10 := nth vs_10 0
    let v23_6 := nth vs_10 1
    let v25_3 := nth vs_10 2
    some (Res.norm [r3_10, v23_6, v25_3] W11)).bind fun (r : Res) => (r.unblock 9).cont fun vs_11 W12 =>
    let r3_11 := nth vs_11 0
    let v23_7 := nth vs_11 1
    let v25_4 := nth vs_11 2
    (bin .add v25_4 (Value.int IntKind.i64 1)).bind fun v227 =>
    some (Res.norm [r3_11, v23_7, v227] W12)
  else
  some (Res.exit 8 [r3_7, v23_3] W8)
noncomputable def f3.l4 (call : CallF) (vs_14 : List Value) (W15 : World) : Option Res :=
  let r3_14 := nth vs_14 0
  let v23_10 := nth vs_14 1
  let v27_1 := nth vs_14 2
  let v28 := nth vs_14 3
  let v29 := nth vs_14 4
  (bin .lss v29 (Value.int IntKind.i64 20)).bind fun v257 =>
  (asB v257).bind fun c257 =>
  if c257 then
    ((bin .add (Value.int IntKind.i64 5000) v27_1).bind fun v262 =>
    (prun Tryd.prog (convert 3 39 v262)).bind fun v263 =>
    (erun Tryd.prog (Instr.buildSlice 38 1 #[(0, v263)]) W15).bind fun r264 =>
    (erun Tryd.prog (Builtin.append_ #[38, 38] 38 #[v28, r264.1]) r264.2).bind fun r265 =>
    some (Res.norm [r3_14, v23_10, v27_1, r265.1, v29] r265.2)).bind fun (r : Res) => (r.unblock 15).cont fun vs_15 W16 =>
    let r3_15 := nth vs_15 0
    let v23_11 := nth vs_15 1
    let v27_2 := nth vs_15 2
    let v28_1 := nth vs_15 3
    let v29_1 := nth vs_15 4
    (bin .add v29_1 (Value.int IntKind.i64 1)).bind fun v259 =>
    some (Res.norm [r3_15, v23_11, v27_2, v28_1, v259] W16)
  else
  some (Res.exit 14 [r3_14, v23_10, v27_1] W15)
noncomputable def f3.l5 (call : CallF) (vs_13 : List Value) (W14 : World) : Option Res :=
  let r3_13 := nth vs_13 0
  let v23_9 := nth vs_13 1
  let v27 := nth vs_13 2
  (prun Tryd.prog (Builtin.len_ #[28] 3 #[v23_9])).bind fun v248 =>
  (bin .lss v27 v248).bind fun v249 =>
  (asB v249).bind fun c249 =>
  if c249 then
    ((prun Tryd.prog (Instr.indexAt 28 v23_9 v27)).bind fun v254 =>
    (rrun Tryd.prog (Instr.loadAt 38 v254) W14).bind fun v255 =>
    (iter (f3.l4 call) [r3_13, v23_9, v27, v255, (Value.int IntKind.i64 0)] W14).bind fun (r : Res) => (r.unblock 14).cont fun vs_16 W17 =>
    let r3_16 := nth vs_16 0
    let v23_12 := nth vs_16 1
    let v27_3 := nth vs_16 2
    some (Res.norm [r3_16, v23_12, v27_3] W17)).bind fun (r : Res) => (r.unblock 13).cont fun vs_17 W18 =>
    let r3_17 := nth vs_17 0
    let v23_13 := nth vs_17 1
    let v27_4 := nth vs_17 2
    (bin .add v27_4 (Value.int IntKind.i64 1)).bind fun v251 =>
    some (Res.norm [r3_17, v23_13, v251] W18)
  else
  some (Res.exit 12 [r3_13, v23_9] W14)
noncomputable def f3.l6 (call : CallF) (vs_20 : List Value) (W21 : World) : Option Res :=
  let r3_20 := nth vs_20 0
  let v23_16 := nth vs_20 1
  let v30_1 := nth vs_20 2
  let v31 := nth vs_20 3
  (prun Tryd.prog (Instr.indexAt 28 v23_16 v30_1)).bind fun v275 =>
  (rrun Tryd.prog (Instr.loadAt 38 v275) W21).bind fun v276 =>
  (prun Tryd.prog (Builtin.len_ #[38] 3 #[v276])).bind fun v277 =>
  (bin .lss v31 v277).bind fun v278 =>
  (asB v278).bind fun c278 =>
  if c278 then
    ((prun Tryd.prog (Instr.indexAt 28 v23_16 v30_1)).bind fun v283 =>
    (rrun Tryd.prog (Instr.loadAt 38 v283) W21).bind fun v284 =>
    (prun Tryd.prog (Instr.indexAt 38 v284 v31)).bind fun v286 =>
    (rrun Tryd.prog (Instr.loadAt 39 v286) W21).bind fun v287 =>
    (bin .add (Value.int IntKind.i64 5000) v30_1).bind fun v289 =>
    (prun Tryd.prog (convert 3 39 v289)).bind fun v290 =>
    (bin .neq v287 v290).bind fun v291 =>
    (asB v291).bind fun c291 =>
    if c291 then
      some (Res.ret [(Value.bool false)] W21)
    else
    some (Res.norm [r3_20, v23_16, v30_1, v31] W21)).bind fun (r : Res) => (r.unblock 19).cont fun vs_21 W22 =>
    let r3_21 := nth vs_21 0
    let v23_17 := nth vs_21 1
    let v30_2 := nth vs_21 2
    let v31_1 := nth vs_21 3
    (bin .add v31_1 (Value.int IntKind.i64 1)).bind fun v280 =>
    some (Res.norm [r3_21, v23_17, v30_2, v280] W22)
  else
  some (Res.exit 18 [r3_20, v23_16, v30_1] W21)
noncomputable def f3.l7 (call : CallF) (vs_19 : List Value) (W20 : World) : Option Res :=
  let r3_19 := nth vs_19 0
  let v23_15 := nth vs_19 1
  let v30 := nth vs_19 2
  (prun Tryd.prog (Builtin.len_ #[28] 3 #[v23_15])).bind fun v268 =>
  (bin .lss v30 v268).bind fun v269 =>
  (asB v269).bind fun c269 =>
  if c269 then
    ((iter (f3.l6 call) [r3_19, v23_15, v30, (Value.int IntKind.i64 0)] W20).bind fun (r : Res) => (r.unblock 18).cont fun vs_22 W23 =>
    let r3_22 := nth vs_22 0
    let v23_18 := nth vs_22 1
    let v30_3 := nth vs_22 2
    some (Res.norm [r3_22, v23_18, v30_3] W23)).bind fun (r : Res) => (r.unblock 17).cont fun vs_23 W24 =>
    let r3_23 := nth vs_23 0
    let v23_19 := nth vs_23 1
    let v30_4 := nth vs_23 2
    (bin .add v30_4 (Value.int IntKind.i64 1)).bind fun v271 =>
    some (Res.norm [r3_23, v23_19, v271] W24)
  else
  some (Res.exit 16 [r3_19] W20)
noncomputable def f3.k0 (call : CallF) (Rt : List Value → World → Prop) (vs : List Value) (W1 : World) : Prop :=
  let r3 := nth vs 0
  let r4 := nth vs 1
  let a5 := nth vs 2
  hold ((iter (f3.l0 call) [r3, r4, a5, (Value.int IntKind.i64 0)] W1).bind fun (r : Res) => (r.unblock 4).cont fun vs_3 W4 =>
  let r3_3 := nth vs_3 0
  let r4_3 := nth vs_3 1
  (iter (f3.l1 call) [r3_3, r4_3, (Value.slice none 0 0), (Value.int IntKind.i64 0)] W4).bind fun (r : Res) => (r.unblock 6).cont fun vs_6 W7 =>
  let r3_6 := nth vs_6 0
  let v23_2 := nth vs_6 1
  (iter (f3.l3 call) [r3_6, v23_2, (Value.int IntKind.i64 0)] W7).bind fun (r : Res) => (r.unblock 8).cont fun vs_12 W13 =>
  let r3_12 := nth vs_12 0
  let v23_8 := nth vs_12 1
  (iter (f3.l5 call) [r3_12, v23_8, (Value.int IntKind.i64 0)] W13).bind fun (r : Res) => (r.unblock 12).cont fun vs_18 W19 =>
  let r3_18 := nth vs_18 0
  let v23_14 := nth vs_18 1
  (iter (f3.l7 call) [r3_18, v23_14, (Value.int IntKind.i64 0)] W19).bind fun (r : Res) => (r.unblock 16).cont fun vs_24 W25 =>
  let r3_24 := nth vs_24 0
  some (Res.ret [r3_24] W25)) (after Rt [] (fun _ _ => False))
noncomputable def f3.k3 (call : CallF) (Rt : List Value → World → Prop) (rec1 : List Value → World → Prop) (vs_27 : List Value) (W28 : World) : Prop :=
  let t0_3 := nth vs_27 0
  let r3_27 := nth vs_27 1
  let r4_8 := nth vs_27 2
  let a5_5 := nth vs_27 3
  let y6_2 := nth vs_27 4
  let v7_2 := nth vs_27 5
  ((bin .add v7_2 (Value.int IntKind.i64 1)).bind fun v38 =>
  okIf W28 (rec1 [t0_3, r3_27, r4_8, a5_5, y6_2, v38] W28)) = some (.norm [] W28)
noncomputable def f3.k5 (call : CallF) (Rt : List Value → World → Prop) (rec1 : List Value → World → Prop) (vs_29 : List Value) (W30 : World) : Prop :=
  let t0_5 := nth vs_29 0
  let r3_29 := nth vs_29 1
  let r4_10 := nth vs_29 2
  let a5_7 := nth vs_29 3
  let y6_4 := nth vs_29 4
  let v7_4 := nth vs_29 5
  (f3.k3 call Rt rec1) [t0_5, r3_29, r4_10, a5_7, y6_4, v7_4] W30
noncomputable def f3.k8 (call : CallF) (Rt : List Value → World → Prop) (rec1 : List Value → World → Prop) (rec6 : List Value → World → Prop) (vs_32 : List Value) (W33 : World) : Prop :=
  let t0_8 := nth vs_32 0
  let r3_32 := nth vs_32 1
  let r4_13 := nth vs_32 2
  let a5_10 := nth vs_32 3
  let y6_7 := nth vs_32 4
  let v7_7 := nth vs_32 5
  let v8_2 := nth vs_32 6
  ((bin .add v8_2 (Value.int IntKind.i64 1)).bind fun v59 =>
  okIf W33 (rec6 [t0_8, r3_32, r4_13, a5_10, y6_7, v7_7, v59] W33)) = some (.norm [] W33)
noncomputable def f3.k14 (call : CallF) (Rt : List Value → World → Prop) (rec1 : List Value → World → Prop) (rec6 : List Value → World → Prop) (vs_38 : List Value) (W39 : World) : Prop :=
  let t0_14 := nth vs_38 0
  let r3_38 := nth vs_38 1
  let r4_19 := nth vs_38 2
  let a5_16 := nth vs_38 3
  let y6_13 := nth vs_38 4
  let v7_13 := nth vs_38 5
  let v8_8 := nth vs_38 6
  (f3.k8 call Rt rec1 rec6) [t0_14, r3_38, r4_19, a5_16, y6_13, v7_13, v8_8] W39
noncomputable def f3.k13 (call : CallF) (Rt : List Value → World → Prop) (rec1 : List Value → World → Prop) (rec6 : List Value → World → Prop) (vs_37 : List Value) (W38 : World) : Prop :=
  let t0_13 := nth vs_37 0
  let r3_37 := nth vs_37 1
  let r4_18 := nth vs_37 2
  let a5_15 := nth vs_37 3
  let y6_12 := nth vs_37 4
  let v7_12 := nth vs_37 5
  let v8_7 := nth vs_37 6
  let v11_4 := nth vs_37 7
  let v15_3 := nth vs_37 8
  let v17_1 := nth vs_37 9
  let v18_1 := nth vs_37 10
  let v19 := nth vs_37 11
  let v20 := nth vs_37 12
  hold ((bin .neq v18_1 v20).bind fun v181 =>
  (asB v181).bind fun c181 =>
  if c181 then
    some (Res.ret [(Value.bool false)] W38)
  else
  (rrun Tryd.prog (Instr.loadAt 30 v11_4) W38).bind fun v183 =>
  (rrun Tryd.prog (Instr.loadAt 30 v17_1) W38).bind fun v184 =>
  (erun Tryd.prog (Instr.buildSlice 24 2 #[(0, v183), (1, v184)]) W38).bind fun r185 =>
  (erun Tryd.prog (Builtin.append_ #[24, 24] 24 #[r4_18, r185.1]) r185.2).bind fun r186 =>
  (rrun Tryd.prog (Instr.loadAt 30 v15_3) r186.2).bind fun v188 =>
  (rrun Tryd.prog (Instr.loadAt 30 v19) r186.2).bind fun v189 =>
  (erun Tryd.prog (Instr.buildSlice 24 2 #[(0, v188), (1, v189)]) r186.2).bind fun r190 =>
  (erun Tryd.prog (Builtin.append_ #[24, 24] 24 #[a5_15, r190.1]) r190.2).bind fun r191 =>
  some (Res.norm [t0_13, r3_37, r186.1, r191.1, y6_12, v7_12, v8_7] r191.2)) (after Rt [⟨3, [0, 3, 4, 5, 6, 7, 8], (f3.k8 call Rt rec1 rec6)⟩, ⟨2, [0, 3, 4, 5, 6, 7], (f3.k5 call Rt rec1)⟩, ⟨1, [0, 3, 4, 5, 6, 7], (f3.k3 call Rt rec1)⟩, ⟨0, [3, 4, 5], (f3.k0 call Rt)⟩] (f3.k14 call Rt rec1 rec6))
noncomputable def f3.k12 (call : CallF) (Rt : List Value → World → Prop) (rec1 : List Value → World → Prop) (rec6 : List Value → World → Prop) (vs_36 : List Value) (W37 : World) : Prop :=
  let t0_12 := nth vs_36 0
  let r3_36 := nth vs_36 1
  let r4_17 := nth vs_36 2
  let a5_14 := nth vs_36 3
  let y6_11 := nth vs_36 4
  let v7_11 := nth vs_36 5
  let v8_6 := nth vs_36 6
  let v11_3 := nth vs_36 7
  let v15_2 := nth vs_36 8
  let v17 := nth vs_36 9
  let v18 := nth vs_36 10
  true = true ∧ ((((erun Tryd.prog (Instr.alloc 30 true (.tuple #[])) W37.drew).bind fun r19_1 =>
  some (r19_1.1, r19_1.2)).bind fun r19 =>
  ((prun Tryd.prog (Instr.indexAt 22 t0_12 v7_11)).bind fun v156 =>
  some (v156, r19.2)).bind fun r156 =>
  ((prun Tryd.prog (Instr.fieldAt 32 r156.1 0)).bind fun v157 =>
  some (v157, r156.2)).bind fun r157 =>
  ((rrun Tryd.prog (Instr.loadAt 30 r157.1) r157.2).bind fun v158 =>
  some (v158, r157.2)).bind fun r158 =>
  ((call 11 #[r158.1] r158.2).bind fun r159_1 =>
  some (r159_1.1, r159_1.2)).bind fun r159 =>
  ((prun Tryd.prog (Instr.indexAt 22 t0_12 v7_11)).bind fun v162 =>
  some (v162, r159.2)).bind fun r162 =>
  ((prun Tryd.prog (Instr.fieldAt 32 r162.1 1)).bind fun v163 =>
  some (v163, r162.2)).bind fun r163 =>
  ((rrun Tryd.prog (Instr.loadAt 30 r163.1) r163.2).bind fun v164 =>
  some (v164, r163.2)).bind fun r164 =>
  ((call 11 #[r164.1] r164.2).bind fun r165_1 =>
  some (r165_1.1, r165_1.2)).bind fun r165 =>
  ((prun Tryd.prog (Instr.indexAt 22 t0_12 v7_11)).bind fun v168 =>
  some (v168, r165.2)).bind fun r168 =>
  ((prun Tryd.prog (Instr.fieldAt 32 r168.1 2)).bind fun v169 =>
  some (v169, r168.2)).bind fun r169 =>
  ((rrun Tryd.prog (Instr.loadAt 3 r169.1) r169.2).bind fun v170 =>
  some (v170, r169.2)).bind fun r170 =>
  ((prun Tryd.prog (Instr.indexAt 22 t0_12 v7_11)).bind fun v173 =>
  some (v173, r170.2)).bind fun r173 =>
  ((prun Tryd.prog (Instr.fieldAt 32 r173.1 3)).bind fun v174 =>
  some (v174, r173.2)).bind fun r174 =>
  ((rrun Tryd.prog (Instr.loadAt 3 r174.1) r174.2).bind fun v175 =>
  some (v175, r174.2)).bind fun r175 =>
  ((call 10 #[r159.1, r165.1, r170.1, r175.1] r175.2).bind fun r176_1 =>
  some (r176_1.1, r176_1.2)).bind fun r176 =>
  ((prun Tryd.prog (Instr.extract r176.1 0)).bind fun v177 =>
  some (v177, r176.2)).bind fun r177 =>
  ((prun Tryd.prog (Instr.extract r176.1 1)).bind fun v178 =>
  some (v178, r177.2)).bind fun r178 =>
  ((erun Tryd.prog (Instr.storeAt 30 r19.1 r177.1) r178.2).bind fun r_4 =>
  some (undef, r_4.2)).bind fun r_3 =>
  chkThen ((((rrun Tryd.prog (Instr.loadAt 30 r157.1) W37.drew).bind fun v158_1 => some v158_1) = some r158.1 ∧ ((rrun Tryd.prog (Instr.loadAt 30 r157.1) r19.2).bind fun v158_2 => some v158_2) = some r158.1) ∧ (((rrun Tryd.prog (Instr.loadAt 30 r163.1) W37.drew).bind fun v164_3 => some v164_3) = some r164.1 ∧ ((rrun Tryd.prog (Instr.loadAt 30 r163.1) r19.2).bind fun v164_4 => some v164_4) = some r164.1) ∧ (((rrun Tryd.prog (Instr.loadAt 30 r163.1) r158.2).bind fun v164_1 => some v164_1) = some r164.1 ∧ ((rrun Tryd.prog (Instr.loadAt 30 r163.1) r159.2).bind fun v164_2 => some v164_2) = some r164.1) ∧ (((rrun Tryd.prog (Instr.loadAt 3 r169.1) W37.drew).bind fun v170_5 => some v170_5) = some r170.1 ∧ ((rrun Tryd.prog (Instr.loadAt 3 r169.1) r19.2).bind fun v170_6 => some v170_6) = some r170.1) ∧ (((rrun Tryd.prog (Instr.loadAt 3 r169.1) r158.2).bind fun v170_3 => some v170_3) = some r170.1 ∧ ((rrun Tryd.prog (Instr.loadAt 3 r169.1) r159.2).bind fun v170_4 => some v170_4) = some r170.1) ∧ (((rrun Tryd.prog (Instr.loadAt 3 r169.1) r164.2).bind fun v170_1 => some v170_1) = some r170.1 ∧ ((rrun Tryd.prog (Instr.loadAt 3 r169.1) r165.2).bind fun v170_2 => some v170_2) = some r170.1) ∧ (((rrun Tryd.prog (Instr.loadAt 3 r174.1) W37.drew).bind fun v175_5 => some v175_5) = some r175.1 ∧ ((rrun Tryd.prog (Instr.loadAt 3 r174.1) r19.2).bind fun v175_6 => some v175_6) = some r175.1) ∧ (((rrun Tryd.prog (Instr.loadAt 3 r174.1) r158.2).bind fun v175_3 => some v175_3) = some r175.1 ∧ ((rrun Tryd.prog (Instr.loadAt 3 r174.1) r159.2).bind fun v175_4 => some v175_4) = some r175.1) ∧ (((rrun Tryd.prog (Instr.loadAt 3 r174.1) r164.2).bind fun v175_1 => some v175_1) = some r175.1 ∧ ((rrun Tryd.prog (Instr.loadAt 3 r174.1) r165.2).bind fun v175_2 => some v175_2) = some r175.1) ∧ True)
  (okIf W37 ((f3.k13 call Rt rec1 rec6) [t0_12, r3_36, r4_17, a5_14, y6_11, v7_11, v8_6, v11_3, v15_2, v17, v18, r19.1, r178.1] r_3.2))) = some (.norm [] W37)) ∧
  ((((prun Tryd.prog (Instr.indexAt 22 t0_12 v7_11)).bind fun v156_1 =>
  some (v156_1, W37.drew)).bind fun r156_1 =>
  ((prun Tryd.prog (Instr.fieldAt 32 r156_1.1 0)).bind fun v157_1 =>
  some (v157_1, r156_1.2)).bind fun r157_1 =>
  ((rrun Tryd.prog (Instr.loadAt 30 r157_1.1) r157_1.2).bind fun v158_3 =>
  some (v158_3, r157_1.2)).bind fun r158_1 =>
  ((call 11 #[r158_1.1] r158_1.2).bind fun r159_3 =>
  some (r159_3.1, r159_3.2)).bind fun r159_2 =>
  ((erun Tryd.prog (Instr.alloc 30 true (.tuple #[])) r159_2.2).bind fun r19_3 =>
  some (r19_3.1, r19_3.2)).bind fun r19_2 =>
  ((prun Tryd.prog (Instr.indexAt 22 t0_12 v7_11)).bind fun v162_1 =>
  some (v162_1, r19_2.2)).bind fun r162_1 =>
  ((prun Tryd.prog (Instr.fieldAt 32 r162_1.1 1)).bind fun v163_1 =>
  some (v163_1, r162_1.2)).bind fun r163_1 =>
  ((rrun Tryd.prog (Instr.loadAt 30 r163_1.1) r163_1.2).bind fun v164_5 =>
  some (v164_5, r163_1.2)).bind fun r164_1 =>
  ((call 11 #[r164_1.1] r164_1.2).bind fun r165_3 =>
  some (r165_3.1, r165_3.2)).bind fun r165_2 =>
  ((prun Tryd.prog (Instr.indexAt 22 t0_12 v7_11)).bind fun v168_1 =>
  some (v168_1, r165_2.2)).bind fun r168_1 =>
  ((prun Tryd.prog (Instr.fieldAt 32 r168_1.1 2)).bind fun v169_1 =>
  some (v169_1, r168_1.2)).bind fun r169_1 =>
  ((rrun Tryd.prog (Instr.loadAt 3 r169_1.1) r169_1.2).bind fun v170_7 =>
  some (v170_7, r169_1.2)).bind fun r170_1 =>
  ((prun Tryd.prog (Instr.indexAt 22 t0_12 v7_11)).bind fun v173_1 =>
  some (v173_1, r170_1.2)).bind fun r173_1 =>
  ((prun Tryd.prog (Instr.fieldAt 32 r173_1.1 3)).bind fun v174_1 =>
  some (v174_1, r173_1.2)).bind fun r174_1 =>
  ((rrun Tryd.prog (Instr.loadAt 3 r174_1.1) r174_1.2).bind fun v175_7 =>
  some (v175_7, r174_1.2)).bind fun r175_1 =>
  ((call 10 #[r159_2.1, r165_2.1, r170_1.1, r175_1.1] r175_1.2).bind fun r176_3 =>
  some (r176_3.1, r176_3.2)).bind fun r176_2 =>
  ((prun Tryd.prog (Instr.extract r176_2.1 0)).bind fun v177_1 =>
  some (v177_1, r176_2.2)).bind fun r177_1 =>
  ((prun Tryd.prog (Instr.extract r176_2.1 1)).bind fun v178_1 =>
  some (v178_1, r177_1.2)).bind fun r178_1 =>
  ((erun Tryd.prog (Instr.storeAt 30 r19_2.1 r177_1.1) r178_1.2).bind fun r_6 =>
  some (undef, r_6.2)).bind fun r_5 =>
  chkThen ((((rrun Tryd.prog (Instr.loadAt 30 r163_1.1) r158_1.2).bind fun v164_8 => some v164_8) = some r164_1.1 ∧ ((rrun Tryd.prog (Instr.loadAt 30 r163_1.1) r159_2.2).bind fun v164_9 => some v164_9) = some r164_1.1) ∧ (((rrun Tryd.prog (Instr.loadAt 30 r163_1.1) r159_2.2).bind fun v164_6 => some v164_6) = some r164_1.1 ∧ ((rrun Tryd.prog (Instr.loadAt 30 r163_1.1) r19_2.2).bind fun v164_7 => some v164_7) = some r164_1.1) ∧ (((rrun Tryd.prog (Instr.loadAt 3 r169_1.1) r158_1.2).bind fun v170_12 => some v170_12) = some r170_1.1 ∧ ((rrun Tryd.prog (Instr.loadAt 3 r169_1.1) r159_2.2).bind fun v170_13 => some v170_13) = some r170_1.1) ∧ (((rrun Tryd.prog (Instr.loadAt 3 r169_1.1) r159_2.2).bind fun v170_10 => some v170_10) = some r170_1.1 ∧ ((rrun Tryd.prog (Instr.loadAt 3 r169_1.1) r19_2.2).bind fun v170_11 => some v170_11) = some r170_1.1) ∧ (((rrun Tryd.prog (Instr.loadAt 3 r169_1.1) r164_1.2).bind fun v170_8 => some v170_8) = some r170_1.1 ∧ ((rrun Tryd.prog (Instr.loadAt 3 r169_1.1) r165_2.2).bind fun v170_9 => some v170_9) = some r170_1.1) ∧ (((rrun Tryd.prog (Instr.loadAt 3 r174_1.1) r158_1.2).bind fun v175_12 => some v175_12) = some r175_1.1 ∧ ((rrun Tryd.prog (Instr.loadAt 3 r174_1.1) r159_2.2).bind fun v175_13 => some v175_13) = some r175_1.1) ∧ (((rrun Tryd.prog (Instr.loadAt 3 r174_1.1) r159_2.2).bind fun v175_10 => some v175_10) = some r175_1.1 ∧ ((rrun Tryd.prog (Instr.loadAt 3 r174_1.1) r19_2.2).bind fun v175_11 => some v175_11) = some r175_1.1) ∧ (((rrun Tryd.prog (Instr.loadAt 3 r174_1.1) r164_1.2).bind fun v175_8 => some v175_8) = some r175_1.1 ∧ ((rrun Tryd.prog (Instr.loadAt 3 r174_1.1) r165_2.2).bind fun v175_9 => some v175_9) = some r175_1.1) ∧ True)
  (okIf W37 ((f3.k13 call Rt rec1 rec6) [t0_12, r3_36, r4_17, a5_14, y6_11, v7_11, v8_6, v11_3, v15_2, v17, v18, r19_2.1, r178_1.1] r_5.2))) = some (.norm [] W37)) ∧
  ((((prun Tryd.prog (Instr.indexAt 22 t0_12 v7_11)).bind fun v156_2 =>
  some (v156_2, W37.drew)).bind fun r156_2 =>
  ((prun Tryd.prog (Instr.fieldAt 32 r156_2.1 0)).bind fun v157_2 =>
  some (v157_2, r156_2.2)).bind fun r157_2 =>
  ((rrun Tryd.prog (Instr.loadAt 30 r157_2.1) r157_2.2).bind fun v158_4 =>
  some (v158_4, r157_2.2)).bind fun r158_2 =>
  ((call 11 #[r158_2.1] r158_2.2).bind fun r159_5 =>
  some (r159_5.1, r159_5.2)).bind fun r159_4 =>
  ((prun Tryd.prog (Instr.indexAt 22 t0_12 v7_11)).bind fun v162_2 =>
  some (v162_2, r159_4.2)).bind fun r162_2 =>
  ((prun Tryd.prog (Instr.fieldAt 32 r162_2.1 1)).bind fun v163_2 =>
  some (v163_2, r162_2.2)).bind fun r163_2 =>
  ((rrun Tryd.prog (Instr.loadAt 30 r163_2.1) r163_2.2).bind fun v164_10 =>
  some (v164_10, r163_2.2)).bind fun r164_2 =>
  ((call 11 #[r164_2.1] r164_2.2).bind fun r165_5 =>
  some (r165_5.1, r165_5.2)).bind fun r165_4 =>
  ((erun Tryd.prog (Instr.alloc 30 true (.tuple #[])) r165_4.2).bind fun r19_5 =>
  some (r19_5.1, r19_5.2)).bind fun r19_4 =>
  ((prun Tryd.prog (Instr.indexAt 22 t0_12 v7_11)).bind fun v168_2 =>
  some (v168_2, r19_4.2)).bind fun r168_2 =>
  ((prun Tryd.prog (Instr.fieldAt 32 r168_2.1 2)).bind fun v169_2 =>
  some (v169_2, r168_2.2)).bind fun r169_2 =>
  ((rrun Tryd.prog (Instr.loadAt 3 r169_2.1) r169_2.2).bind fun v170_14 =>
  some (v170_14, r169_2.2)).bind fun r170_2 =>
  ((prun Tryd.prog (Instr.indexAt 22 t0_12 v7_11)).bind fun v173_2 =>
  some (v173_2, r170_2.2)).bind fun r173_2 =>
  ((prun Tryd.prog (Instr.fieldAt 32 r173_2.1 3)).bind fun v174_2 =>
  some (v174_2, r173_2.2)).bind fun r174_2 =>
  ((rrun Tryd.prog (Instr.loadAt 3 r174_2.1) r174_2.2).bind fun v175_14 =>
  some (v175_14, r174_2.2)).bind fun r175_2 =>
  ((call 10 #[r159_4.1, r165_4.1, r170_2.1, r175_2.1] r175_2.2).bind fun r176_5 =>
  some (r176_5.1, r176_5.2)).bind fun r176_4 =>
  ((prun Tryd.prog (Instr.extract r176_4.1 0)).bind fun v177_2 =>
  some (v177_2, r176_4.2)).bind fun r177_2 =>
  ((prun Tryd.prog (Instr.extract r176_4.1 1)).bind fun v178_2 =>
  some (v178_2, r177_2.2)).bind fun r178_2 =>
  ((erun Tryd.prog (Instr.storeAt 30 r19_4.1 r177_2.1) r178_2.2).bind fun r_8 =>
  some (undef, r_8.2)).bind fun r_7 =>
  chkThen ((((rrun Tryd.prog (Instr.loadAt 30 r163_2.1) r158_2.2).bind fun v164_11 => some v164_11) = some r164_2.1 ∧ ((rrun Tryd.prog (Instr.loadAt 30 r163_2.1) r159_4.2).bind fun v164_12 => some v164_12) = some r164_2.1) ∧ (((rrun Tryd.prog (Instr.loadAt 3 r169_2.1) r158_2.2).bind fun v170_19 => some v170_19) = some r170_2.1 ∧ ((rrun Tryd.prog (Instr.loadAt 3 r169_2.1) r159_4.2).bind fun v170_20 => some v170_20) = some r170_2.1) ∧ (((rrun Tryd.prog (Instr.loadAt 3 r169_2.1) r164_2.2).bind fun v170_17 => some v170_17) = some r170_2.1 ∧ ((rrun Tryd.prog (Instr.loadAt 3 r169_2.1) r165_4.2).bind fun v170_18 => some v170_18) = some r170_2.1) ∧ (((rrun Tryd.prog (Instr.loadAt 3 r169_2.1) r165_4.2).bind fun v170_15 => some v170_15) = some r170_2.1 ∧ ((rrun Tryd.prog (Instr.loadAt 3 r169_2.1) r19_4.2).bind fun v170_16 => some v170_16) = some r170_2.1) ∧ (((rrun Tryd.prog (Instr.loadAt 3 r174_2.1) r158_2.2).bind fun v175_19 => some v175_19) = some r175_2.1 ∧ ((rrun Tryd.prog (Instr.loadAt 3 r174_2.1) r159_4.2).bind fun v175_20 => some v175_20) = some r175_2.1) ∧ (((rrun Tryd.prog (Instr.loadAt 3 r174_2.1) r164_2.2).bind fun v175_17 => some v175_17) = some r175_2.1 ∧ ((rrun Tryd.prog (Instr.loadAt 3 r174_2.1) r165_4.2).bind fun v175_18 => some v175_18) = some r175_2.1) ∧ (((rrun Tryd.prog (Instr.loadAt 3 r174_2.1) r165_4.2).bind fun v175_15 => some v175_15) = some r175_2.1 ∧ ((rrun Tryd.prog (Instr.loadAt 3 r174_2.1) r19_4.2).bind fun v175_16 => some v175_16) = some r175_2.1) ∧ True)
  (okIf W37 ((f3.k13 call Rt rec1 rec6) [t0_12, r3_36, r4_17, a5_14, y6_11, v7_11, v8_6, v11_3, v15_2, v17, v18, r19_4.1, r178_2.1] r_7.2))) = some (.norm [] W37)) ∧
  ((((prun Tryd.prog (Instr.indexAt 22 t0_12 v7_11)).bind fun v156_3 =>
  some (v156_3, W37.drew)).bind fun r156_3 =>
  ((prun Tryd.prog (Instr.fieldAt 32 r156_3.1 0)).bind fun v157_3 =>
  some (v157_3, r156_3.2)).bind fun r157_3 =>
  ((rrun Tryd.prog (Instr.loadAt 30 r157_3.1) r157_3.2).bind fun v158_5 =>
  some (v158_5, r157_3.2)).bind fun r158_3 =>
  ((call 11 #[r158_3.1] r158_3.2).bind fun r159_7 =>
  some (r159_7.1, r159_7.2)).bind fun r159_6 =>
  ((prun Tryd.prog (Instr.indexAt 22 t0_12 v7_11)).bind fun v162_3 =>
  some (v162_3, r159_6.2)).bind fun r162_3 =>
  ((prun Tryd.prog (Instr.fieldAt 32 r162_3.1 1)).bind fun v163_3 =>
  some (v163_3, r162_3.2)).bind fun r163_3 =>
  ((rrun Tryd.prog (Instr.loadAt 30 r163_3.1) r163_3.2).bind fun v164_13 =>
  some (v164_13, r163_3.2)).bind fun r164_3 =>
  ((call 11 #[r164_3.1] r164_3.2).bind fun r165_7 =>
  some (r165_7.1, r165_7.2)).bind fun r165_6 =>
  ((prun Tryd.prog (Instr.indexAt 22 t0_12 v7_11)).bind fun v168_3 =>
  some (v168_3, r165_6.2)).bind fun r168_3 =>
  ((prun Tryd.prog (Instr.fieldAt 32 r168_3.1 2)).bind fun v169_3 =>
  some (v169_3, r168_3.2)).bind fun r169_3 =>
  ((rrun Tryd.prog (Instr.loadAt 3 r169_3.1) r169_3.2).bind fun v170_21 =>
  some (v170_21, r169_3.2)).bind fun r170_3 =>
  ((prun Tryd.prog (Instr.indexAt 22 t0_12 v7_11)).bind fun v173_3 =>
  some (v173_3, r170_3.2)).bind fun r173_3 =>
  ((prun Tryd.prog (Instr.fieldAt 32 r173_3.1 3)).bind fun v174_3 =>
  some (v174_3, r173_3.2)).bind fun r174_3 =>
  ((rrun Tryd.prog (Instr.loadAt 3 r174_3.1) r174_3.2).bind fun v175_21 =>
  some (v175_21, r174_3.2)).bind fun r175_3 =>
  ((call 10 #[r159_6.1, r165_6.1, r170_3.1, r175_3.1] r175_3.2).bind fun r176_7 =>
  some (r176_7.1, r176_7.2)).bind fun r176_6 =>
  ((erun Tryd.prog (Instr.alloc 30 true (.tuple #[])) r176_6.2).bind fun r19_7 =>
  some (r19_7.1, r19_7.2)).bind fun r19_6 =>
  ((prun Tryd.prog (Instr.extract r176_6.1 0)).bind fun v177_3 =>
  some (v177_3, r19_6.2)).bind fun r177_3 =>
  ((prun Tryd.prog (Instr.extract r176_6.1 1)).bind fun v178_3 =>
  some (v178_3, r177_3.2)).bind fun r178_3 =>
  ((erun Tryd.prog (Instr.storeAt 30 r19_6.1 r177_3.1) r178_3.2).bind fun r_10 =>
  some (undef, r_10.2)).bind fun r_9 =>
  chkThen ((((rrun Tryd.prog (Instr.loadAt 30 r163_3.1) r158_3.2).bind fun v164_14 => some v164_14) = some r164_3.1 ∧ ((rrun Tryd.prog (Instr.loadAt 30 r163_3.1) r159_6.2).bind fun v164_15 => some v164_15) = some r164_3.1) ∧ (((rrun Tryd.prog (Instr.loadAt 3 r169_3.1) r158_3.2).bind fun v170_24 => some v170_24) = some r170_3.1 ∧ ((rrun Tryd.prog (Instr.loadAt 3 r169_3.1) r159_6.2).bind fun v170_25 => some v170_25) = some r170_3.1) ∧ (((rrun Tryd.prog (Instr.loadAt 3 r169_3.1) r164_3.2).bind fun v170_22 => some v170_22) = some r170_3.1 ∧ ((rrun Tryd.prog (Instr.loadAt 3 r169_3.1) r165_6.2).bind fun v170_23 => some v170_23) = some r170_3.1) ∧ (((rrun Tryd.prog (Instr.loadAt 3 r174_3.1) r158_3.2).bind fun v175_24 => some v175_24) = some r175_3.1 ∧ ((rrun Tryd.prog (Instr.loadAt 3 r174_3.1) r159_6.2).bind fun v175_25 => some v175_25) = some r175_3.1) ∧ (((rrun Tryd.prog (Instr.loadAt 3 r174_3.1) r164_3.2).bind fun v175_22 => some v175_22) = some r175_3.1 ∧ ((rrun Tryd.prog (Instr.loadAt 3 r174_3.1) r165_6.2).bind fun v175_23 => some v175_23) = some r175_3.1) ∧ True)
  (okIf W37 ((f3.k13 call Rt rec1 rec6) [t0_12, r3_36, r4_17, a5_14, y6_11, v7_11, v8_6, v11_3, v15_2, v17, v18, r19_6.1, r178_3.1] r_9.2))) = some (.norm [] W37)) ∧ True
noncomputable def f3.k11 (call : CallF) (Rt : List Value → World → Prop) (rec1 : List Value → World → Prop) (rec6 : List Value → World → Prop) (vs_35 : List Value) (W36 : World) : Prop :=
  let t0_11 := nth vs_35 0
  let r3_35 := nth vs_35 1
  let r4_16 := nth vs_35 2
  let a5_13 := nth vs_35 3
  let y6_10 := nth vs_35 4
  let v7_10 := nth vs_35 5
  let v8_5 := nth vs_35 6
  let v9_2 := nth vs_35 7
  let v10_2 := nth vs_35 8
  let v11_2 := nth vs_35 9
  let v15_1 := nth vs_35 10
  true = true ∧ ((((erun Tryd.prog (Instr.alloc 30 true (.tuple #[])) W36.drew).bind fun r17_1 =>
  some (r17_1.1, r17_1.2)).bind fun r17 =>
  ((rrun Tryd.prog (Instr.loadAt 30 v9_2) r17.2).bind fun v138 =>
  some (v138, r17.2)).bind fun r138 =>
  ((rrun Tryd.prog (Instr.loadAt 30 v10_2) r138.2).bind fun v139 =>
  some (v139, r138.2)).bind fun r139 =>
  ((prun Tryd.prog (Instr.indexAt 22 t0_11 v7_10)).bind fun v142 =>
  some (v142, r139.2)).bind fun r142 =>
  ((prun Tryd.prog (Instr.fieldAt 32 r142.1 2)).bind fun v143 =>
  some (v143, r142.2)).bind fun r143 =>
  ((rrun Tryd.prog (Instr.loadAt 3 r143.1) r143.2).bind fun v144 =>
  some (v144, r143.2)).bind fun r144 =>
  ((prun Tryd.prog (Instr.indexAt 22 t0_11 v7_10)).bind fun v147 =>
  some (v147, r144.2)).bind fun r147 =>
  ((prun Tryd.prog (Instr.fieldAt 32 r147.1 3)).bind fun v148 =>
  some (v148, r147.2)).bind fun r148 =>
  ((rrun Tryd.prog (Instr.loadAt 3 r148.1) r148.2).bind fun v149 =>
  some (v149, r148.2)).bind fun r149 =>
  ((call 8 #[r138.1, r139.1, r144.1, r149.1] r149.2).bind fun r150_1 =>
  some (r150_1.1, r150_1.2)).bind fun r150 =>
  ((prun Tryd.prog (Instr.extract r150.1 0)).bind fun v151 =>
  some (v151, r150.2)).bind fun r151 =>
  ((prun Tryd.prog (Instr.extract r150.1 1)).bind fun v152 =>
  some (v152, r151.2)).bind fun r152 =>
  ((erun Tryd.prog (Instr.storeAt 30 r17.1 r151.1) r152.2).bind fun r_12 =>
  some (undef, r_12.2)).bind fun r_11 =>
  chkThen ((((rrun Tryd.prog (Instr.loadAt 30 v9_2) W36.drew).bind fun v138_1 => some v138_1) = some r138.1 ∧ ((rrun Tryd.prog (Instr.loadAt 30 v9_2) r17.2).bind fun v138_2 => some v138_2) = some r138.1) ∧ (((rrun Tryd.prog (Instr.loadAt 30 v10_2) W36.drew).bind fun v139_1 => some v139_1) = some r139.1 ∧ ((rrun Tryd.prog (Instr.loadAt 30 v10_2) r17.2).bind fun v139_2 => some v139_2) = some r139.1) ∧ (((rrun Tryd.prog (Instr.loadAt 3 r143.1) W36.drew).bind fun v144_1 => some v144_1) = some r144.1 ∧ ((rrun Tryd.prog (Instr.loadAt 3 r143.1) r17.2).bind fun v144_2 => some v144_2) = some r144.1) ∧ (((rrun Tryd.prog (Instr.loadAt 3 r148.1) W36.drew).bind fun v149_1 => some v149_1) = some r149.1 ∧ ((rrun Tryd.prog (Instr.loadAt 3 r148.1) r17.2).bind fun v149_2 => some v149_2) = some r149.1) ∧ True)
  (okIf W36 ((f3.k12 call Rt rec1 rec6) [t0_11, r3_35, r4_16, a5_13, y6_10, v7_10, v8_5, v11_2, v15_1, r17.1, r152.1] r_11.2))) = some (.norm [] W36)) ∧
  ((((rrun Tryd.prog (Instr.loadAt 30 v9_2) W36.drew).bind fun v138_3 =>
  some (v138_3, W36.drew)).bind fun r138_1 =>
  ((rrun Tryd.prog (Instr.loadAt 30 v10_2) r138_1.2).bind fun v139_3 =>
  some (v139_3, r138_1.2)).bind fun r139_1 =>
  ((prun Tryd.prog (Instr.indexAt 22 t0_11 v7_10)).bind fun v142_1 =>
  some (v142_1, r139_1.2)).bind fun r142_1 =>
  ((prun Tryd.prog (Instr.fieldAt 32 r142_1.1 2)).bind fun v143_1 =>
  some (v143_1, r142_1.2)).bind fun r143_1 =>
  ((rrun Tryd.prog (Instr.loadAt 3 r143_1.1) r143_1.2).bind fun v144_3 =>
  some (v144_3, r143_1.2)).bind fun r144_1 =>
  ((prun Tryd.prog (Instr.indexAt 22 t0_11 v7_10)).bind fun v147_1 =>
  some (v147_1, r144_1.2)).bind fun r147_1 =>
  ((prun Tryd.prog (Instr.fieldAt 32 r147_1.1 3)).bind fun v148_1 =>
  some (v148_1, r147_1.2)).bind fun r148_1 =>
  ((rrun Tryd.prog (Instr.loadAt 3 r148_1.1) r148_1.2).bind fun v149_3 =>
  some (v149_3, r148_1.2)).bind fun r149_1 =>
  ((call 8 #[r138_1.1, r139_1.1, r144_1.1, r149_1.1] r149_1.2).bind fun r150_3 =>
  some (r150_3.1, r150_3.2)).bind fun r150_2 =>
  ((erun Tryd.prog (Instr.alloc 30 true (.tuple #[])) r150_2.2).bind fun r17_3 =>
  some (r17_3.1, r17_3.2)).bind fun r17_2 =>
  ((prun Tryd.prog (Instr.extract r150_2.1 0)).bind fun v151_1 =>
  some (v151_1, r17_2.2)).bind fun r151_1 =>
  ((prun Tryd.prog (Instr.extract r150_2.1 1)).bind fun v152_1 =>
  some (v152_1, r151_1.2)).bind fun r152_1 =>
  ((erun Tryd.prog (Instr.storeAt 30 r17_2.1 r151_1.1) r152_1.2).bind fun r_14 =>
  some (undef, r_14.2)).bind fun r_13 =>
  chkThen (True)
  (okIf W36 ((f3.k12 call Rt rec1 rec6) [t0_11, r3_35, r4_16, a5_13, y6_10, v7_10, v8_5, v11_2, v15_1, r17_2.1, r152_1.1] r_13.2))) = some (.norm [] W36)) ∧ True
noncomputable def f3.k10 (call : CallF) (Rt : List Value → World → Prop) (rec1 : List Value → World → Prop) (rec6 : List Value → World → Prop) (vs_34 : List Value) (W35 : World) : Prop :=
  let t0_10 := nth vs_34 0
  let r3_34 := nth vs_34 1
  let r4_15 := nth vs_34 2
  let a5_12 := nth vs_34 3
  let y6_9 := nth vs_34 4
  let v7_9 := nth vs_34 5
  let v8_4 := nth vs_34 6
  let v9_1 := nth vs_34 7
  let v10_1 := nth vs_34 8
  let v11_1 := nth vs_34 9
  let v12_1 := nth vs_34 10
  let v13 := nth vs_34 11
  let v14 := nth vs_34 12
  let v15 := nth vs_34 13
  let v16 := nth vs_34 14
  hold ((prun Tryd.prog (Op.unary .not v13)).bind fun v127 =>
  (asB v127).bind fun b128 =>
  (if b128 = false then (prun Tryd.prog (Op.unary .not v14)).bind fun v130 =>
    some (v130, W35)
   else some ((Value.bool true), W35)).bind fun r131 =>
  (asB r131.1).bind fun b132 =>
  (if b132 = false then (bin .neq v12_1 v16).bind fun v135 =>
    some (v135, r131.2)
   else some ((Value.bool true), r131.2)).bind fun r136 =>
  (asB r136.1).bind fun c136 =>
  if c136 then
    some (Res.ret [(Value.bool false)] r136.2)
  else
  some (Res.norm [t0_10, r3_34, r4_15, a5_12, y6_9, v7_9, v8_4, v9_1, v10_1, v11_1, v15] r136.2)) (after Rt [⟨3, [0, 3, 4, 5, 6, 7, 8], (f3.k8 call Rt rec1 rec6)⟩, ⟨2, [0, 3, 4, 5, 6, 7], (f3.k5 call Rt rec1)⟩, ⟨1, [0, 3, 4, 5, 6, 7], (f3.k3 call Rt rec1)⟩, ⟨0, [3, 4, 5], (f3.k0 call Rt)⟩] (f3.k11 call Rt rec1 rec6))
noncomputable def f3.k9 (call : CallF) (Rt : List Value → World → Prop) (rec1 : List Value → World → Prop) (rec6 : List Value → World → Prop) (vs_33 : List Value) (W34 : World) : Prop :=
  let t0_9 := nth vs_33 0
  let r3_33 := nth vs_33 1
  let r4_14 := nth vs_33 2
  let a5_11 := nth vs_33 3
  let y6_8 := nth vs_33 4
  let v7_8 := nth vs_33 5
  let v8_3 := nth vs_33 6
  let v9 := nth vs_33 7
  let v10 := nth vs_33 8
  let v11 := nth vs_33 9
  let v12 := nth vs_33 10
  ((rrun Tryd.prog (Instr.loadAt 30 v9) W34.drew).bind fun v88 =>
  (prun Tryd.prog (Instr.indexAt 22 t0_9 v7_8)).bind fun v91 =>
  (prun Tryd.prog (Instr.fieldAt 32 v91 0)).bind fun v92 =>
  (rrun Tryd.prog (Instr.loadAt 30 v92) W34.drew).bind fun v93 =>
  (call 9 #[v88, v93] W34.drew).bind fun r94 =>
  okIf W34 (((rrun Tryd.prog (Instr.loadAt 30 v10) r94.2.drew).bind fun v95 =>
  (prun Tryd.prog (Instr.indexAt 22 t0_9 v7_8)).bind fun v98 =>
  (prun Tryd.prog (Instr.fieldAt 32 v98 1)).bind fun v99 =>
  (rrun Tryd.prog (Instr.loadAt 30 v99) r94.2.drew).bind fun v100 =>
  (call 9 #[v95, v100] r94.2.drew).bind fun r101 =>
  okIf r94.2 (true = true ∧ ((((erun Tryd.prog (Instr.alloc 30 true (.tuple #[])) r101.2.drew).bind fun r15_1 =>
  some (r15_1.1, r15_1.2)).bind fun r15 =>
  ((prun Tryd.prog (Instr.indexAt 22 t0_9 v7_8)).bind fun v105 =>
  some (v105, r15.2)).bind fun r105 =>
  ((prun Tryd.prog (Instr.fieldAt 32 r105.1 0)).bind fun v106 =>
  some (v106, r105.2)).bind fun r106 =>
  ((rrun Tryd.prog (Instr.loadAt 30 r106.1) r106.2).bind fun v107 =>
  some (v107, r106.2)).bind fun r107 =>
  ((prun Tryd.prog (Instr.indexAt 22 t0_9 v7_8)).bind fun v110 =>
  some (v110, r107.2)).bind fun r110 =>
  ((prun Tryd.prog (Instr.fieldAt 32 r110.1 1)).bind fun v111 =>
  some (v111, r110.2)).bind fun r111 =>
  ((rrun Tryd.prog (Instr.loadAt 30 r111.1) r111.2).bind fun v112 =>
  some (v112, r111.2)).bind fun r112 =>
  ((prun Tryd.prog (Instr.indexAt 22 t0_9 v7_8)).bind fun v115 =>
  some (v115, r112.2)).bind fun r115 =>
  ((prun Tryd.prog (Instr.fieldAt 32 r115.1 2)).bind fun v116 =>
  some (v116, r115.2)).bind fun r116 =>
  ((rrun Tryd.prog (Instr.loadAt 3 r116.1) r116.2).bind fun v117 =>
  some (v117, r116.2)).bind fun r117 =>
  ((prun Tryd.prog (Instr.indexAt 22 t0_9 v7_8)).bind fun v120 =>
  some (v120, r117.2)).bind fun r120 =>
  ((prun Tryd.prog (Instr.fieldAt 32 r120.1 3)).bind fun v121 =>
  some (v121, r120.2)).bind fun r121 =>
  ((rrun Tryd.prog (Instr.loadAt 3 r121.1) r121.2).bind fun v122 =>
  some (v122, r121.2)).bind fun r122 =>
  ((call 10 #[r107.1, r112.1, r117.1, r122.1] r122.2).bind fun r123_1 =>
  some (r123_1.1, r123_1.2)).bind fun r123 =>
  ((prun Tryd.prog (Instr.extract r123.1 0)).bind fun v124 =>
  some (v124, r123.2)).bind fun r124 =>
  ((prun Tryd.prog (Instr.extract r123.1 1)).bind fun v125 =>
  some (v125, r124.2)).bind fun r125 =>
  ((erun Tryd.prog (Instr.storeAt 30 r15.1 r124.1) r125.2).bind fun r_16 =>
  some (undef, r_16.2)).bind fun r_15 =>
  chkThen ((((rrun Tryd.prog (Instr.loadAt 30 r106.1) r101.2.drew).bind fun v107_1 => some v107_1) = some r107.1 ∧ ((rrun Tryd.prog (Instr.loadAt 30 r106.1) r15.2).bind fun v107_2 => some v107_2) = some r107.1) ∧ (((rrun Tryd.prog (Instr.loadAt 30 r111.1) r101.2.drew).bind fun v112_1 => some v112_1) = some r112.1 ∧ ((rrun Tryd.prog (Instr.loadAt 30 r111.1) r15.2).bind fun v112_2 => some v112_2) = some r112.1) ∧ (((rrun Tryd.prog (Instr.loadAt 3 r116.1) r101.2.drew).bind fun v117_1 => some v117_1) = some r117.1 ∧ ((rrun Tryd.prog (Instr.loadAt 3 r116.1) r15.2).bind fun v117_2 => some v117_2) = some r117.1) ∧ (((rrun Tryd.prog (Instr.loadAt 3 r121.1) r101.2.drew).bind fun v122_1 => some v122_1) = some r122.1 ∧ ((rrun Tryd.prog (Instr.loadAt 3 r121.1) r15.2).bind fun v122_2 => some v122_2) = some r122.1) ∧ True)
  (okIf r101.2 ((f3.k10 call Rt rec1 rec6) [t0_9, r3_33, r4_14, a5_11, y6_8, v7_8, v8_3, v9, v10, v11, v12, r94.1, r101.1, r15.1, r125.1] r_15.2))) = some (.norm [] r101.2)) ∧
  ((((prun Tryd.prog (Instr.indexAt 22 t0_9 v7_8)).bind fun v105_1 =>
  some (v105_1, r101.2.drew)).bind fun r105_1 =>
  ((prun Tryd.prog (Instr.fieldAt 32 r105_1.1 0)).bind fun v106_1 =>
  some (v106_1, r105_1.2)).bind fun r106_1 =>
  ((rrun Tryd.prog (Instr.loadAt 30 r106_1.1) r106_1.2).bind fun v107_3 =>
  some (v107_3, r106_1.2)).bind fun r107_1 =>
  ((prun Tryd.prog (Instr.indexAt 22 t0_9 v7_8)).bind fun v110_1 =>
  some (v110_1, r107_1.2)).bind fun r110_1 =>
  ((prun Tryd.prog (Instr.fieldAt 32 r110_1.1 1)).bind fun v111_1 =>
  some (v111_1, r110_1.2)).bind fun r111_1 =>
  ((rrun Tryd.prog (Instr.loadAt 30 r111_1.1) r111_1.2).bind fun v112_3 =>
  some (v112_3, r111_1.2)).bind fun r112_1 =>
  ((prun Tryd.prog (Instr.indexAt 22 t0_9 v7_8)).bind fun v115_1 =>
  some (v115_1, r112_1.2)).bind fun r115_1 =>
  ((prun Tryd.prog (Instr.fieldAt 32 r115_1.1 2)).bind fun v116_1 =>
  some (v116_1, r115_1.2)).bind fun r116_1 =>
  ((rrun Tryd.prog (Instr.loadAt 3 r116_1.1) r116_1.2).bind fun v117_3 =>
  some (v117_3, r116_1.2)).bind fun r117_1 =>
  ((prun Tryd.prog (Instr.indexAt 22 t0_9 v7_8)).bind fun v120_1 =>
  some (v120_1, r117_1.2)).bind fun r120_1 =>
  ((prun Tryd.prog (Instr.fieldAt 32 r120_1.1 3)).bind fun v121_1 =>
  some (v121_1, r120_1.2)).bind fun r121_1 =>
  ((rrun Tryd.prog (Instr.loadAt 3 r121_1.1) r121_1.2).bind fun v122_3 =>
  some (v122_3, r121_1.2)).bind fun r122_1 =>
  ((call 10 #[r107_1.1, r112_1.1, r117_1.1, r122_1.1] r122_1.2).bind fun r123_3 =>
  some (r123_3.1, r123_3.2)).bind fun r123_2 =>
  ((erun Tryd.prog (Instr.alloc 30 true (.tuple #[])) r123_2.2).bind fun r15_3 =>
  some (r15_3.1, r15_3.2)).bind fun r15_2 =>
  ((prun Tryd.prog (Instr.extract r123_2.1 0)).bind fun v124_1 =>
  some (v124_1, r15_2.2)).bind fun r124_1 =>
  ((prun Tryd.prog (Instr.extract r123_2.1 1)).bind fun v125_1 =>
  some (v125_1, r124_1.2)).bind fun r125_1 =>
  ((erun Tryd.prog (Instr.storeAt 30 r15_2.1 r124_1.1) r125_1.2).bind fun r_18 =>
  some (undef, r_18.2)).bind fun r_17 =>
  chkThen (True)
  (okIf r101.2 ((f3.k10 call Rt rec1 rec6) [t0_9, r3_33, r4_14, a5_11, y6_8, v7_8, v8_3, v9, v10, v11, v12, r94.1, r101.1, r15_2.1, r125_1.1] r_17.2))) = some (.norm [] r101.2)) ∧ True)) = some (.norm [] r94.2))) = some (.norm [] W34)
noncomputable def f3.k7 (call : CallF) (Rt : List Value → World → Prop) (rec1 : List Value → World → Prop) (rec6 : List Value → World → Prop) (vs_31 : List Value) (W32 : World) : Prop :=
  let t0_7 := nth vs_31 0
  let r3_31 := nth vs_31 1
  let r4_12 := nth vs_31 2
  let a5_9 := nth vs_31 3
  let y6_6 := nth vs_31 4
  let v7_6 := nth vs_31 5
  let v8_1 := nth vs_31 6
  ((prun Tryd.prog (Instr.indexAt 22 t0_7 v7_6)).bind fun v62 =>
  (prun Tryd.prog (Instr.fieldAt 32 v62 0)).bind fun v63 =>
  (rrun Tryd.prog (Instr.loadAt 30 v63) W32).bind fun v64 =>
  (call 7 #[v64] W32).bind fun r65 =>
  (erun Tryd.prog (Instr.alloc 30 true (.tuple #[])) r65.2).bind fun r9 =>
  (erun Tryd.prog (Instr.storeAt 30 r9.1 r65.1) r9.2).bind fun r_1 =>
  okIf W32 (((prun Tryd.prog (Instr.indexAt 22 t0_7 v7_6)).bind fun v68 =>
  (prun Tryd.prog (Instr.fieldAt 32 v68 1)).bind fun v69 =>
  (rrun Tryd.prog (Instr.loadAt 30 v69) r_1.2).bind fun v70 =>
  (call 7 #[v70] r_1.2).bind fun r71 =>
  (erun Tryd.prog (Instr.alloc 30 true (.tuple #[])) r71.2).bind fun r10 =>
  (erun Tryd.prog (Instr.storeAt 30 r10.1 r71.1) r10.2).bind fun r_2 =>
  okIf r_1.2 (true = true ∧ ((((erun Tryd.prog (Instr.alloc 30 true (.tuple #[])) r_2.2.drew).bind fun r11_1 =>
  some (r11_1.1, r11_1.2)).bind fun r11 =>
  ((rrun Tryd.prog (Instr.loadAt 30 r9.1) r11.2).bind fun v73 =>
  some (v73, r11.2)).bind fun r73 =>
  ((rrun Tryd.prog (Instr.loadAt 30 r10.1) r73.2).bind fun v74 =>
  some (v74, r73.2)).bind fun r74 =>
  ((prun Tryd.prog (Instr.indexAt 22 t0_7 v7_6)).bind fun v77 =>
  some (v77, r74.2)).bind fun r77 =>
  ((prun Tryd.prog (Instr.fieldAt 32 r77.1 2)).bind fun v78 =>
  some (v78, r77.2)).bind fun r78 =>
  ((rrun Tryd.prog (Instr.loadAt 3 r78.1) r78.2).bind fun v79 =>
  some (v79, r78.2)).bind fun r79 =>
  ((prun Tryd.prog (Instr.indexAt 22 t0_7 v7_6)).bind fun v82 =>
  some (v82, r79.2)).bind fun r82 =>
  ((prun Tryd.prog (Instr.fieldAt 32 r82.1 3)).bind fun v83 =>
  some (v83, r82.2)).bind fun r83 =>
  ((rrun Tryd.prog (Instr.loadAt 3 r83.1) r83.2).bind fun v84 =>
  some (v84, r83.2)).bind fun r84 =>
  ((call 8 #[r73.1, r74.1, r79.1, r84.1] r84.2).bind fun r85_1 =>
  some (r85_1.1, r85_1.2)).bind fun r85 =>
  ((prun Tryd.prog (Instr.extract r85.1 0)).bind fun v86 =>
  some (v86, r85.2)).bind fun r86 =>
  ((prun Tryd.prog (Instr.extract r85.1 1)).bind fun v87 =>
  some (v87, r86.2)).bind fun r87 =>
  ((erun Tryd.prog (Instr.storeAt 30 r11.1 r86.1) r87.2).bind fun r_20 =>
  some (undef, r_20.2)).bind fun r_19 =>
  chkThen ((((rrun Tryd.prog (Instr.loadAt 30 r9.1) r_2.2.drew).bind fun v73_1 => some v73_1) = some r73.1 ∧ ((rrun Tryd.prog (Instr.loadAt 30 r9.1) r11.2).bind fun v73_2 => some v73_2) = some r73.1) ∧ (((rrun Tryd.prog (Instr.loadAt 30 r10.1) r_2.2.drew).bind fun v74_1 => some v74_1) = some r74.1 ∧ ((rrun Tryd.prog (Instr.loadAt 30 r10.1) r11.2).bind fun v74_2 => some v74_2) = some r74.1) ∧ (((rrun Tryd.prog (Instr.loadAt 3 r78.1) r_2.2.drew).bind fun v79_1 => some v79_1) = some r79.1 ∧ ((rrun Tryd.prog (Instr.loadAt 3 r78.1) r11.2).bind fun v79_2 => some v79_2) = some r79.1) ∧ (((rrun Tryd.prog (Instr.loadAt 3 r83.1) r_2.2.drew).bind fun v84_1 => some v84_1) = some r84.1 ∧ ((rrun Tryd.prog (Instr.loadAt 3 r83.1) r11.2).bind fun v84_2 => some v84_2) = some r84.1) ∧ True)
  (okIf r_2.2 ((f3.k9 call Rt rec1 rec6) [t0_7, r3_31, r4_12, a5_9, y6_6, v7_6, v8_1, r9.1, r10.1, r11.1, r87.1] r_19.2))) = some (.norm [] r_2.2)) ∧
  ((((rrun Tryd.prog (Instr.loadAt 30 r9.1) r_2.2.drew).bind fun v73_3 =>
  some (v73_3, r_2.2.drew)).bind fun r73_1 =>
  ((rrun Tryd.prog (Instr.loadAt 30 r10.1) r73_1.2).bind fun v74_3 =>
  some (v74_3, r73_1.2)).bind fun r74_1 =>
  ((prun Tryd.prog (Instr.indexAt 22 t0_7 v7_6)).bind fun v77_1 =>
  some (v77_1, r74_1.2)).bind fun r77_1 =>
  ((prun Tryd.prog (Instr.fieldAt 32 r77_1.1 2)).bind fun v78_1 =>
  some (v78_1, r77_1.2)).bind fun r78_1 =>
  ((rrun Tryd.prog (Instr.loadAt 3 r78_1.1) r78_1.2).bind fun v79_3 =>
  some (v79_3, r78_1.2)).bind fun r79_1 =>
  ((prun Tryd.prog (Instr.indexAt 22 t0_7 v7_6)).bind fun v82_1 =>
  some (v82_1, r79_1.2)).bind fun r82_1 =>
  ((prun Tryd.prog (Instr.fieldAt 32 r82_1.1 3)).bind fun v83_1 =>
  some (v83_1, r82_1.2)).bind fun r83_1 =>
  ((rrun Tryd.prog (Instr.loadAt 3 r83_1.1) r83_1.2).bind fun v84_3 =>
  some (v84_3, r83_1.2)).bind fun r84_1 =>
  ((call 8 #[r73_1.1, r74_1.1, r79_1.1, r84_1.1] r84_1.2).bind fun r85_3 =>
  some (r85_3.1, r85_3.2)).bind fun r85_2 =>
  ((erun Tryd.prog (Instr.alloc 30 true (.tuple #[])) r85_2.2).bind fun r11_3 =>
  some (r11_3.1, r11_3.2)).bind fun r11_2 =>
  ((prun Tryd.prog (Instr.extract r85_2.1 0)).bind fun v86_1 =>
  some (v86_1, r11_2.2)).bind fun r86_1 =>
  ((prun Tryd.prog (Instr.extract r85_2.1 1)).bind fun v87_1 =>
  some (v87_1, r86_1.2)).bind fun r87_1 =>
  ((erun Tryd.prog (Instr.storeAt 30 r11_2.1 r86_1.1) r87_1.2).bind fun r_22 =>
  some (undef, r_22.2)).bind fun r_21 =>
  chkThen (True)
  (okIf r_2.2 ((f3.k9 call Rt rec1 rec6) [t0_7, r3_31, r4_12, a5_9, y6_6, v7_6, v8_1, r9.1, r10.1, r11_2.1, r87_1.1] r_21.2))) = some (.norm [] r_2.2)) ∧ True)) = some (.norm [] r_1.2))) = some (.norm [] W32)
noncomputable def f3.w6 (call : CallF) (Rt : List Value → World → Prop) (rec1 : List Value → World → Prop) (rec6 : List Value → World → Prop) (vs_30 : List Value) (W31 : World) : Prop :=
  let t0_6 := nth vs_30 0
  let r3_30 := nth vs_30 1
  let r4_11 := nth vs_30 2
  let a5_8 := nth vs_30 3
  let y6_5 := nth vs_30 4
  let v7_5 := nth vs_30 5
  let v8 := nth vs_30 6
  hold ((bin .lss v8 (Value.int IntKind.i64 2)).bind fun v57 =>
  (asB v57).bind fun c57 =>
  if c57 then
    some (Res.norm [t0_6, r3_30, r4_11, a5_8, y6_5, v7_5, v8] W31)
  else
  some (Res.exit 2 [t0_6, r3_30, r4_11, a5_8, y6_5, v7_5] W31)) (after Rt [⟨2, [0, 3, 4, 5, 6, 7], (f3.k5 call Rt rec1)⟩, ⟨1, [0, 3, 4, 5, 6, 7], (f3.k3 call Rt rec1)⟩, ⟨0, [3, 4, 5], (f3.k0 call Rt)⟩] (f3.k7 call Rt rec1 rec6))
noncomputable def f3.k4 (call : CallF) (Rt : List Value → World → Prop) (rec1 : List Value → World → Prop) (vs_28 : List Value) (W29 : World) : Prop :=
  let t0_4 := nth vs_28 0
  let r3_28 := nth vs_28 1
  let r4_9 := nth vs_28 2
  let a5_6 := nth vs_28 3
  let y6_3 := nth vs_28 4
  let v7_3 := nth vs_28 5
  (okIf W29 (∃ n, itN (f3.w6 call Rt rec1) n [t0_4, r3_28, r4_9, a5_6, y6_3, v7_3, (Value.int IntKind.i64 0)] W29)) = some (.norm [] W29)
noncomputable def f3.k2 (call : CallF) (Rt : List Value → World → Prop) (rec1 : List Value → World → Prop) (vs_26 : List Value) (W27 : World) : Prop :=
  let t0_2 := nth vs_26 0
  let r3_26 := nth vs_26 1
  let r4_7 := nth vs_26 2
  let a5_4 := nth vs_26 3
  let y6_1 := nth vs_26 4
  let v7_1 := nth vs_26 5
  (((prun Tryd.prog (Instr.indexAt 22 t0_2 v7_1)).bind fun v42 =>
  some (v42, W27.drew)).bind fun r42 =>
  ((prun Tryd.prog (Instr.fieldAt 32 r42.1 0)).bind fun v43 =>
  some (v43, r42.2)).bind fun r43 =>
  ((rrun Tryd.prog (Instr.loadAt 30 r43.1) r43.2).bind fun v44 =>
  some (v44, r43.2)).bind fun r44 =>
  ((call 6 #[r44.1] r44.2).bind fun r45_1 =>
  some (r45_1.1, r45_1.2)).bind fun r45 =>
  ((bin .add y6_1 r45.1).bind fun v46 =>
  some (v46, r45.2)).bind fun r46 =>
  ((prun Tryd.prog (Instr.indexAt 22 t0_2 v7_1)).bind fun v49 =>
  some (v49, r46.2)).bind fun r49 =>
  ((prun Tryd.prog (Instr.fieldAt 32 r49.1 1)).bind fun v50 =>
  some (v50, r49.2)).bind fun r50 =>
  ((rrun Tryd.prog (Instr.loadAt 30 r50.1) r50.2).bind fun v51 =>
  some (v51, r50.2)).bind fun r51 =>
  ((call 6 #[r51.1] r51.2).bind fun r52_1 =>
  some (r52_1.1, r52_1.2)).bind fun r52 =>
  ((bin .add r46.1 r52.1).bind fun v53 =>
  some (v53, r52.2)).bind fun r53 =>
  chkThen ((((rrun Tryd.prog (Instr.loadAt 30 r50.1) r44.2).bind fun v51_1 => some v51_1) = some r51.1 ∧ ((rrun Tryd.prog (Instr.loadAt 30 r50.1) r45.2).bind fun v51_2 => some v51_2) = some r51.1) ∧ True)
  (okIf W27 (hold ((bin .gtr r53.1 (Value.int IntKind.i64 2147483647)).bind fun v55 =>
  (asB v55).bind fun c55 =>
  if c55 then
    some (Res.exit 0 [r3_26, r4_7, a5_4] r53.2)
  else
  some (Res.norm [t0_2, r3_26, r4_7, a5_4, r53.1, v7_1] r53.2)) (after Rt [⟨1, [0, 3, 4, 5, 6, 7], (f3.k3 call Rt rec1)⟩, ⟨0, [3, 4, 5], (f3.k0 call Rt)⟩] (f3.k4 call Rt rec1))))) = some (.norm [] W27)
noncomputable def f3.w1 (call : CallF) (Rt : List Value → World → Prop) (rec1 : List Value → World → Prop) (vs_25 : List Value) (W26 : World) : Prop :=
  let t0_1 := nth vs_25 0
  let r3_25 := nth vs_25 1
  let r4_6 := nth vs_25 2
  let a5_3 := nth vs_25 3
  let y6 := nth vs_25 4
  let v7 := nth vs_25 5
  hold ((prun Tryd.prog (Builtin.len_ #[22] 3 #[t0_1])).bind fun v35 =>
  (bin .lss v7 v35).bind fun v36 =>
  (asB v36).bind fun c36 =>
  if c36 then
    some (Res.norm [t0_1, r3_25, r4_6, a5_3, y6, v7] W26)
  else
  some (Res.exit 0 [r3_25, r4_6, a5_3] W26)) (after Rt [⟨0, [3, 4, 5], (f3.k0 call Rt)⟩] (f3.k2 call Rt rec1))
noncomputable def f3.w (call : CallF) (Rt : List Value → World → Prop) (t0 : Value) (W0 : World) : Prop :=
  (okIf W0 (((call 5 #[] W0).bind fun r32 =>
  okIf W0 ((okIf r32.2 ((okIf r32.2 ((okIf r32.2 ((okIf r32.2 (∃ n, itN (f3.w1 call Rt) n [t0, r32.1, (Value.slice none 0 0), (Value.slice none 0 0), (Value.int IntKind.i64 0), (Value.int IntKind.i64 0)] r32.2)) = some (.norm [] r32.2))) = some (.norm [] r32.2))) = some (.norm [] r32.2))) = some (.norm [] r32.2))) = some (.norm [] W0))) = some (.norm [] W0)
theorem f3.weq (call : CallF) (Rt : List Value → World → Prop) (t0 : Value) (W0 : World) : wCode Tryd.prog call [2] Tryd.f3.ntmps Rt (Tryd.f3.body.getD .skip) f3.wann [] (ofArgs #[t0]) W0 (fun e w => hold (gets e [2]) fun vs => Rt vs w) = f3.w call Rt t0 W0 := by kernel_rfl

@[simp] theorem len22 (ty : TypeId) (a : Option Addr) (n c : Nat) : prun Tryd.prog (Builtin.len_ #[22] ty #[.slice a n c]) = some (.int .i64 n) := len_slice Tryd.underlying22 ty a n c
@[simp] theorem len24 (ty : TypeId) (a : Option Addr) (n c : Nat) : prun Tryd.prog (Builtin.len_ #[24] ty #[.slice a n c]) = some (.int .i64 n) := len_slice Tryd.underlying24 ty a n c
@[simp] theorem fa32_0 (a : Addr) : prun Tryd.prog (Instr.fieldAt 32 (.pointer (some a)) 0) = some (.pointer (some (a.add 0))) := id (by kernel_rfl)
@[simp] theorem fa32_1 (a : Addr) : prun Tryd.prog (Instr.fieldAt 32 (.pointer (some a)) 1) = some (.pointer (some (a.add 5))) := id (by kernel_rfl)
@[simp] theorem fa32_2 (a : Addr) : prun Tryd.prog (Instr.fieldAt 32 (.pointer (some a)) 2) = some (.pointer (some (a.add 10))) := id (by kernel_rfl)
@[simp] theorem fa32_3 (a : Addr) : prun Tryd.prog (Instr.fieldAt 32 (.pointer (some a)) 3) = some (.pointer (some (a.add 11))) := id (by kernel_rfl)
theorem inf32 : Tryd.prog.info? 32 = some (inf 32) := by kernel_rfl
theorem size32 : (inf 32).size = 12 := by kernel_rfl
theorem ix22 (a : Addr) (n c : Nat) (k : IntKind) (j : Int) (h0 : 0 ≤ j) (h1 : j < n) : prun Tryd.prog (Instr.indexAt 22 (.slice (some a) n c) (.int k j)) = some (.pointer (some (a.add (j.toNat * 12)))) := by
  have h := index_slice Tryd.underlying22 inf32 a n c k j h0 h1
  rwa [size32] at h
theorem ix24 (a : Addr) (n c : Nat) (k : IntKind) (j : Int) (h0 : 0 ≤ j) (h1 : j < n) : prun Tryd.prog (Instr.indexAt 24 (.slice (some a) n c) (.int k j)) = some (.pointer (some (a.add (j.toNat * 5)))) := by
  have h := index_slice Tryd.underlying24 inf30 a n c k j h0 h1
  rwa [size30] at h
theorem zero30 : (inf 30).zero = some (.agg #[(.int .i64 0), (.int .i64 0), (.int .i64 0), (.bool false), (.slice none 0 0)]) := by kernel_rfl
theorem bytes30 : (inf 30).bytes = 56 := id (by kernel_rfl)
theorem ap24 {w : World} {base : Nat} {ty : TypeId} {v : Value} {n : Nat} {xs : List Value} (hown : w.ownsRow base 30 5 v n xs) {A : Option Addr} {m c : Nat} {news : List Value} (hl : news.length = m * 5) (hr : Rd w A news) (hnil : A = none → c = 0) (h1 : ∀ u ∈ news, u.oneCell' = true) (h63 : n + m ≤ maxLen) (hbytes : (n + m) * 56 ≤ 140737488355328) (hbase : base ≤ w.heap.size) :
    ∃ v' w', erun Tryd.prog (Builtin.append_ #[24, 24] ty #[v, .slice A m c]) w = some (v', w') ∧ w'.ownsRow base 30 5 v' (n + m) (xs ++ news) ∧ w.grownBy w' v.ownBlock := e_append Tryd.underlying24 inf30 zero30 size30 bytes30 rfl (by decide) hown hl hr hnil h1 h63 hbytes hbase
@[simp] theorem bs24_0 (w : World) : erun Tryd.prog (Instr.buildSlice 24 0 #[]) w = some (.slice (some ⟨w.heap.size, 0, none⟩) 0 0, w.alloc (.cells #[] 30)) := id (by kernel_rfl)
end Go.Sh.YtacfghffojijaaaDoor
