/- own work -/
import Derived.Test.YtkghbcadnbojgaaGreatDoorProg
import Derived.KernelRfl
import Derived.Test.YtkghbcadnbojgaaGreatDoorQD3
namespace Go.Sh.YtkghbcadnbojgaaGreatDoor
open Go Go.Proofs
set_option linter.unusedVariables false
set_option maxRecDepth 100000
open Go.Proofs.Tryz renaming prog → Zp, underlying9 → Uz
open Go.Instr renaming loadAt → Zl, fieldAt → Zf, storeAt → Zs, extract → Zx, sliceAt → Zc, index → Zi, indexAt → Zj, alloc → Za, build → Zb, box → Zo, makeInterface → Zm
open Go.Value renaming int → Vi, string → Vs, bool → Vb, nilIface → Vn, slice → Vl, pointer → Vp
open Go.IntKind renaming i64 → Ki, u8 → Ku, i32 → Kj, u64 → Kv, u32 → Kw
open Go.Operand renaming tmp → Ot, const → Oc
open Go.Builtin renaming len_ → Yl, append_ → Yb
open Go.Sh.Res renaming norm → Xn, ret → Xr, exit → Xx
open Go.Sh renaming prun → Pq, rrun → Rq, erun → Eq_
def f8.ann : Ann := (.s .z (.s .z (.s (.s .z (.c (.s .z .z) .z)) (.s .z (.s .z .z)))))
noncomputable def f8 (call : CallF)  (W0 : World) : Option (Value × World) :=
 ((call 9 #[(Vs { data := #[108, 105, 115, 116, 32, 50, 53, 32, 34, 111, 110, 101, 34, 10, 99, 117, 116, 32, 97, 32, 48, 48, 58, 48, 48, 58, 48, 49, 58, 48, 48, 32, 48, 48, 58, 48, 48, 58, 48, 50, 58, 48, 48] })] W0).bind fun r6 =>
 (Pq Zp (Zx r6.1 0)).bind fun v7 =>
 (Pq Zp (Zx r6.1 1)).bind fun v8 =>
 (Eq_ Zp (Za 30 true (.tuple #[])) r6.2).bind fun r1 =>
 (Eq_ Zp (Zs 30 r1.1 v7) r1.2).bind fun r =>
 (Rq Zp (do eqGuard .neq 32 (Ot 9) (Oc Vn) v8 Vn; binOp .neq 32 v8 Vn) r.2).bind fun v10 =>
 (asB v10).bind fun b11 =>
 (if b11 = false then (Pq Zp (Zf 30 r1.1 0)).bind fun v12 =>
  (Rq Zp (Zl 9 v12) r.2).bind fun v13 =>
  (Pq Zp (do eqGuard .neq 9 (Ot 13) (Oc (Vs { data := #[111, 110, 101] })) v13 (Vs { data := #[111, 110, 101] }); binOp .neq 9 v13 (Vs { data := #[111, 110, 101] }))).bind fun v14 =>
  some (v14, r.2)
  else some ((Vb true), r.2)).bind fun r15 =>
 (asB r15.1).bind fun b16 =>
 (if b16 = false then (Pq Zp (Zf 30 r1.1 1)).bind fun v17 =>
  (Rq Zp (Zl 27 v17) r15.2).bind fun v18 =>
  (bin .neq v18 (Vi Ki 2)).bind fun v19 =>
  some (v19, r15.2)
  else some ((Vb true), r15.2)).bind fun r20 =>
 (asB r20.1).bind fun b21 =>
 (if b21 = false then (Pq Zp (Zf 30 r1.1 2)).bind fun v22 =>
  (Rq Zp (Zl 28 v22) r20.2).bind fun v23 =>
  (Pq Zp (Yl #[28] 3 #[v23])).bind fun v24 =>
  (bin .neq v24 (Vi Ki 1)).bind fun v25 =>
  some (v25, r20.2)
  else some ((Vb true), r20.2)).bind fun r26 =>
 (asB r26.1).bind fun c26 =>
 if c26 then
  some (Xr [(Vb false)] r26.2)
 else
 (Rq Zp (Zl 30 r1.1) r26.2).bind fun v28 =>
 (call 18 #[v28] r26.2).bind fun r29 =>
 (Pq Zp (Zx r29.1 0)).bind fun v30 =>
 (Pq Zp (Zx r29.1 1)).bind fun v31 =>
 (Rq Zp (do eqGuard .eql 32 (Ot 32) (Oc Vn) v31 Vn; binOp .eql 32 v31 Vn) r29.2).bind fun v33 =>
 (asB v33).bind fun b34 =>
 (if b34 = true then (bin .eql v30 (Vi Ki 25)).bind fun v36 =>
  some (v36, r29.2)
  else some ((Vb false), r29.2)).bind fun r37 =>
 (asB r37.1).bind fun b38 =>
 (if b38 = true then (Pq Zp (Zf 30 r1.1 2)).bind fun v39 =>
  (Rq Zp (Zl 28 v39) r37.2).bind fun v40 =>
  (Pq Zp (Zj 28 v40 (Vi Ki 0))).bind fun v41 =>
  (Rq Zp (Zl 51 v41) r37.2).bind fun v42 =>
  (Pq Zp (Zb 51 #[(0, (Vs { data := #[97] })), (1, (Vi Ki 25)), (2, (Vi Ki 50))])).bind fun v43 =>
  (Rq Zp (do eqGuard .eql 51 (Ot 42) (Ot 43) v42 v43; binOp .eql 51 v42 v43) r37.2).bind fun v44 =>
  some (v44, r37.2)
  else some ((Vb false), r37.2)).bind fun r45 =>
 some (Xr [r45.1] r45.2)).bind Res.done
def f9.ann : Ann := (.s .z (.s (.s .z (.c (.s .z .z) .z)) (.s (.s .z (.s .z (.c (.s .z .z) .z))) (.s .z (.s .z (.s (.s .z (.b [0, 2, 5, 6] (.l [0, 2, 5, 6, 7] (.s (.s .z (.c .z .z)) (.b [0, 2, 5, 6, 7] (.s .z (.s (.s .z (.j [0, 2, 5, 6, 7, 8] .z .z)) (.s .z (.s .z (.s .z (.s (.s .z (.c .z .z)) (.s .z (.s (.s .z (.j [0, 2, 5, 6, 7, 10] (.s .z .z) .z)) (.s .z (.c (.s .z .z) .z))))))))))))))) (.s (.s .z (.c (.s .z .z) .z)) (.s .z .z))))))))
noncomputable def f9.l0 (call : CallF) (vs : List Value) (W1 : World) : Option Res :=
 let s0_1 := nth vs 0
 let v2 := nth vs 1
 let l5 := nth vs 2
 let begun6 := nth vs 3
 let at7 := nth vs 4
 (Pq Zp (Yl #[9] 3 #[s0_1])).bind fun v25 =>
 (bin .lss at7 v25).bind fun v26 =>
 (asB v26).bind fun c26 =>
 if c26 then
  ((Pq Zp (Zc 9 s0_1 (some at7) none none)).bind fun v30 =>
  (call 25 #[v30, (Vi Ku 10)] W1).bind fun r31 =>
  (bin .add at7 r31.1).bind fun v32 =>
  (bin .lss v32 at7).bind fun v35 =>
  (asB v35).bind fun c35 =>
  (if c35 then
   (Pq Zp (Yl #[9] 3 #[s0_1])).bind fun v37 =>
   some (Xn [s0_1, v2, l5, begun6, at7, v37] r31.2)
   else
   some (Xn [s0_1, v2, l5, begun6, at7, v32] r31.2)).bind fun (r : Res) => r.cont fun vs_1 W2 =>
  let s0_2 := nth vs_1 0
  let v2_1 := nth vs_1 1
  let l5_1 := nth vs_1 2
  let begun6_1 := nth vs_1 3
  let at7_1 := nth vs_1 4
  let to8 := nth vs_1 5
  (Pq Zp (Zb 64 #[])).bind fun v38 =>
  (Eq_ Zp (Zo 64 v38) W2).bind fun r39 =>
  (call 26 #[s0_2, at7_1, to8] r39.2).bind fun r46 =>
  (Pq Zp (Zx r46.1 0)).bind fun v47 =>
  (Pq Zp (Zx r46.1 1)).bind fun v48 =>
  (nilV Zp r39.1).bind fun v49 =>
  (Pq Zp (Zf 64 v49 0)).bind fun v50 =>
  (Eq_ Zp (Zs 62 v50 v47) r46.2).bind fun r_2 =>
  (nilV Zp r39.1).bind fun v51 =>
  (Pq Zp (Zf 64 v51 1)).bind fun v52 =>
  (Eq_ Zp (Zs 3 v52 v48) r_2.2).bind fun r_3 =>
  (bin .add to8 (Vi Ki 1)).bind fun v54 =>
  (nilV Zp r39.1).bind fun v56 =>
  (Pq Zp (Zf 64 v56 0)).bind fun v57 =>
  (Rq Zp (Zl 62 v57) r_3.2).bind fun v58 =>
  (Pq Zp (Yl #[62] 3 #[v58])).bind fun v59 =>
  (bin .eql v59 (Vi Ki 0)).bind fun v60 =>
  (asB v60).bind fun c60 =>
  if c60 then
   some (Xx 1 [s0_2, v2_1, l5_1, begun6_1, v54] r_3.2)
  else
  (Pq Zp (Op.unary .not begun6_1)).bind fun v62 =>
  (asB v62).bind fun c62 =>
  (if c62 then
   (call 27 #[r39.1] r_3.2).bind fun r65 =>
   (Pq Zp (Zx r65.1 0)).bind fun v66 =>
   (Pq Zp (Zx r65.1 1)).bind fun v67 =>
   (Eq_ Zp (Zs 30 l5_1 v66) r65.2).bind fun r_4 =>
   some (Xn [s0_2, v2_1, l5_1, (Vb true), v54, v67] r_4.2)
   else
   (call 28 #[r39.1, l5_1] r_3.2).bind fun r69 =>
   some (Xn [s0_2, v2_1, l5_1, begun6_1, v54, r69.1] r69.2)).bind fun (r : Res) => r.cont fun vs_2 W3 =>
  let s0_3 := nth vs_2 0
  let v2_2 := nth vs_2 1
  let l5_2 := nth vs_2 2
  let begun6_2 := nth vs_2 3
  let at7_2 := nth vs_2 4
  let err10 := nth vs_2 5
  (Rq Zp (do eqGuard .neq 32 (Ot 70) (Oc Vn) err10 Vn; binOp .neq 32 err10 Vn) W3).bind fun v71 =>
  (asB v71).bind fun c71 =>
  if c71 then
   (Pq Zp (Zb 30 #[])).bind fun v72 =>
   (Eq_ Zp (Zs 30 v2_2 v72) W3).bind fun r_5 =>
   some (Xr [v2_2, err10] r_5.2)
  else
  some (Xn [s0_3, v2_2, l5_2, begun6_2, at7_2] W3)).bind fun (r : Res) => (r.unblock 1).cont fun vs_3 W4 =>
  let s0_4 := nth vs_3 0
  let v2_3 := nth vs_3 1
  let l5_3 := nth vs_3 2
  let begun6_3 := nth vs_3 3
  let at7_3 := nth vs_3 4
  some (Xn [s0_4, v2_3, l5_3, begun6_3, at7_3] W4)
 else
 some (Xx 0 [s0_1, v2, l5, begun6] W1)
noncomputable def f9 (call : CallF) (s0 : Value) (W0 : World) : Option (Value × World) :=
 ((Eq_ Zp (Za 30 true (.tuple #[])) W0).bind fun r2 =>
 (Pq Zp (Yl #[9] 3 #[s0])).bind fun v12 =>
 (bin .gtr v12 (Vi Ki 20000)).bind fun v13 =>
 (asB v13).bind fun c13 =>
 if c13 then
  (Pq Zp (Zb 30 #[])).bind fun v14 =>
  (call 23 #[(Vi Ki 0), (Vi Ki 191)] r2.2).bind fun r15 =>
  (Eq_ Zp (Zs 30 r2.1 v14) r15.2).bind fun r =>
  some (Xr [r2.1, r15.1] r.2)
 else
 (call 24 #[s0] r2.2).bind fun r17 =>
 (bin .geq r17.1 (Vi Ki 0)).bind fun v19 =>
 (asB v19).bind fun c19 =>
 if c19 then
  (Pq Zp (Zb 30 #[])).bind fun v20 =>
  (call 23 #[r17.1, (Vi Ki 192)] r17.2).bind fun r22 =>
  (Eq_ Zp (Zs 30 r2.1 v20) r22.2).bind fun r_1 =>
  some (Xr [r2.1, r22.1] r_1.2)
 else
 (Eq_ Zp (Za 30 true (.tuple #[])) r17.2).bind fun r5 =>
 (iter (f9.l0 call) [s0, r2.1, r5.1, (Vb false), (Vi Ki 0)] r5.2).bind fun (r : Res) => (r.unblock 0).cont fun vs_4 W5 =>
 let s0_5 := nth vs_4 0
 let v2_4 := nth vs_4 1
 let l5_4 := nth vs_4 2
 let begun6_4 := nth vs_4 3
 (Pq Zp (Op.unary .not begun6_4)).bind fun v75 =>
 (asB v75).bind fun c75 =>
 if c75 then
  (Pq Zp (Zb 30 #[])).bind fun v76 =>
  (Pq Zp (Yl #[9] 3 #[s0_5])).bind fun v78 =>
  (call 23 #[v78, (Vi Ki 193)] W5).bind fun r79 =>
  (Eq_ Zp (Zs 30 v2_4 v76) r79.2).bind fun r_6 =>
  some (Xr [v2_4, r79.1] r_6.2)
 else
 (Rq Zp (Zl 30 l5_4) W5).bind fun v80 =>
 (Eq_ Zp (Zs 30 v2_4 v80) W5).bind fun r_7 =>
 some (Xr [v2_4, Vn] r_7.2)).bind (Res.doneR Zp [.cell 2 30, .tmp 3])
def f11.ann : Ann := (.s .z (.s .z (.s .z .z)))
noncomputable def f11 (call : CallF) (a0 : Value) (b1 : Value) (W0 : World) : Option (Value × World) :=
 ((Eq_ Zp (Zo 30 a0) W0).bind fun r2 =>
 (Eq_ Zp (Zo 30 b1) r2.2).bind fun r3 =>
 (Pq Zp (Zf 30 r2.1 2)).bind fun v6 =>
 (Rq Zp (Zl 28 v6) r3.2).bind fun v7 =>
 (Pq Zp (Zf 30 r3.1 2)).bind fun v8 =>
 (Rq Zp (Zl 28 v8) r3.2).bind fun v9 =>
 (call 33 #[v7, v9] r3.2).bind fun r10 =>
 (asB r10.1).bind fun b12 =>
 (if b12 = true then (Pq Zp (Zf 30 r2.1 0)).bind fun v13 =>
  (Rq Zp (Zl 9 v13) r10.2).bind fun v14 =>
  (Pq Zp (Zf 30 r3.1 0)).bind fun v15 =>
  (Rq Zp (Zl 9 v15) r10.2).bind fun v16 =>
  (Pq Zp (do eqGuard .eql 9 (Ot 14) (Ot 16) v14 v16; binOp .eql 9 v14 v16)).bind fun v17 =>
  some (v17, r10.2)
  else some ((Vb false), r10.2)).bind fun r18 =>
 (asB r18.1).bind fun b19 =>
 (if b19 = true then (Pq Zp (Zf 30 r2.1 1)).bind fun v20 =>
  (Rq Zp (Zl 27 v20) r18.2).bind fun v21 =>
  (Pq Zp (Zf 30 r3.1 1)).bind fun v22 =>
  (Rq Zp (Zl 27 v22) r18.2).bind fun v23 =>
  (bin .eql v21 v23).bind fun v24 =>
  some (v24, r18.2)
  else some ((Vb false), r18.2)).bind fun r25 =>
 some (Xr [r25.1] r25.2)).bind Res.done
def f12.ann : Ann := (.s .z (.s (.s .z (.c (.s .z .z) .z)) (.s .z (.s .z (.s (.s .z (.c (.s .z .z) .z)) (.s .z (.s .z .z)))))))
noncomputable def f12 (call : CallF) (err0 : Value) (at1 : Value) (e2 : Value) (W0 : World) : Option (Value × World) :=
 ((bin .eql e2 (Vi Ki 0)).bind fun v11 =>
 (asB v11).bind fun c11 =>
 if c11 then
  (Rq Zp (do eqGuard .eql 32 (Ot 12) (Oc Vn) err0 Vn; binOp .eql 32 err0 Vn) W0).bind fun v13 =>
  some (Xr [v13] W0)
 else
 (Pq Zp (Zb 83 #[])).bind fun v14 =>
 (Eq_ Zp (Zo 83 v14) W0).bind fun r15 =>
 (Eq_ Zp (Za 82 true (.tuple #[])) r15.2).bind fun r7 =>
 (Eq_ Zp (Zs 82 r7.1 r15.1) r7.2).bind fun r =>
 (Pq Zp (Zm 85 r7.1)).bind fun v17 =>
 (call 34 #[err0, v17] r.2).bind fun r18 =>
 (Pq Zp (Op.unary .not r18.1)).bind fun v20 =>
 (asB v20).bind fun b21 =>
 (if b21 = false then (Rq Zp (Zl 82 r7.1) r18.2).bind fun v22 =>
  (Rq Zp (do eqGuard .eql 82 (Ot 22) (Oc (Vp none)) v22 (Vp none); binOp .eql 82 v22 (Vp none)) r18.2).bind fun v23 =>
  some (v23, r18.2)
  else some ((Vb true), r18.2)).bind fun r24 =>
 (asB r24.1).bind fun c24 =>
 if c24 then
  some (Xr [(Vb false)] r24.2)
 else
 (Pq Zp (Zm 35 e2)).bind fun v27 =>
 (call 22 #[err0, v27] r24.2).bind fun r28 =>
 (asB r28.1).bind fun b30 =>
 (if b30 = true then (Rq Zp (Zl 82 r7.1) r28.2).bind fun v31 =>
  (nilV Zp v31).bind fun v32 =>
  (Pq Zp (Zf 83 v32 0)).bind fun v33 =>
  (Rq Zp (Zl 3 v33) r28.2).bind fun v34 =>
  (bin .eql v34 at1).bind fun v36 =>
  some (v36, r28.2)
  else some ((Vb false), r28.2)).bind fun r37 =>
 (asB r37.1).bind fun b38 =>
 (if b38 = true then (Rq Zp (Zl 82 r7.1) r37.2).bind fun v39 =>
  (nilV Zp v39).bind fun v40 =>
  (Pq Zp (Zf 83 v40 1)).bind fun v41 =>
  (Rq Zp (Zl 35 v41) r37.2).bind fun v42 =>
  (bin .eql v42 e2).bind fun v44 =>
  some (v44, r37.2)
  else some ((Vb false), r37.2)).bind fun r45 =>
 some (Xr [r45.1] r45.2)).bind Res.done
def f13.ann : Ann := (.s .z .z)
noncomputable def f13 (call : CallF) (b0 : Value) (l1 : Value) (W0 : World) : Option (Value × World) :=
 ((nilV Zp b0).bind fun v6 =>
 (Pq Zp (Zf 26 v6 0)).bind fun v7 =>
 (Rq Zp (Zl 24 v7) W0).bind fun v8 =>
 (Eq_ Zp (Instr.buildSlice 24 1 #[(0, l1)]) W0).bind fun r10 =>
 (Eq_ Zp (Yb #[24, 24] 24 #[v8, r10.1]) r10.2).bind fun r11 =>
 (nilV Zp b0).bind fun v12 =>
 (Pq Zp (Zf 26 v12 0)).bind fun v13 =>
 (Eq_ Zp (Zs 24 v13 r11.1) r11.2).bind fun r =>
 ((nilV Zp b0).bind fun v16 =>
 some (v16, r.2.drew)).bind fun r16 =>
 ((Pq Zp (Zf 26 r16.1 1)).bind fun v17 =>
 some (v17, r16.2)).bind fun r17 =>
 ((Rq Zp (Zl 24 r17.1) r17.2).bind fun v18 =>
 some (v18, r17.2)).bind fun r18 =>
 ((Eq_ Zp (Instr.buildSlice 28 0 #[]) r18.2).bind fun r19_1 =>
 some (r19_1.1, r19_1.2)).bind fun r19 =>
 ((Eq_ Zp (Yb #[28, 28] 28 #[r19.1, l1]) r19.2).bind fun r21_1 =>
 some (r21_1.1, r21_1.2)).bind fun r21 =>
 ((Eq_ Zp (Instr.buildSlice 24 1 #[(0, r21.1)]) r21.2).bind fun r22_1 =>
 some (r22_1.1, r22_1.2)).bind fun r22 =>
 ((Eq_ Zp (Yb #[24, 24] 24 #[r18.1, r22.1]) r22.2).bind fun r23_1 =>
 some (r23_1.1, r23_1.2)).bind fun r23 =>
 ((nilV Zp b0).bind fun v24 =>
 some (v24, r23.2)).bind fun r24 =>
 ((Pq Zp (Zf 26 r24.1 1)).bind fun v25 =>
 some (v25, r24.2)).bind fun r25 =>
 ((Eq_ Zp (Zs 24 r25.1 r23.1) r25.2).bind fun r_2 =>
 some (undef, r_2.2)).bind fun r_1 =>
 chkThen ((((Rq Zp (Zl 24 r17.1) r18.2).bind fun v18_5 => some v18_5) = some r18.1 ∧ ((Rq Zp (Zl 24 r17.1) r19.2).bind fun v18_6 => some v18_6) = some r18.1) ∧ (((Rq Zp (Zl 24 r17.1) r19.2).bind fun v18_3 => some v18_3) = some r18.1 ∧ ((Rq Zp (Zl 24 r17.1) r21.2).bind fun v18_4 => some v18_4) = some r18.1) ∧ (((Rq Zp (Zl 24 r17.1) r21.2).bind fun v18_1 => some v18_1) = some r18.1 ∧ ((Rq Zp (Zl 24 r17.1) r22.2).bind fun v18_2 => some v18_2) = some r18.1) ∧ True)
 (some (Xn [] r_1.2))).bind Res.done
def f14.ann : Ann := (.s .z (.s (.s .z (.b [0] (.l [0, 3] (.s (.s .z (.c .z .z)) (.s (.b [0, 3] (.s .z (.s .z (.c (.s .z .z) .z)))) .z))))) (.s (.s .z (.b [0] (.l [0, 5] (.s (.s .z (.c .z .z)) (.s (.b [0, 5] (.s .z (.b [0, 5] (.l [0, 5, 6] (.s (.s .z (.c .z .z)) (.s (.b [0, 5, 6] .z) .z)))))) .z))))) (.s .z (.s (.s .z (.b [0, 7] (.l [0, 7, 8] (.s (.s .z (.c .z .z)) (.s (.b [0, 7, 8] (.s .z (.s (.s .z (.b [0, 7, 8, 9] (.l [0, 7, 8, 9, 10] (.s (.s .z (.c .z .z)) (.s (.b [0, 7, 8, 9, 10] .z) .z))))) (.s .z (.s (.s .z (.b [0, 7, 8, 9, 11] (.l [0, 7, 8, 9, 11, 12] (.s (.s .z (.c .z .z)) (.s (.b [0, 7, 8, 9, 11, 12] .z) .z))))) .z))))) .z))))) (.s (.s .z (.b [] (.l [0, 7, 13] (.s (.s .z (.c .z .z)) (.s (.b [0, 7, 13] (.s .z (.s .z (.s .z (.s .z (.c (.s .z .z) .z)))))) .z))))) (.s .z .z)))))))
noncomputable def f14.l0 (call : CallF) (vs : List Value) (W1 : World) : Option Res :=
 let t0_1 := nth vs 0
 let r3 := nth vs 1
 (nilV Zp t0_1).bind fun v19 =>
 (Pq Zp (Zf 26 v19 0)).bind fun v20 =>
 (Rq Zp (Zl 24 v20) W1).bind fun v21 =>
 (Pq Zp (Yl #[24] 3 #[v21])).bind fun v22 =>
 (bin .lss r3 v22).bind fun v23 =>
 (asB v23).bind fun c23 =>
 if c23 then
  ((nilV Zp t0_1).bind fun v27 =>
  (Pq Zp (Zf 26 v27 0)).bind fun v28 =>
  (Rq Zp (Zl 24 v28) W1.drew).bind fun v29 =>
  (Pq Zp (Zj 24 v29 r3)).bind fun v31 =>
  (Rq Zp (Zl 28 v31) W1.drew).bind fun v32 =>
  (nilV Zp t0_1).bind fun v34 =>
  (Pq Zp (Zf 26 v34 1)).bind fun v35 =>
  (Rq Zp (Zl 24 v35) W1.drew).bind fun v36 =>
  (Pq Zp (Zj 24 v36 r3)).bind fun v38 =>
  (Rq Zp (Zl 28 v38) W1.drew).bind fun v39 =>
  (call 33 #[v32, v39] W1.drew).bind fun r40 =>
  (Pq Zp (Op.unary .not r40.1)).bind fun v42 =>
  (asB v42).bind fun c42 =>
  if c42 then
   some (Xr [(Vb false)] r40.2)
  else
  some (Xn [t0_1, r3] r40.2)).bind fun (r : Res) => (r.unblock 1).cont fun vs_1 W2 =>
  let t0_2 := nth vs_1 0
  let r3_1 := nth vs_1 1
  (bin .add r3_1 (Vi Ki 1)).bind fun v25 =>
  some (Xn [t0_2, v25] W2)
 else
 some (Xx 0 [t0_1] W1)
noncomputable def f14.l1 (call : CallF) (vs_4 : List Value) (W5 : World) : Option Res :=
 let t0_5 := nth vs_4 0
 let a5_1 := nth vs_4 1
 let y6 := nth vs_4 2
 (nilV Zp t0_5).bind fun v54 =>
 (Pq Zp (Zf 26 v54 0)).bind fun v55 =>
 (Rq Zp (Zl 24 v55) W5).bind fun v56 =>
 (Pq Zp (Zj 24 v56 a5_1)).bind fun v58 =>
 (Rq Zp (Zl 28 v58) W5).bind fun v59 =>
 (Pq Zp (Yl #[28] 3 #[v59])).bind fun v60 =>
 (bin .lss y6 v60).bind fun v61 =>
 (asB v61).bind fun c61 =>
 if c61 then
  (((nilV Zp t0_5).bind fun v65 =>
  some (v65, W5.drew)).bind fun r65 =>
  ((Pq Zp (Zf 26 r65.1 0)).bind fun v66 =>
  some (v66, r65.2)).bind fun r66 =>
  ((Rq Zp (Zl 24 r66.1) r66.2).bind fun v67 =>
  some (v67, r66.2)).bind fun r67 =>
  ((Pq Zp (Zj 24 r67.1 a5_1)).bind fun v69 =>
  some (v69, r67.2)).bind fun r69 =>
  ((Rq Zp (Zl 28 r69.1) r69.2).bind fun v70 =>
  some (v70, r69.2)).bind fun r70 =>
  ((call 35 #[a5_1] r70.2).bind fun r73_1 =>
  some (r73_1.1, r73_1.2)).bind fun r73 =>
  ((Pq Zp (Zj 28 r70.1 y6)).bind fun v74 =>
  some (v74, r73.2)).bind fun r74 =>
  ((Eq_ Zp (Zs 51 r74.1 r73.1) r74.2).bind fun r_1 =>
  some (undef, r_1.2)).bind fun r =>
  chkThen ((((Rq Zp (Zl 24 r66.1) r70.2).bind fun v67_1 => some v67_1) = some r67.1 ∧ ((Rq Zp (Zl 24 r66.1) r73.2).bind fun v67_2 => some v67_2) = some r67.1) ∧ (((Rq Zp (Zl 28 r69.1) r70.2).bind fun v70_1 => some v70_1) = some r70.1 ∧ ((Rq Zp (Zl 28 r69.1) r73.2).bind fun v70_2 => some v70_2) = some r70.1) ∧ True)
  (some (Xn [t0_5, a5_1, y6] r.2))).bind fun (r : Res) => (r.unblock 5).cont fun vs_5 W6 =>
  let t0_6 := nth vs_5 0
  let a5_2 := nth vs_5 1
  let y6_1 := nth vs_5 2
  (bin .add y6_1 (Vi Ki 1)).bind fun v63 =>
  some (Xn [t0_6, a5_2, v63] W6)
 else
 some (Xx 4 [t0_5, a5_1] W5)
noncomputable def f14.l2 (call : CallF) (vs_3 : List Value) (W4 : World) : Option Res :=
 let t0_4 := nth vs_3 0
 let a5 := nth vs_3 1
 (nilV Zp t0_4).bind fun v45 =>
 (Pq Zp (Zf 26 v45 0)).bind fun v46 =>
 (Rq Zp (Zl 24 v46) W4).bind fun v47 =>
 (Pq Zp (Yl #[24] 3 #[v47])).bind fun v48 =>
 (bin .lss a5 v48).bind fun v49 =>
 (asB v49).bind fun c49 =>
 if c49 then
  ((iter (f14.l1 call) [t0_4, a5, (Vi Ki 0)] W4).bind fun (r : Res) => (r.unblock 4).cont fun vs_6 W7 =>
  let t0_7 := nth vs_6 0
  let a5_3 := nth vs_6 1
  some (Xn [t0_7, a5_3] W7)).bind fun (r : Res) => (r.unblock 3).cont fun vs_7 W8 =>
  let t0_8 := nth vs_7 0
  let a5_4 := nth vs_7 1
  (bin .add a5_4 (Vi Ki 1)).bind fun v51 =>
  some (Xn [t0_8, v51] W8)
 else
 some (Xx 2 [t0_4] W4)
noncomputable def f14.l3 (call : CallF) (vs_10 : List Value) (W11 : World) : Option Res :=
 let t0_11 := nth vs_10 0
 let v7_1 := nth vs_10 1
 let v8_1 := nth vs_10 2
 let v9 := nth vs_10 3
 let v10 := nth vs_10 4
 (bin .lss v10 (Vi Ki 20)).bind fun v92 =>
 (asB v92).bind fun c92 =>
 if c92 then
  ((call 35 #[v8_1] W11).bind fun r97 =>
  (Eq_ Zp (Instr.buildSlice 28 1 #[(0, r97.1)]) r97.2).bind fun r98 =>
  (Eq_ Zp (Yb #[28, 28] 28 #[v9, r98.1]) r98.2).bind fun r99 =>
  some (Xn [t0_11, v7_1, v8_1, r99.1, v10] r99.2)).bind fun (r : Res) => (r.unblock 9).cont fun vs_11 W12 =>
  let t0_12 := nth vs_11 0
  let v7_2 := nth vs_11 1
  let v8_2 := nth vs_11 2
  let v9_1 := nth vs_11 3
  let v10_1 := nth vs_11 4
  (bin .add v10_1 (Vi Ki 1)).bind fun v94 =>
  some (Xn [t0_12, v7_2, v8_2, v9_1, v94] W12)
 else
 some (Xx 8 [t0_11, v7_1, v8_1, v9] W11)
noncomputable def f14.l4 (call : CallF) (vs_13 : List Value) (W14 : World) : Option Res :=
 let t0_14 := nth vs_13 0
 let v7_4 := nth vs_13 1
 let v8_4 := nth vs_13 2
 let v9_3 := nth vs_13 3
 let v11 := nth vs_13 4
 let v12 := nth vs_13 5
 (bin .lss v12 (Vi Ki 80)).bind fun v108 =>
 (asB v108).bind fun c108 =>
 if c108 then
  ((call 35 #[v8_4] W14).bind fun r113 =>
  (Eq_ Zp (Instr.buildSlice 28 1 #[(0, r113.1)]) r113.2).bind fun r114 =>
  (Eq_ Zp (Yb #[28, 28] 28 #[v11, r114.1]) r114.2).bind fun r115 =>
  some (Xn [t0_14, v7_4, v8_4, v9_3, r115.1, v12] r115.2)).bind fun (r : Res) => (r.unblock 11).cont fun vs_14 W15 =>
  let t0_15 := nth vs_14 0
  let v7_5 := nth vs_14 1
  let v8_5 := nth vs_14 2
  let v9_4 := nth vs_14 3
  let v11_1 := nth vs_14 4
  let v12_1 := nth vs_14 5
  (bin .add v12_1 (Vi Ki 1)).bind fun v110 =>
  some (Xn [t0_15, v7_5, v8_5, v9_4, v11_1, v110] W15)
 else
 some (Xx 10 [t0_14, v7_4, v8_4, v9_3, v11] W14)
noncomputable def f14.l5 (call : CallF) (vs_9 : List Value) (W10 : World) : Option Res :=
 let t0_10 := nth vs_9 0
 let v7 := nth vs_9 1
 let v8 := nth vs_9 2
 (nilV Zp t0_10).bind fun v77 =>
 (Pq Zp (Zf 26 v77 0)).bind fun v78 =>
 (Rq Zp (Zl 24 v78) W10).bind fun v79 =>
 (Pq Zp (Yl #[24] 3 #[v79])).bind fun v80 =>
 (bin .lss v8 v80).bind fun v81 =>
 (asB v81).bind fun c81 =>
 if c81 then
  ((nilV Zp t0_10).bind fun v85 =>
  (Pq Zp (Zf 26 v85 0)).bind fun v86 =>
  (Rq Zp (Zl 24 v86) W10).bind fun v87 =>
  (Pq Zp (Zj 24 v87 v8)).bind fun v89 =>
  (Rq Zp (Zl 28 v89) W10).bind fun v90 =>
  (iter (f14.l3 call) [t0_10, v7, v8, v90, (Vi Ki 0)] W10).bind fun (r : Res) => (r.unblock 8).cont fun vs_12 W13 =>
  let t0_13 := nth vs_12 0
  let v7_3 := nth vs_12 1
  let v8_3 := nth vs_12 2
  let v9_2 := nth vs_12 3
  (nilV Zp t0_13).bind fun v101 =>
  (Pq Zp (Zf 26 v101 0)).bind fun v102 =>
  (Rq Zp (Zl 24 v102) W13).bind fun v103 =>
  (Pq Zp (Zj 24 v103 v8_3)).bind fun v105 =>
  (Rq Zp (Zl 28 v105) W13).bind fun v106 =>
  (iter (f14.l4 call) [t0_13, v7_3, v8_3, v9_2, v106, (Vi Ki 0)] W13).bind fun (r : Res) => (r.unblock 10).cont fun vs_15 W16 =>
  let t0_16 := nth vs_15 0
  let v7_6 := nth vs_15 1
  let v8_6 := nth vs_15 2
  let v9_5 := nth vs_15 3
  let v11_2 := nth vs_15 4
  (Eq_ Zp (Instr.buildSlice 24 2 #[(0, v9_5), (1, v11_2)]) W16).bind fun r119 =>
  (Eq_ Zp (Yb #[24, 24] 24 #[v7_6, r119.1]) r119.2).bind fun r120 =>
  some (Xn [t0_16, r120.1, v8_6] r120.2)).bind fun (r : Res) => (r.unblock 7).cont fun vs_16 W17 =>
  let t0_17 := nth vs_16 0
  let v7_7 := nth vs_16 1
  let v8_7 := nth vs_16 2
  (bin .add v8_7 (Vi Ki 1)).bind fun v83 =>
  some (Xn [t0_17, v7_7, v83] W17)
 else
 some (Xx 6 [t0_10, v7] W10)
noncomputable def f14.l6 (call : CallF) (vs_18 : List Value) (W19 : World) : Option Res :=
 let t0_19 := nth vs_18 0
 let v7_9 := nth vs_18 1
 let v13 := nth vs_18 2
 (nilV Zp t0_19).bind fun v123 =>
 (Pq Zp (Zf 26 v123 0)).bind fun v124 =>
 (Rq Zp (Zl 24 v124) W19).bind fun v125 =>
 (Pq Zp (Yl #[24] 3 #[v125])).bind fun v126 =>
 (bin .lss v13 v126).bind fun v127 =>
 (asB v127).bind fun c127 =>
 if c127 then
  (((nilV Zp t0_19).bind fun v131 =>
  some (v131, W19.drew)).bind fun r131 =>
  ((Pq Zp (Zf 26 r131.1 0)).bind fun v132 =>
  some (v132, r131.2)).bind fun r132 =>
  ((Rq Zp (Zl 24 r132.1) r132.2).bind fun v133 =>
  some (v133, r132.2)).bind fun r133 =>
  ((Pq Zp (Zj 24 r133.1 v13)).bind fun v135 =>
  some (v135, r133.2)).bind fun r135 =>
  ((Rq Zp (Zl 28 r135.1) r135.2).bind fun v136 =>
  some (v136, r135.2)).bind fun r136 =>
  ((call 35 #[v13] r136.2).bind fun r138_1 =>
  some (r138_1.1, r138_1.2)).bind fun r138 =>
  ((call 36 #[r136.1, r138.1] r138.2).bind fun r139_1 =>
  some (r139_1.1, r139_1.2)).bind fun r139 =>
  chkThen ((((Rq Zp (Zl 24 r132.1) r136.2).bind fun v133_1 => some v133_1) = some r133.1 ∧ ((Rq Zp (Zl 24 r132.1) r138.2).bind fun v133_2 => some v133_2) = some r133.1) ∧ (((Rq Zp (Zl 28 r135.1) r136.2).bind fun v136_1 => some v136_1) = some r136.1 ∧ ((Rq Zp (Zl 28 r135.1) r138.2).bind fun v136_2 => some v136_2) = some r136.1) ∧ True)
  (((bin .mul (Vi Ki 2) v13).bind fun v142 =>
  some (v142, r139.2.drew)).bind fun r142 =>
  ((Pq Zp (Zj 24 v7_9 r142.1)).bind fun v143 =>
  some (v143, r142.2)).bind fun r143 =>
  ((Rq Zp (Zl 28 r143.1) r143.2).bind fun v144 =>
  some (v144, r143.2)).bind fun r144 =>
  ((call 35 #[v13] r144.2).bind fun r146_1 =>
  some (r146_1.1, r146_1.2)).bind fun r146 =>
  ((call 36 #[r144.1, r146.1] r146.2).bind fun r147_1 =>
  some (r147_1.1, r147_1.2)).bind fun r147 =>
  chkThen ((((Rq Zp (Zl 28 r143.1) r144.2).bind fun v144_1 => some v144_1) = some r144.1 ∧ ((Rq Zp (Zl 28 r143.1) r146.2).bind fun v144_2 => some v144_2) = some r144.1) ∧ True)
  (((bin .mul (Vi Ki 2) v13).bind fun v150 =>
  some (v150, r147.2.drew)).bind fun r150 =>
  ((bin .add r150.1 (Vi Ki 1)).bind fun v151 =>
  some (v151, r150.2)).bind fun r151 =>
  ((Pq Zp (Zj 24 v7_9 r151.1)).bind fun v152 =>
  some (v152, r151.2)).bind fun r152 =>
  ((Rq Zp (Zl 28 r152.1) r152.2).bind fun v153 =>
  some (v153, r152.2)).bind fun r153 =>
  ((call 35 #[v13] r153.2).bind fun r155_1 =>
  some (r155_1.1, r155_1.2)).bind fun r155 =>
  ((call 36 #[r153.1, r155.1] r155.2).bind fun r156_1 =>
  some (r156_1.1, r156_1.2)).bind fun r156 =>
  chkThen ((((Rq Zp (Zl 28 r152.1) r153.2).bind fun v153_1 => some v153_1) = some r153.1 ∧ ((Rq Zp (Zl 28 r152.1) r155.2).bind fun v153_2 => some v153_2) = some r153.1) ∧ True)
  ((Pq Zp (Op.unary .not r139.1)).bind fun v158 =>
  (asB v158).bind fun b159 =>
  (if b159 = false then (Pq Zp (Op.unary .not r147.1)).bind fun v161 =>
   some (v161, r156.2)
   else some ((Vb true), r156.2)).bind fun r162 =>
  (asB r162.1).bind fun b163 =>
  (if b163 = false then (Pq Zp (Op.unary .not r156.1)).bind fun v165 =>
   some (v165, r162.2)
   else some ((Vb true), r162.2)).bind fun r166 =>
  (asB r166.1).bind fun c166 =>
  if c166 then
   some (Xr [(Vb false)] r166.2)
  else
  some (Xn [t0_19, v7_9, v13] r166.2))))).bind fun (r : Res) => (r.unblock 13).cont fun vs_19 W20 =>
  let t0_20 := nth vs_19 0
  let v7_10 := nth vs_19 1
  let v13_1 := nth vs_19 2
  (bin .add v13_1 (Vi Ki 1)).bind fun v129 =>
  some (Xn [t0_20, v7_10, v129] W20)
 else
 some (Xx 12 [] W19)
noncomputable def f14 (call : CallF) (t0 : Value) (W0 : World) : Option (Value × World) :=
 ((iter (f14.l0 call) [t0, (Vi Ki 0)] W0).bind fun (r : Res) => (r.unblock 0).cont fun vs_2 W3 =>
 let t0_3 := nth vs_2 0
 (iter (f14.l2 call) [t0_3, (Vi Ki 0)] W3).bind fun (r : Res) => (r.unblock 2).cont fun vs_8 W9 =>
 let t0_9 := nth vs_8 0
 (iter (f14.l5 call) [t0_9, (Vl none 0 0), (Vi Ki 0)] W9).bind fun (r : Res) => (r.unblock 6).cont fun vs_17 W18 =>
 let t0_18 := nth vs_17 0
 let v7_8 := nth vs_17 1
 (iter (f14.l6 call) [t0_18, v7_8, (Vi Ki 0)] W18).bind fun (r : Res) => (r.unblock 12).cont fun vs_20 W21 =>
 some (Xr [(Vb true)] W21)).bind Res.done
def f15.ann : Ann := (.s .z (.s .z (.s (.b [1, 3] (.s .z (.c (.s .z .z) (.s .z (.c (.s .z .z) (.s .z (.c (.s .z .z) (.s .z (.c (.s .z .z) .z))))))))) (.s (.s .z (.b [] (.l [1, 3, 37, 38, 39] (.s .z (.s (.c .z .z) (.s (.b [1, 3, 37, 38, 39] (.s .z (.s .z (.s .z (.c (.s .z .z) .z))))) .z)))))) (.s .z .z)))))
noncomputable def f15.l0 (call : CallF) (vs_1 : List Value) (W2 : World) : Option Res :=
 let l1_1 := nth vs_1 0
 let day3_1 := nth vs_1 1
 let v37_1 := nth vs_1 2
 let v38_1 := nth vs_1 3
 let v39 := nth vs_1 4
 (bin .lss v39 v38_1).bind fun v40 =>
 (asB v40).bind fun c40 =>
 if c40 then
  ((Pq Zp (Zj 28 v37_1 v39)).bind fun v42 =>
  (Rq Zp (Zl 51 v42) W2).bind fun v43 =>
  (Eq_ Zp (Za 51 true (.tuple #[])) W2).bind fun r6 =>
  (Eq_ Zp (Zs 51 r6.1 v43) r6.2).bind fun r =>
  (Pq Zp (Zf 30 l1_1 2)).bind fun v44 =>
  (Rq Zp (Zl 28 v44) r.2.drew).bind fun v45 =>
  (Pq Zp (Zc 28 v45 none (some v39) none)).bind fun v47 =>
  (Rq Zp (Zl 51 r6.1) r.2.drew).bind fun v48 =>
  (call 40 #[v47, v48, day3_1] r.2.drew).bind fun r50 =>
  (bin .neq r50.1 (Vi Ki 0)).bind fun v52 =>
  (asB v52).bind fun c52 =>
  if c52 then
   (call 38 #[v39, r50.1] r50.2).bind fun r55 =>
   some (Xr [r55.1] r55.2)
  else
  some (Xn [l1_1, day3_1, v37_1, v38_1, v39] r50.2)).bind fun (r : Res) => (r.unblock 2).cont fun vs_2 W3 =>
  let l1_2 := nth vs_2 0
  let day3_2 := nth vs_2 1
  let v37_2 := nth vs_2 2
  let v38_2 := nth vs_2 3
  let v39_1 := nth vs_2 4
  (bin .add v39_1 (Vi Ki 1)).bind fun v56 =>
  some (Xn [l1_2, day3_2, v37_2, v38_2, v56] W3)
 else
 some (Xx 1 [] W2)
noncomputable def f15 (call : CallF) (l0 : Value) (W0 : World) : Option (Value × World) :=
 ((Eq_ Zp (Zo 30 l0) W0).bind fun r1 =>
 (Pq Zp (Zf 30 r1.1 1)).bind fun v9 =>
 (Rq Zp (Zl 27 v9) r1.2).bind fun v10 =>
 (call 37 #[v10] r1.2).bind fun r11 =>
 (Pq Zp (Zx r11.1 0)).bind fun v12 =>
 (Pq Zp (Zx r11.1 1)).bind fun v13 =>
 ((Pq Zp (Zf 30 r1.1 0)).bind fun v15 =>
 (Rq Zp (Zl 9 v15) r11.2).bind fun v16 =>
 (Pq Zp (Yl #[9] 3 #[v16])).bind fun v17 =>
 (bin .gtr v17 (Vi Ki 100)).bind fun v18 =>
 (asB v18).bind fun c14 =>
 if c14 then
  (call 38 #[(Vi Ki (-1)), (Vi Ki 191)] r11.2).bind fun r19 =>
  some (Xr [r19.1] r19.2)
 else
 (Pq Zp (Zf 30 r1.1 0)).bind fun v21 =>
 (Rq Zp (Zl 9 v21) r11.2).bind fun v22 =>
 (call 39 #[v22] r11.2).bind fun r23 =>
 (Pq Zp (Op.unary .not r23.1)).bind fun v24 =>
 (asB v24).bind fun c20 =>
 if c20 then
  (call 38 #[(Vi Ki (-1)), (Vi Ki 192)] r23.2).bind fun r25 =>
  some (Xr [r25.1] r25.2)
 else
 (bin .neq v13 (Vi Ki 0)).bind fun v28 =>
 (asB v28).bind fun c26 =>
 if c26 then
  (call 38 #[(Vi Ki (-1)), (Vi Ki 181)] r23.2).bind fun r29 =>
  some (Xr [r29.1] r29.2)
 else
 (Pq Zp (Zf 30 r1.1 2)).bind fun v31 =>
 (Rq Zp (Zl 28 v31) r23.2).bind fun v32 =>
 (Pq Zp (Yl #[28] 3 #[v32])).bind fun v33 =>
 (bin .gtr v33 (Vi Ki 200)).bind fun v34 =>
 (asB v34).bind fun c30 =>
 if c30 then
  (call 38 #[(Vi Ki (-1)), (Vi Ki 196)] r23.2).bind fun r35 =>
  some (Xr [r35.1] r35.2)
 else
 some (Xn [r1.1, v12] r23.2)).bind fun (r : Res) => (r.unblock 0).cont fun vs W1 =>
 let l1 := nth vs 0
 let day3 := nth vs 1
 (Pq Zp (Zf 30 l1 2)).bind fun v36 =>
 (Rq Zp (Zl 28 v36) W1).bind fun v37 =>
 (Pq Zp (Yl #[28] 3 #[v37])).bind fun v38 =>
 (iter (f15.l0 call) [l1, day3, v37, v38, (Vi Ki 0)] W1).bind fun (r : Res) => (r.unblock 1).cont fun vs_3 W4 =>
 some (Xr [Vn] W4)).bind Res.done
def f18.ann : Ann := (.s .z (.s (.s .z (.s .z (.c (.s .z .z) .z))) (.s .z (.s (.s .z (.b [5] (.l [5, 14, 15, 16] (.s .z (.s (.c .z .z) (.s (.b [5, 14, 15, 16] (.s .z .z)) .z)))))) (.s .z .z)))))
noncomputable def f18.l0 (call : CallF) (vs : List Value) (W1 : World) : Option Res :=
 let n5 := nth vs 0
 let v14_1 := nth vs 1
 let v15_1 := nth vs 2
 let v16 := nth vs 3
 (bin .lss v16 v15_1).bind fun v17 =>
 (asB v17).bind fun c17 =>
 if c17 then
  ((Pq Zp (Zj 28 v14_1 v16)).bind fun v18 =>
  (Rq Zp (Zl 51 v18) W1).bind fun v19 =>
  (Eq_ Zp (Za 51 true (.tuple #[])) W1).bind fun r7 =>
  (Eq_ Zp (Zs 51 r7.1 v19) r7.2).bind fun r =>
  ((Rq Zp (Zl 51 r7.1) r.2.drew).bind fun v21 =>
  some (v21, r.2.drew)).bind fun r21 =>
  ((call 46 #[r21.1] r21.2).bind fun r22_1 =>
  some (r22_1.1, r22_1.2)).bind fun r22 =>
  ((Pq Zp (Zf 51 r7.1 3)).bind fun v23 =>
  some (v23, r22.2)).bind fun r23 =>
  ((Rq Zp (Zl 3 r23.1) r23.2).bind fun v24 =>
  some (v24, r23.2)).bind fun r24 =>
  ((bin .sub r22.1 r24.1).bind fun v25 =>
  some (v25, r24.2)).bind fun r25 =>
  ((bin .add n5 r25.1).bind fun v26 =>
  some (v26, r25.2)).bind fun r26 =>
  chkThen ((((Rq Zp (Zl 3 r23.1) r21.2).bind fun v24_1 => some v24_1) = some r24.1 ∧ ((Rq Zp (Zl 3 r23.1) r22.2).bind fun v24_2 => some v24_2) = some r24.1) ∧ True)
  (some (Xn [r26.1, v14_1, v15_1, v16] r26.2))).bind fun (r : Res) => (r.unblock 1).cont fun vs_1 W2 =>
  let n5_1 := nth vs_1 0
  let v14_2 := nth vs_1 1
  let v15_2 := nth vs_1 2
  let v16_1 := nth vs_1 3
  (bin .add v16_1 (Vi Ki 1)).bind fun v27 =>
  some (Xn [n5_1, v14_2, v15_2, v27] W2)
 else
 some (Xx 0 [n5] W1)
noncomputable def f18 (call : CallF) (l0 : Value) (W0 : World) : Option (Value × World) :=
 ((Eq_ Zp (Zo 30 l0) W0).bind fun r1 =>
 (Rq Zp (Zl 30 r1.1) r1.2).bind fun v8 =>
 (call 15 #[v8] r1.2).bind fun r9 =>
 (Rq Zp (do eqGuard .neq 32 (Ot 10) (Oc Vn) r9.1 Vn; binOp .neq 32 r9.1 Vn) r9.2).bind fun v11 =>
 (asB v11).bind fun c11 =>
 if c11 then
  some (Xr [(Vi Ki 0), r9.1] r9.2)
 else
 (Pq Zp (Zf 30 r1.1 2)).bind fun v13 =>
 (Rq Zp (Zl 28 v13) r9.2).bind fun v14 =>
 (Pq Zp (Yl #[28] 3 #[v14])).bind fun v15 =>
 (iter (f18.l0 call) [(Vi Ki 0), v14, v15, (Vi Ki 0)] r9.2).bind fun (r : Res) => (r.unblock 0).cont fun vs_2 W3 =>
 let n5_2 := nth vs_2 0
 some (Xr [n5_2, Vn] W3)).bind Res.done
def f22.ann : Ann := (.s .z (.s (.s .z (.c (.s .z .z) .z)) (.s .z (.s .z .z))))
noncomputable def f22 (call : CallF) (err0 : Value) (target1 : Value) (W0 : World) : Option (Value × World) :=
 ((Rq Zp (do eqGuard .eql 32 (Ot 6) (Oc Vn) err0 Vn; binOp .eql 32 err0 Vn) W0).bind fun v7 =>
 (asB v7).bind fun b8 =>
 (if b8 = false then (Rq Zp (do eqGuard .eql 32 (Ot 9) (Oc Vn) target1 Vn; binOp .eql 32 target1 Vn) W0).bind fun v10 =>
  some (v10, W0)
  else some ((Vb true), W0)).bind fun r11 =>
 (asB r11.1).bind fun c11 =>
 if c11 then
  (Rq Zp (do eqGuard .eql 32 (Ot 12) (Ot 13) err0 target1; binOp .eql 32 err0 target1) r11.2).bind fun v14 =>
  some (Xr [v14] r11.2)
 else
 (xrun Zp (callFunc 52 #[target1]) r11.2).bind fun r16 =>
 (imethod Zp r16.1 "Comparable" r16.2).bind fun m17 =>
 (call m17.1 #[m17.2] r16.2).bind fun r17 =>
 (call 53 #[err0, target1, r17.1] r17.2).bind fun r21 =>
 some (Xr [r21.1] r21.2)).bind Res.done
def f23.ann : Ann := (.s .z (.s .z .z))
noncomputable def f23 (call : CallF) (at0 : Value) (e1 : Value) (W0 : World) : Option (Value × World) :=
 ((Pq Zp (Zb 83 #[(0, at0), (1, e1)])).bind fun v7 =>
 (Eq_ Zp (Zo 83 v7) W0).bind fun r8 =>
 (Pq Zp (Zm 82 r8.1)).bind fun v9 =>
 some (Xr [v9] r8.2)).bind Res.done
def f24.ann : Ann := (.s .z (.s (.s .z (.b [] (.l [0, 8] (.s .z (.s (.c .z .z) (.b [0, 8] (.s .z (.s (.s .z (.c .z .z)) (.s .z (.s .z (.c (.s .z .z) .z))))))))))) (.s .z .z)))
noncomputable def f24.l0 (call : CallF) (vs : List Value) (W1 : World) : Option Res :=
 let s0_1 := nth vs 0
 let v8 := nth vs 1
 (Eq_ Zp (Instr.next v8 true 0) W1).bind fun r9 =>
 (Pq Zp (Zx r9.1 0)).bind fun v10 =>
 (asB v10).bind fun c10 =>
 if c10 then
  ((Pq Zp (Zx r9.1 1)).bind fun v11 =>
  (Pq Zp (Zx r9.1 2)).bind fun v12 =>
  (bin .neq v12 (Vi Kj 65533)).bind fun v14 =>
  (asB v14).bind fun c14 =>
  if c14 then
   some (Xx 1 [s0_1, v8] r9.2)
  else
  (Pq Zp (Zc 9 s0_1 (some v11) none none)).bind fun v18 =>
  (call 54 #[v18] r9.2).bind fun r19 =>
  (Pq Zp (Zx r19.1 0)).bind fun v20 =>
  (Pq Zp (Zx r19.1 1)).bind fun v21 =>
  (bin .eql v21 (Vi Ki 1)).bind fun v23 =>
  (asB v23).bind fun c23 =>
  if c23 then
   some (Xr [v11] r19.2)
  else
  some (Xn [s0_1, v8] r19.2)).bind fun (r : Res) => (r.unblock 1).cont fun vs_1 W2 =>
  let s0_2 := nth vs_1 0
  let v8_1 := nth vs_1 1
  some (Xn [s0_2, v8_1] W2)
 else
 some (Xx 0 [] r9.2)
noncomputable def f24 (call : CallF) (s0 : Value) (W0 : World) : Option (Value × World) :=
 ((Eq_ Zp (Instr.range 9 s0) W0).bind fun r8 =>
 (iter (f24.l0 call) [s0, r8.1] r8.2).bind fun (r : Res) => (r.unblock 0).cont fun vs_2 W3 =>
 some (Xr [(Vi Ki (-1))] W3)).bind Res.done
def f25.ann : Ann := (.s .z (.s .z .z))
noncomputable def f25 (call : CallF) (s0 : Value) (c1 : Value) (W0 : World) : Option (Value × World) :=
 ((call 55 #[s0, c1] W0).bind fun r7 =>
 some (Xr [r7.1] r7.2)).bind Res.done
def f26.ann : Ann := (.s .z (.s .z (.s (.b [2, 8] (.l [0, 1, 2, 8] (.s (.s .z (.c .z .z)) (.b [0, 1, 2, 8] (.s .z (.b [0, 1, 2, 8] (.s (.s .z (.j [0, 1, 2, 8, 17, 42] .z .z)) (.c .z (.s .z (.c (.s .z .z) (.s .z (.c (.s .z (.s .z (.s .z .z))) (.s .z (.s (.s .z (.j [0, 1, 2, 8, 11] .z .z)) (.s .z .z))))))))))))))) (.s .z .z))))
noncomputable def f26.l0 (call : CallF) (vs : List Value) (W1 : World) : Option Res :=
 let s0_1 := nth vs 0
 let at1_1 := nth vs 1
 let to2_1 := nth vs 2
 let l8 := nth vs 3
 (bin .lss at1_1 to2_1).bind fun v14 =>
 (asB v14).bind fun c14 =>
 if c14 then
  ((Pq Zp (Zi 9 s0_1 at1_1)).bind fun v17 =>
  ((bin .eql v17 (Vi Ku 32)).bind fun v43 =>
  (asB v43).bind fun c42 =>
  (if c42 then
   some (Xn [s0_1, at1_1, to2_1, l8, v17, v43] W1)
   else
   (bin .eql v17 (Vi Ku 9)).bind fun v44 =>
   some (Xn [s0_1, at1_1, to2_1, l8, v17, v44] W1)).bind fun (r : Res) => r.cont fun vs_1 W2 =>
  let s0_2 := nth vs_1 0
  let at1_2 := nth vs_1 1
  let to2_2 := nth vs_1 2
  let l8_1 := nth vs_1 3
  let v17_1 := nth vs_1 4
  let v42 := nth vs_1 5
  (asB v42).bind fun c42_1 =>
  if c42_1 then
   (bin .add at1_2 (Vi Ki 1)).bind fun v46 =>
   some (Xn [s0_2, v46, to2_2, l8_1] W2)
  else
  (bin .eql v17_1 (Vi Ku 35)).bind fun v48 =>
  (asB v48).bind fun c47 =>
  if c47 then
   some (Xr [l8_1, at1_2] W2)
  else
  (bin .eql v17_1 (Vi Ku 34)).bind fun v52 =>
  (asB v52).bind fun c51 =>
  if c51 then
   (Pq Zp (Zc 9 s0_2 (some at1_2) (some to2_2) none)).bind fun v57 =>
   (call 56 #[v57] W2).bind fun r58 =>
   (Pq Zp (Zx r58.1 0)).bind fun v59 =>
   (Pq Zp (Zx r58.1 1)).bind fun v60 =>
   (Eq_ Zp (Za 114 true (.tuple #[])) r58.2).bind fun r9 =>
   (Eq_ Zp (Zs 114 r9.1 v59) r9.2).bind fun r =>
   (Pq Zp (Zf 114 r9.1 0)).bind fun v62 =>
   (Eq_ Zp (Zs 3 v62 at1_2) r.2).bind fun r_1 =>
   (Rq Zp (Zl 114 r9.1) r_1.2).bind fun v64 =>
   (Eq_ Zp (Instr.buildSlice 62 1 #[(0, v64)]) r_1.2).bind fun r65 =>
   (Eq_ Zp (Yb #[62, 62] 62 #[l8_1, r65.1]) r65.2).bind fun r66 =>
   (bin .add at1_2 v60).bind fun v69 =>
   some (Xn [s0_2, v69, to2_2, r66.1] r66.2)
  else
  (Pq Zp (Zc 9 s0_2 (some at1_2) (some to2_2) none)).bind fun v21 =>
  (call 57 #[v21, (Vs { data := #[32, 9] })] W2).bind fun r22 =>
  (bin .lss r22.1 (Vi Ki 0)).bind fun v24 =>
  (asB v24).bind fun c24 =>
  (if c24 then
   (bin .sub to2_2 at1_2).bind fun v27 =>
   some (Xn [s0_2, at1_2, to2_2, l8_1, v27] r22.2)
   else
   some (Xn [s0_2, at1_2, to2_2, l8_1, r22.1] r22.2)).bind fun (r : Res) => r.cont fun vs_2 W3 =>
  let s0_3 := nth vs_2 0
  let at1_3 := nth vs_2 1
  let to2_3 := nth vs_2 2
  let l8_2 := nth vs_2 3
  let n11 := nth vs_2 4
  (bin .add at1_3 n11).bind fun v34 =>
  (Pq Zp (Zc 9 s0_3 (some at1_3) (some v34) none)).bind fun v35 =>
  (Pq Zp (Zb 114 #[(0, at1_3), (1, v35)])).bind fun v36 =>
  (Eq_ Zp (Instr.buildSlice 62 1 #[(0, v36)]) W3).bind fun r37 =>
  (Eq_ Zp (Yb #[62, 62] 62 #[l8_2, r37.1]) r37.2).bind fun r38 =>
  (bin .add at1_3 n11).bind fun v41 =>
  some (Xn [s0_3, v41, to2_3, r38.1] r38.2)).bind fun (r : Res) => (r.unblock 2).cont fun vs_3 W4 =>
  let s0_4 := nth vs_3 0
  let at1_4 := nth vs_3 1
  let to2_4 := nth vs_3 2
  let l8_3 := nth vs_3 3
  some (Xn [s0_4, at1_4, to2_4, l8_3] W4)).bind fun (r : Res) => (r.unblock 1).cont fun vs_4 W5 =>
  let s0_5 := nth vs_4 0
  let at1_5 := nth vs_4 1
  let to2_5 := nth vs_4 2
  let l8_4 := nth vs_4 3
  some (Xn [s0_5, at1_5, to2_5, l8_4] W5)
 else
 some (Xx 0 [to2_1, l8] W1)
noncomputable def f26 (call : CallF) (s0 : Value) (at1 : Value) (to2 : Value) (W0 : World) : Option (Value × World) :=
 ((iter (f26.l0 call) [s0, at1, to2, (Vl none 0 0)] W0).bind fun (r : Res) => (r.unblock 0).cont fun vs_5 W6 =>
 let to2_6 := nth vs_5 0
 let l8_5 := nth vs_5 1
 some (Xr [l8_5, to2_6] W6)).bind Res.done
def f27.ann : Ann := (.s .z (.s (.s .z (.s .z (.c (.s .z .z) .z))) (.s .z (.s (.s .z (.c (.s .z .z) .z)) (.s .z (.s (.s .z (.c (.s .z .z) .z)) (.s .z .z)))))))
noncomputable def f27 (call : CallF) (r0 : Value) (W0 : World) : Option (Value × World) :=
 ((Eq_ Zp (Za 30 true (.tuple #[])) W0).bind fun r2 =>
 (call 58 #[r0, (.func (.func 59) #[] #[])] r2.2).bind fun r11 =>
 (Pq Zp (Zx r11.1 0)).bind fun v12 =>
 (Pq Zp (Zx r11.1 1)).bind fun v13 =>
 (Eq_ Zp (Za 114 true (.tuple #[])) r11.2).bind fun r4 =>
 (Eq_ Zp (Zs 114 r4.1 v12) r4.2).bind fun r =>
 (Rq Zp (do eqGuard .neq 32 (Ot 14) (Oc Vn) v13 Vn; binOp .neq 32 v13 Vn) r.2).bind fun v15 =>
 (asB v15).bind fun c15 =>
 if c15 then
  (Pq Zp (Zb 30 #[])).bind fun v16 =>
  (Eq_ Zp (Zs 30 r2.1 v16) r.2).bind fun r_1 =>
  some (Xr [r2.1, v13] r_1.2)
 else
 (call 58 #[r0, (.func (.func 60) #[] #[])] r.2).bind fun r20 =>
 (Pq Zp (Zx r20.1 0)).bind fun v21 =>
 (Pq Zp (Zx r20.1 1)).bind fun v22 =>
 (Eq_ Zp (Za 114 true (.tuple #[])) r20.2).bind fun r6 =>
 (Eq_ Zp (Zs 114 r6.1 v21) r6.2).bind fun r_2 =>
 (Rq Zp (do eqGuard .neq 32 (Ot 23) (Oc Vn) v22 Vn; binOp .neq 32 v22 Vn) r_2.2).bind fun v24 =>
 (asB v24).bind fun c24 =>
 if c24 then
  (Pq Zp (Zb 30 #[])).bind fun v25 =>
  (Eq_ Zp (Zs 30 r2.1 v25) r_2.2).bind fun r_3 =>
  some (Xr [r2.1, v22] r_3.2)
 else
 (call 62 #[r0, (Vb true)] r_2.2).bind fun r29 =>
 (Pq Zp (Zx r29.1 0)).bind fun v30 =>
 (Pq Zp (Zx r29.1 1)).bind fun v31 =>
 (Eq_ Zp (Za 114 true (.tuple #[])) r29.2).bind fun r8 =>
 (Eq_ Zp (Zs 114 r8.1 v30) r8.2).bind fun r_4 =>
 (Rq Zp (do eqGuard .neq 32 (Ot 32) (Oc Vn) v31 Vn; binOp .neq 32 v31 Vn) r_4.2).bind fun v33 =>
 (asB v33).bind fun c33 =>
 if c33 then
  (Pq Zp (Zb 30 #[])).bind fun v34 =>
  (Eq_ Zp (Zs 30 r2.1 v34) r_4.2).bind fun r_5 =>
  some (Xr [r2.1, v31] r_5.2)
 else
 ((Pq Zp (Zf 114 r8.1 1)).bind fun v36 =>
 some (v36, r_4.2.drew)).bind fun r36 =>
 ((Rq Zp (Zl 9 r36.1) r36.2).bind fun v37 =>
 some (v37, r36.2)).bind fun r37 =>
 ((Pq Zp (Zf 114 r6.1 1)).bind fun v38 =>
 some (v38, r37.2)).bind fun r38 =>
 ((Rq Zp (Zl 9 r38.1) r38.2).bind fun v39 =>
 some (v39, r38.2)).bind fun r39 =>
 ((call 61 #[r39.1] r39.2).bind fun r40_1 =>
 some (r40_1.1, r40_1.2)).bind fun r40 =>
 ((Pq Zp (Zb 30 #[(0, r37.1), (1, r40.1)])).bind fun v41 =>
 some (v41, r40.2)).bind fun r41 =>
 ((call 63 #[r0] r41.2).bind fun r43_1 =>
 some (r43_1.1, r43_1.2)).bind fun r43 =>
 ((Eq_ Zp (Zs 30 r2.1 r41.1) r43.2).bind fun r_7 =>
 some (undef, r_7.2)).bind fun r_6 =>
 chkThen ((((Rq Zp (Zl 9 r36.1) r39.2).bind fun v37_3 => some v37_3) = some r37.1 ∧ ((Rq Zp (Zl 9 r36.1) r40.2).bind fun v37_4 => some v37_4) = some r37.1) ∧ (((Rq Zp (Zl 9 r36.1) r41.2).bind fun v37_1 => some v37_1) = some r37.1 ∧ ((Rq Zp (Zl 9 r36.1) r43.2).bind fun v37_2 => some v37_2) = some r37.1) ∧ True)
 (some (Xr [r2.1, r43.1] r_6.2))).bind (Res.doneR Zp [.cell 2 30, .tmp 3])
def f28.ann : Ann := (.s .z (.s (.s .z (.c (.s .z .z) .z)) (.s .z (.s .z (.s (.s .z (.c (.s .z .z) .z)) (.s (.s .z (.j [0, 1, 5, 6] (.s .z (.s (.s .z (.c (.s .z .z) .z)) .z)) .z)) (.s .z (.s (.s .z (.c (.s .z .z) .z)) (.s .z (.s (.s .z (.s .z (.c (.s .z .z) .z))) (.s .z (.s (.s .z (.s .z (.c (.s .z .z) .z))) (.s (.s .z (.j [0, 1, 5, 6, 11] (.s .z (.s (.s .z (.c (.s .z .z) .z)) .z)) .z)) (.s (.s .z (.s .z (.c (.s .z .z) .z))) (.s .z (.s (.s .z (.b [] (.s .z (.c (.s .z .z) (.s .z (.c (.s .z .z) .z)))))) (.s .z .z)))))))))))))))))
noncomputable def f28 (call : CallF) (t0 : Value) (o1 : Value) (W0 : World) : Option (Value × World) :=
 ((nilV Zp o1).bind fun v17 =>
 (Pq Zp (Zf 30 v17 2)).bind fun v18 =>
 (Rq Zp (Zl 28 v18) W0).bind fun v19 =>
 (Pq Zp (Yl #[28] 3 #[v19])).bind fun v20 =>
 (bin .eql v20 (Vi Ki 200)).bind fun v21 =>
 (asB v21).bind fun c21 =>
 if c21 then
  (nilV Zp t0).bind fun v23 =>
  (Pq Zp (Zf 64 v23 0)).bind fun v24 =>
  (Rq Zp (Zl 62 v24) W0).bind fun v25 =>
  (Pq Zp (Zj 62 v25 (Vi Ki 0))).bind fun v26 =>
  (Pq Zp (Zf 114 v26 0)).bind fun v27 =>
  (Rq Zp (Zl 3 v27) W0).bind fun v28 =>
  (call 23 #[v28, (Vi Ki 196)] W0).bind fun r29 =>
  some (Xr [r29.1] r29.2)
 else
 (Eq_ Zp (Za 51 true (.tuple #[])) W0).bind fun r5 =>
 (call 58 #[t0, (.func (.func 64) #[] #[])] r5.2).bind fun r32 =>
 (Pq Zp (Zx r32.1 0)).bind fun v33 =>
 (Pq Zp (Zx r32.1 1)).bind fun v34 =>
 (Eq_ Zp (Za 114 true (.tuple #[])) r32.2).bind fun r6 =>
 (Eq_ Zp (Zs 114 r6.1 v33) r6.2).bind fun r =>
 (Rq Zp (do eqGuard .neq 32 (Ot 35) (Oc Vn) v34 Vn; binOp .neq 32 v34 Vn) r.2).bind fun v36 =>
 (asB v36).bind fun c36 =>
 if c36 then
  some (Xr [v34] r.2)
 else
 (Pq Zp (Zf 114 r6.1 1)).bind fun v38 =>
 (Rq Zp (Zl 9 v38) r.2).bind fun v39 =>
 (Pq Zp (do eqGuard .eql 9 (Ot 39) (Oc (Vs { data := #[102, 97, 100, 101] })) v39 (Vs { data := #[102, 97, 100, 101] }); binOp .eql 9 v39 (Vs { data := #[102, 97, 100, 101] }))).bind fun v40 =>
 (asB v40).bind fun c40 =>
 (if c40 then
  (call 58 #[t0, (.func (.func 65) #[] #[])] r.2).bind fun r43 =>
  (Pq Zp (Zx r43.1 0)).bind fun v44 =>
  (Pq Zp (Zx r43.1 1)).bind fun v45 =>
  (Eq_ Zp (Za 114 true (.tuple #[])) r43.2).bind fun r8 =>
  (Eq_ Zp (Zs 114 r8.1 v44) r8.2).bind fun r_1 =>
  (Rq Zp (do eqGuard .neq 32 (Ot 46) (Oc Vn) v45 Vn; binOp .neq 32 v45 Vn) r_1.2).bind fun v47 =>
  (asB v47).bind fun c47 =>
  if c47 then
   some (Xr [v45] r_1.2)
  else
  (Pq Zp (Zf 114 r8.1 1)).bind fun v50 =>
  (Rq Zp (Zl 9 v50) r_1.2).bind fun v51 =>
  (call 66 #[v51] r_1.2).bind fun r52 =>
  (Pq Zp (Zx r52.1 0)).bind fun v53 =>
  (Pq Zp (Zx r52.1 1)).bind fun v54 =>
  (Pq Zp (Zf 51 r5.1 3)).bind fun v55 =>
  (Eq_ Zp (Zs 3 v55 v53) r52.2).bind fun r_2 =>
  some (Xn [t0, o1, r5.1, r6.1] r_2.2)
  else
  some (Xn [t0, o1, r5.1, r6.1] r.2)).bind fun (r : Res) => r.cont fun vs W1 =>
 let t0_1 := nth vs 0
 let o1_1 := nth vs 1
 let a5 := nth vs 2
 let y6 := nth vs 3
 (call 58 #[t0_1, (.func (.func 67) #[] #[])] W1).bind fun r58 =>
 (Pq Zp (Zx r58.1 0)).bind fun v59 =>
 (Pq Zp (Zx r58.1 1)).bind fun v60 =>
 (Eq_ Zp (Za 114 true (.tuple #[])) r58.2).bind fun r10 =>
 (Eq_ Zp (Zs 114 r10.1 v59) r10.2).bind fun r_3 =>
 (Rq Zp (do eqGuard .neq 32 (Ot 61) (Oc Vn) v60 Vn; binOp .neq 32 v60 Vn) r_3.2).bind fun v62 =>
 (asB v62).bind fun c62 =>
 if c62 then
  some (Xr [v60] r_3.2)
 else
 (Pq Zp (Zf 114 r10.1 1)).bind fun v64 =>
 (Rq Zp (Zl 9 v64) r_3.2).bind fun v65 =>
 (Pq Zp (Zf 51 a5 0)).bind fun v66 =>
 (Eq_ Zp (Zs 9 v66 v65) r_3.2).bind fun r_4 =>
 (nilV Zp o1_1).bind fun v70 =>
 (Pq Zp (Zf 30 v70 1)).bind fun v71 =>
 (Rq Zp (Zl 27 v71) r_4.2).bind fun v72 =>
 (call 68 #[t0_1, v72] r_4.2).bind fun r73 =>
 (Pq Zp (Zx r73.1 0)).bind fun v74 =>
 (Pq Zp (Zx r73.1 1)).bind fun v75 =>
 (Pq Zp (Zx r73.1 2)).bind fun v76 =>
 (Pq Zp (Zf 51 a5 1)).bind fun v77 =>
 (Eq_ Zp (Zs 3 v77 v74) r73.2).bind fun r_5 =>
 (Rq Zp (do eqGuard .neq 32 (Ot 78) (Oc Vn) v76 Vn; binOp .neq 32 v76 Vn) r_5.2).bind fun v79 =>
 (asB v79).bind fun c79 =>
 if c79 then
  some (Xr [v76] r_5.2)
 else
 (Pq Zp (Zb 114 #[])).bind fun v81 =>
 (Eq_ Zp (Za 114 true (.tuple #[])) r_5.2).bind fun r11 =>
 (Eq_ Zp (Zs 114 r11.1 v81) r11.2).bind fun r_6 =>
 (nilV Zp o1_1).bind fun v85 =>
 (Pq Zp (Zf 30 v85 1)).bind fun v86 =>
 (Rq Zp (Zl 27 v86) r_6.2).bind fun v87 =>
 (call 68 #[t0_1, v87] r_6.2).bind fun r88 =>
 (Pq Zp (Zx r88.1 0)).bind fun v89 =>
 (Pq Zp (Zx r88.1 1)).bind fun v90 =>
 (Pq Zp (Zx r88.1 2)).bind fun v91 =>
 (Pq Zp (Zf 51 a5 2)).bind fun v92 =>
 (Eq_ Zp (Zs 3 v92 v89) r88.2).bind fun r_7 =>
 (Eq_ Zp (Zs 114 r11.1 v90) r_7.2).bind fun r_8 =>
 (Rq Zp (do eqGuard .neq 32 (Ot 93) (Oc Vn) v91 Vn; binOp .neq 32 v91 Vn) r_8.2).bind fun v94 =>
 (asB v94).bind fun c94 =>
 if c94 then
  some (Xr [v91] r_8.2)
 else
 (nilV Zp t0_1).bind fun v97 =>
 (Pq Zp (Zf 64 v97 0)).bind fun v98 =>
 (Rq Zp (Zl 62 v98) r_8.2).bind fun v99 =>
 (Pq Zp (Yl #[62] 3 #[v99])).bind fun v100 =>
 (bin .gtr v100 (Vi Ki 0)).bind fun v101 =>
 (asB v101).bind fun c101 =>
 (if c101 then
  (call 62 #[t0_1, (Vb true)] r_8.2).bind fun r104 =>
  (Pq Zp (Zx r104.1 0)).bind fun v105 =>
  (Pq Zp (Zx r104.1 1)).bind fun v106 =>
  (Eq_ Zp (Za 114 true (.tuple #[])) r104.2).bind fun r12 =>
  (Eq_ Zp (Zs 114 r12.1 v105) r12.2).bind fun r_9 =>
  (Rq Zp (do eqGuard .neq 32 (Ot 107) (Oc Vn) v106 Vn; binOp .neq 32 v106 Vn) r_9.2).bind fun v108 =>
  (asB v108).bind fun c108 =>
  if c108 then
   some (Xr [v106] r_9.2)
  else
  (Pq Zp (Zf 114 r12.1 1)).bind fun v110 =>
  (Rq Zp (Zl 9 v110) r_9.2).bind fun v111 =>
  (Pq Zp (Zf 51 a5 4)).bind fun v112 =>
  (Eq_ Zp (Zs 9 v112 v111) r_9.2).bind fun r_10 =>
  some (Xn [t0_1, o1_1, a5, y6, r11.1] r_10.2)
  else
  some (Xn [t0_1, o1_1, a5, y6, r11.1] r_8.2)).bind fun (r : Res) => r.cont fun vs_1 W2 =>
 let t0_2 := nth vs_1 0
 let o1_2 := nth vs_1 1
 let a5_1 := nth vs_1 2
 let y6_1 := nth vs_1 3
 let v11 := nth vs_1 4
 (call 63 #[t0_2] W2).bind fun r114 =>
 (Rq Zp (do eqGuard .neq 32 (Ot 115) (Oc Vn) r114.1 Vn; binOp .neq 32 r114.1 Vn) r114.2).bind fun v116 =>
 (asB v116).bind fun c116 =>
 if c116 then
  some (Xr [r114.1] r114.2)
 else
 ((nilV Zp o1_2).bind fun v120 =>
 some (v120, r114.2.drew)).bind fun r120 =>
 ((Pq Zp (Zf 30 r120.1 2)).bind fun v121 =>
 some (v121, r120.2)).bind fun r121 =>
 ((Rq Zp (Zl 28 r121.1) r121.2).bind fun v122 =>
 some (v122, r121.2)).bind fun r122 =>
 ((Rq Zp (Zl 51 a5_1) r122.2).bind fun v123 =>
 some (v123, r122.2)).bind fun r123 =>
 ((Eq_ Zp (Instr.buildSlice 28 1 #[(0, r123.1)]) r123.2).bind fun r124_1 =>
 some (r124_1.1, r124_1.2)).bind fun r124 =>
 ((Eq_ Zp (Yb #[28, 28] 28 #[r122.1, r124.1]) r124.2).bind fun r125_1 =>
 some (r125_1.1, r125_1.2)).bind fun r125 =>
 ((nilV Zp o1_2).bind fun v126 =>
 some (v126, r125.2)).bind fun r126 =>
 ((Pq Zp (Zf 30 r126.1 2)).bind fun v127 =>
 some (v127, r126.2)).bind fun r127 =>
 ((Eq_ Zp (Zs 28 r127.1 r125.1) r127.2).bind fun r_12 =>
 some (undef, r_12.2)).bind fun r_11 =>
 chkThen ((((Rq Zp (Zl 28 r121.1) r123.2).bind fun v122_1 => some v122_1) = some r122.1 ∧ ((Rq Zp (Zl 28 r121.1) r124.2).bind fun v122_2 => some v122_2) = some r122.1) ∧ True)
 ((nilV Zp o1_2).bind fun v129 =>
 (Rq Zp (Zl 30 v129) r_11.2).bind fun v130 =>
 (call 15 #[v130] r_11.2).bind fun r131 =>
 ((Pq Zp (Zm 35 (Vi Ki 194))).bind fun v134 =>
 (call 22 #[r131.1, v134] r131.2).bind fun r135 =>
 (asB r135.1).bind fun c132 =>
 if c132 then
  (Pq Zp (Zf 114 v11 0)).bind fun v136 =>
  (Rq Zp (Zl 3 v136) r135.2).bind fun v137 =>
  (call 23 #[v137, (Vi Ki 194)] r135.2).bind fun r138 =>
  some (Xr [r138.1] r138.2)
 else
 (Rq Zp (do eqGuard .neq 32 (Ot 140) (Oc Vn) r131.1 Vn; binOp .neq 32 r131.1 Vn) r135.2).bind fun v141 =>
 (asB v141).bind fun c139 =>
 if c139 then
  (Pq Zp (Zf 114 y6_1 0)).bind fun v142 =>
  (Rq Zp (Zl 3 v142) r135.2).bind fun v143 =>
  (call 23 #[v143, (Vi Ki 195)] r135.2).bind fun r144 =>
  some (Xr [r144.1] r144.2)
 else
 some (Xn [] r135.2)).bind fun (r : Res) => (r.unblock 0).cont fun vs_2 W3 =>
 some (Xr [Vn] W3))).bind Res.done
def f29.ann : Ann := (.s .z (.s .z (.s (.b [] (.l [0, 3] (.s (.s .z (.c .z .z)) (.b [0, 3] (.s .z (.s (.s .z (.c (.s .z .z) .z)) .z)))))) (.s .z .z))))
noncomputable def f29.l0 (call : CallF) (vs : List Value) (W1 : World) : Option Res :=
 let s0_1 := nth vs 0
 let i3 := nth vs 1
 (Pq Zp (Yl #[9] 3 #[s0_1])).bind fun v7 =>
 (bin .lss i3 v7).bind fun v8 =>
 (asB v8).bind fun c8 =>
 if c8 then
  ((call 69 #[s0_1, i3] W1).bind fun r11 =>
  (bin .eql r11.1 (Vi Ki 0)).bind fun v13 =>
  (asB v13).bind fun c13 =>
  if c13 then
   some (Xr [i3] r11.2)
  else
  (bin .add i3 r11.1).bind fun v17 =>
  some (Xn [s0_1, v17] r11.2)).bind fun (r : Res) => (r.unblock 1).cont fun vs_1 W2 =>
  let s0_2 := nth vs_1 0
  let i3_1 := nth vs_1 1
  some (Xn [s0_2, i3_1] W2)
 else
 some (Xx 0 [] W1)
noncomputable def f29 (call : CallF) (s0 : Value) (W0 : World) : Option (Value × World) :=
 ((iter (f29.l0 call) [s0, (Vi Ki 0)] W0).bind fun (r : Res) => (r.unblock 0).cont fun vs_2 W3 =>
 some (Xr [(Vi Ki (-1))] W3)).bind Res.done
def f30.ann : Ann := (.s .z (.s .z (.s .z (.s .z (.s (.b [0, 7, 8, 9] (.l [0, 7, 8, 9] (.s (.s .z (.c .z .z)) (.b [0, 7, 8, 9] (.s (.s .z (.c (.s .z .z) .z)) (.s (.s .z (.c (.s .z .z) .z)) (.s (.s .z (.c (.s .z (.s .z (.s .z (.s (.s .z (.c .z .z)) .z)))) .z)) (.s .z (.s (.b [0, 7, 8, 9, 12] (.l [0, 7, 8, 9, 12] (.s (.s .z (.c .z .z)) (.b [0, 7, 8, 9, 12] .z)))) .z))))))))) (.s (.b [7, 8, 9] (.l [0, 7, 8, 9] (.s (.s .z (.c .z .z)) (.b [0, 7, 8, 9] .z)))) (.s (.s .z (.j [7, 8, 9] .z .z)) (.s .z .z))))))))
noncomputable def f30.l0 (call : CallF) (vs_1 : List Value) (W2 : World) : Option Res :=
 let s0_2 := nth vs_1 0
 let l7_1 := nth vs_1 1
 let i8_1 := nth vs_1 2
 let end9_1 := nth vs_1 3
 let from12 := nth vs_1 4
 (Pq Zp (Yl #[9] 3 #[s0_2])).bind fun v62 =>
 (bin .lss i8_1 v62).bind fun v63 =>
 (asB v63).bind fun b64 =>
 (if b64 = true then (Pq Zp (Zi 9 s0_2 i8_1)).bind fun v67 =>
  (bin .neq v67 (Vi Ku 10)).bind fun v68 =>
  some (v68, W2)
  else some ((Vb false), W2)).bind fun r69 =>
 (asB r69.1).bind fun b70 =>
 (if b70 = true then (Pq Zp (Zi 9 s0_2 i8_1)).bind fun v73 =>
  (bin .neq v73 (Vi Ku 32)).bind fun v74 =>
  some (v74, r69.2)
  else some ((Vb false), r69.2)).bind fun r75 =>
 (asB r75.1).bind fun b76 =>
 (if b76 = true then (Pq Zp (Zi 9 s0_2 i8_1)).bind fun v79 =>
  (bin .neq v79 (Vi Ku 9)).bind fun v80 =>
  some (v80, r75.2)
  else some ((Vb false), r75.2)).bind fun r81 =>
 (asB r81.1).bind fun c81 =>
 if c81 then
  ((bin .add i8_1 (Vi Ki 1)).bind fun v83 =>
  some (Xn [s0_2, l7_1, v83, end9_1, from12] r81.2)).bind fun (r : Res) => (r.unblock 3).cont fun vs_2 W3 =>
  let s0_3 := nth vs_2 0
  let l7_2 := nth vs_2 1
  let i8_2 := nth vs_2 2
  let end9_2 := nth vs_2 3
  let from12_1 := nth vs_2 4
  some (Xn [s0_3, l7_2, i8_2, end9_2, from12_1] W3)
 else
 some (Xx 2 [s0_2, l7_1, i8_1, end9_1, from12] r81.2)
noncomputable def f30.l1 (call : CallF) (vs : List Value) (W1 : World) : Option Res :=
 let s0_1 := nth vs 0
 let l7 := nth vs 1
 let i8 := nth vs 2
 let end9 := nth vs 3
 (Pq Zp (Yl #[9] 3 #[s0_1])).bind fun v16 =>
 (bin .lss i8 v16).bind fun v17 =>
 (asB v17).bind fun b18 =>
 (if b18 = true then (Pq Zp (Zi 9 s0_1 i8)).bind fun v21 =>
  (bin .neq v21 (Vi Ku 10)).bind fun v22 =>
  some (v22, W1)
  else some ((Vb false), W1)).bind fun r23 =>
 (asB r23.1).bind fun c23 =>
 if c23 then
  ((Pq Zp (Zi 9 s0_1 i8)).bind fun v26 =>
  (bin .eql v26 (Vi Ku 32)).bind fun v27 =>
  (asB v27).bind fun b28 =>
  (if b28 = false then (Pq Zp (Zi 9 s0_1 i8)).bind fun v31 =>
   (bin .eql v31 (Vi Ku 9)).bind fun v32 =>
   some (v32, r23.2)
   else some ((Vb true), r23.2)).bind fun r33 =>
  (asB r33.1).bind fun c33 =>
  if c33 then
   (bin .add i8 (Vi Ki 1)).bind fun v35 =>
   some (Xx 1 [s0_1, l7, v35, end9] r33.2)
  else
  (Pq Zp (Zi 9 s0_1 i8)).bind fun v38 =>
  (bin .eql v38 (Vi Ku 35)).bind fun v39 =>
  (asB v39).bind fun c39 =>
  if c39 then
   some (Xx 0 [s0_1, l7, i8, i8] r33.2)
  else
  (Pq Zp (Zi 9 s0_1 i8)).bind fun v43 =>
  (bin .eql v43 (Vi Ku 34)).bind fun v44 =>
  (asB v44).bind fun c44 =>
  if c44 then
   (call 70 #[s0_1, i8] r33.2).bind fun r48 =>
   (Pq Zp (Zx r48.1 0)).bind fun v49 =>
   (Pq Zp (Zx r48.1 1)).bind fun v50 =>
   (Eq_ Zp (Za 74 true (.tuple #[])) r48.2).bind fun r10 =>
   (Eq_ Zp (Zs 74 r10.1 v49) r10.2).bind fun r =>
   (Rq Zp (Zl 74 r10.1) r.2).bind fun v52 =>
   (Eq_ Zp (Instr.buildSlice 70 1 #[(0, v52)]) r.2).bind fun r53 =>
   (Eq_ Zp (Yb #[70, 70] 70 #[l7, r53.1]) r53.2).bind fun r54 =>
   (Pq Zp (Zf 74 r10.1 3)).bind fun v56 =>
   (Rq Zp (Zl 4 v56) r54.2).bind fun v57 =>
   (Pq Zp (Op.unary .not v57)).bind fun v58 =>
   (asB v58).bind fun c58 =>
   if c58 then
    some (Xx 0 [s0_1, r54.1, v50, end9] r54.2)
   else
   some (Xx 1 [s0_1, r54.1, v50, end9] r54.2)
  else
  (iter (f30.l0 call) [s0_1, l7, i8, end9, i8] r33.2).bind fun (r : Res) => (r.unblock 2).cont fun vs_3 W4 =>
  let s0_4 := nth vs_3 0
  let l7_3 := nth vs_3 1
  let i8_3 := nth vs_3 2
  let end9_3 := nth vs_3 3
  let from12_2 := nth vs_3 4
  (Pq Zp (Zc 9 s0_4 (some from12_2) (some i8_3) none)).bind fun v89 =>
  (Pq Zp (Zb 74 #[(0, from12_2), (2, v89), (3, (Vb true))])).bind fun v90 =>
  (Eq_ Zp (Instr.buildSlice 70 1 #[(0, v90)]) W4).bind fun r91 =>
  (Eq_ Zp (Yb #[70, 70] 70 #[l7_3, r91.1]) r91.2).bind fun r92 =>
  some (Xn [s0_4, r92.1, i8_3, end9_3] r92.2)).bind fun (r : Res) => (r.unblock 1).cont fun vs_4 W5 =>
  let s0_5 := nth vs_4 0
  let l7_4 := nth vs_4 1
  let i8_4 := nth vs_4 2
  let end9_4 := nth vs_4 3
  some (Xn [s0_5, l7_4, i8_4, end9_4] W5)
 else
 some (Xx 0 [s0_1, l7, i8, end9] r23.2)
noncomputable def f30.l2 (call : CallF) (vs_6 : List Value) (W7 : World) : Option Res :=
 let s0_7 := nth vs_6 0
 let l7_6 := nth vs_6 1
 let i8_6 := nth vs_6 2
 let end9_6 := nth vs_6 3
 (Pq Zp (Yl #[9] 3 #[s0_7])).bind fun v95 =>
 (bin .lss i8_6 v95).bind fun v96 =>
 (asB v96).bind fun b97 =>
 (if b97 = true then (Pq Zp (Zi 9 s0_7 i8_6)).bind fun v100 =>
  (bin .neq v100 (Vi Ku 10)).bind fun v101 =>
  some (v101, W7)
  else some ((Vb false), W7)).bind fun r102 =>
 (asB r102.1).bind fun c102 =>
 if c102 then
  ((bin .add i8_6 (Vi Ki 1)).bind fun v104 =>
  some (Xn [s0_7, l7_6, v104, end9_6] r102.2)).bind fun (r : Res) => (r.unblock 5).cont fun vs_7 W8 =>
  let s0_8 := nth vs_7 0
  let l7_7 := nth vs_7 1
  let i8_7 := nth vs_7 2
  let end9_7 := nth vs_7 3
  some (Xn [s0_8, l7_7, i8_7, end9_7] W8)
 else
 some (Xx 4 [l7_6, i8_6, end9_6] r102.2)
noncomputable def f30 (call : CallF) (s0 : Value) (at1 : Value) (W0 : World) : Option (Value × World) :=
 ((iter (f30.l1 call) [s0, (Vl none 0 0), at1, (Vi Ki (-1))] W0).bind fun (r : Res) => (r.unblock 0).cont fun vs_5 W6 =>
 let s0_6 := nth vs_5 0
 let l7_5 := nth vs_5 1
 let i8_5 := nth vs_5 2
 let end9_5 := nth vs_5 3
 (iter (f30.l2 call) [s0_6, l7_5, i8_5, end9_5] W6).bind fun (r : Res) => (r.unblock 4).cont fun vs_8 W9 =>
 let l7_8 := nth vs_8 0
 let i8_8 := nth vs_8 1
 let end9_8 := nth vs_8 2
 (bin .lss end9_8 (Vi Ki 0)).bind fun v106 =>
 (asB v106).bind fun c106 =>
 (if c106 then
  some (Xn [l7_8, i8_8, i8_8] W9)
  else
  some (Xn [l7_8, i8_8, end9_8] W9)).bind fun (r : Res) => r.cont fun vs_9 W10 =>
 let l7_9 := nth vs_9 0
 let i8_9 := nth vs_9 1
 let end9_9 := nth vs_9 2
 (bin .add i8_9 (Vi Ki 1)).bind fun v111 =>
 some (Xr [l7_9, end9_9, v111] W10)).bind Res.done
def f31.ann : Ann := (.s .z (.s .z (.s (.s .z (.c (.s .z .z) .z)) (.s (.s .z (.c (.s .z .z) .z)) (.s .z (.s (.s .z (.c (.s .z .z) .z)) (.s .z (.s (.s .z (.b [0, 1, 4, 5, 9] (.l [0, 1, 4, 5, 6, 9, 10] (.s (.s .z (.c .z .z)) (.s (.b [0, 1, 4, 5, 6, 9, 10] (.s .z (.s .z (.c .z .z)))) .z))))) (.s (.s .z (.c (.s .z .z) .z)) (.s .z (.s (.s .z (.c (.s .z .z) .z)) (.s (.s .z (.c (.s .z .z) .z)) (.s .z .z)))))))))))))
noncomputable def f31.l0 (call : CallF) (vs : List Value) (W1 : World) : Option Res :=
 let l0_1 := nth vs 0
 let end1_1 := nth vs 1
 let v4 := nth vs 2
 let v5 := nth vs 3
 let w6 := nth vs 4
 let rate9 := nth vs 5
 let r10 := nth vs 6
 (bin .leq r10 (Vi Ki 7)).bind fun v46 =>
 (asB v46).bind fun c46 =>
 if c46 then
  ((call 42 #[r10] W1).bind fun r50 =>
  (Pq Zp (do eqGuard .eql 9 (Ot 51) (Ot 52) w6 r50.1; binOp .eql 9 w6 r50.1)).bind fun v53 =>
  (asB v53).bind fun c53 =>
  if c53 then
   some (Xn [l0_1, end1_1, v4, v5, w6, r10, r10] r50.2)
  else
  some (Xn [l0_1, end1_1, v4, v5, w6, rate9, r10] r50.2)).bind fun (r : Res) => (r.unblock 1).cont fun vs_1 W2 =>
  let l0_2 := nth vs_1 0
  let end1_2 := nth vs_1 1
  let v4_1 := nth vs_1 2
  let v5_1 := nth vs_1 3
  let w6_1 := nth vs_1 4
  let rate9_1 := nth vs_1 5
  let r10_1 := nth vs_1 6
  (bin .add r10_1 (Vi Ki 1)).bind fun v48 =>
  some (Xn [l0_2, end1_2, v4_1, v5_1, w6_1, rate9_1, v48] W2)
 else
 some (Xx 0 [l0_1, end1_1, v4, v5, rate9] W1)
noncomputable def f31 (call : CallF) (l0 : Value) (end1 : Value) (W0 : World) : Option (Value × World) :=
 ((Eq_ Zp (Za 30 true (.tuple #[])) W0).bind fun r4 =>
 (Eq_ Zp (Za 76 true (.tuple #[])) r4.2).bind fun r5 =>
 (call 71 #[l0, end1, (Vi Ki 0)] r5.2).bind fun r18 =>
 (Pq Zp (Zx r18.1 0)).bind fun v19 =>
 (Pq Zp (Zx r18.1 1)).bind fun v20 =>
 (Pq Zp (Zx r18.1 2)).bind fun v21 =>
 (Eq_ Zp (Za 76 true (.tuple #[])) r18.2).bind fun r7 =>
 (Eq_ Zp (Zs 76 r7.1 v20) r7.2).bind fun r =>
 (Pq Zp (Op.unary .not v21)).bind fun v23 =>
 (asB v23).bind fun c23 =>
 if c23 then
  ((Pq Zp (Zb 30 #[])).bind fun v24 =>
  some (v24, r.2.drew)).bind fun r24 =>
  ((Rq Zp (Zl 76 r7.1) r24.2).bind fun v25 =>
  some (v25, r24.2)).bind fun r25 =>
  ((Eq_ Zp (Zs 30 r4.1 r24.1) r25.2).bind fun r_2 =>
  some (undef, r_2.2)).bind fun r_1 =>
  ((Eq_ Zp (Zs 76 r5.1 r25.1) r_1.2).bind fun r_4 =>
  some (undef, r_4.2)).bind fun r_3 =>
  chkThen ((((Rq Zp (Zl 76 r7.1) r25.2).bind fun v25_1 => some v25_1) = some r25.1 ∧ ((Rq Zp (Zl 76 r7.1) r_1.2).bind fun v25_2 => some v25_2) = some r25.1) ∧ True)
  (some (Xr [r4.1, r5.1] r_3.2))
 else
 (Pq Zp (do eqGuard .neq 9 (Ot 26) (Oc (Vs { data := #[108, 105, 115, 116] })) v19 (Vs { data := #[108, 105, 115, 116] }); binOp .neq 9 v19 (Vs { data := #[108, 105, 115, 116] }))).bind fun v27 =>
 (asB v27).bind fun c27 =>
 if c27 then
  ((Pq Zp (Zb 30 #[])).bind fun v28 =>
  some (v28, r.2.drew)).bind fun r28 =>
  ((Pq Zp (Zj 70 l0 (Vi Ki 0))).bind fun v30 =>
  some (v30, r28.2)).bind fun r30 =>
  ((Pq Zp (Zf 74 r30.1 0)).bind fun v31 =>
  some (v31, r30.2)).bind fun r31 =>
  ((Rq Zp (Zl 3 r31.1) r31.2).bind fun v32 =>
  some (v32, r31.2)).bind fun r32 =>
  ((Pq Zp (Zb 76 #[(0, r32.1), (1, (Vi Ki 193))])).bind fun v33 =>
  some (v33, r32.2)).bind fun r33 =>
  ((Eq_ Zp (Zs 30 r4.1 r28.1) r33.2).bind fun r_6 =>
  some (undef, r_6.2)).bind fun r_5 =>
  ((Eq_ Zp (Zs 76 r5.1 r33.1) r_5.2).bind fun r_8 =>
  some (undef, r_8.2)).bind fun r_7 =>
  chkThen ((((Rq Zp (Zl 3 r31.1) r33.2).bind fun v32_1 => some v32_1) = some r32.1 ∧ ((Rq Zp (Zl 3 r31.1) r_5.2).bind fun v32_2 => some v32_2) = some r32.1) ∧ True)
  (some (Xr [r4.1, r5.1] r_7.2))
 else
 (call 71 #[l0, end1, (Vi Ki 1)] r.2).bind fun r37 =>
 (Pq Zp (Zx r37.1 0)).bind fun v38 =>
 (Pq Zp (Zx r37.1 1)).bind fun v39 =>
 (Pq Zp (Zx r37.1 2)).bind fun v40 =>
 (Eq_ Zp (Zs 76 r7.1 v39) r37.2).bind fun r_9 =>
 (Pq Zp (Op.unary .not v40)).bind fun v42 =>
 (asB v42).bind fun c42 =>
 if c42 then
  ((Pq Zp (Zb 30 #[])).bind fun v43 =>
  some (v43, r_9.2.drew)).bind fun r43 =>
  ((Rq Zp (Zl 76 r7.1) r43.2).bind fun v44 =>
  some (v44, r43.2)).bind fun r44 =>
  ((Eq_ Zp (Zs 30 r4.1 r43.1) r44.2).bind fun r_11 =>
  some (undef, r_11.2)).bind fun r_10 =>
  ((Eq_ Zp (Zs 76 r5.1 r44.1) r_10.2).bind fun r_13 =>
  some (undef, r_13.2)).bind fun r_12 =>
  chkThen ((((Rq Zp (Zl 76 r7.1) r44.2).bind fun v44_1 => some v44_1) = some r44.1 ∧ ((Rq Zp (Zl 76 r7.1) r_10.2).bind fun v44_2 => some v44_2) = some r44.1) ∧ True)
  (some (Xr [r4.1, r5.1] r_12.2))
 else
 (iter (f31.l0 call) [l0, end1, r4.1, r5.1, v38, (Vi Ki 0), (Vi Ki 1)] r_9.2).bind fun (r : Res) => (r.unblock 0).cont fun vs_2 W3 =>
 let l0_3 := nth vs_2 0
 let end1_3 := nth vs_2 1
 let v4_2 := nth vs_2 2
 let v5_2 := nth vs_2 3
 let rate9_2 := nth vs_2 4
 (bin .eql rate9_2 (Vi Ki 0)).bind fun v56 =>
 (asB v56).bind fun c56 =>
 if c56 then
  ((Pq Zp (Zb 30 #[])).bind fun v57 =>
  some (v57, W3.drew)).bind fun r57 =>
  ((Pq Zp (Zj 70 l0_3 (Vi Ki 1))).bind fun v59 =>
  some (v59, r57.2)).bind fun r59 =>
  ((Pq Zp (Zf 74 r59.1 0)).bind fun v60 =>
  some (v60, r59.2)).bind fun r60 =>
  ((Rq Zp (Zl 3 r60.1) r60.2).bind fun v61 =>
  some (v61, r60.2)).bind fun r61 =>
  ((Pq Zp (Zb 76 #[(0, r61.1), (1, (Vi Ki 193))])).bind fun v62 =>
  some (v62, r61.2)).bind fun r62 =>
  ((Eq_ Zp (Zs 30 v4_2 r57.1) r62.2).bind fun r_15 =>
  some (undef, r_15.2)).bind fun r_14 =>
  ((Eq_ Zp (Zs 76 v5_2 r62.1) r_14.2).bind fun r_17 =>
  some (undef, r_17.2)).bind fun r_16 =>
  chkThen ((((Rq Zp (Zl 3 r60.1) r62.2).bind fun v61_1 => some v61_1) = some r61.1 ∧ ((Rq Zp (Zl 3 r60.1) r_14.2).bind fun v61_2 => some v61_2) = some r61.1) ∧ True)
  (some (Xr [v4_2, v5_2] r_16.2))
 else
 (call 72 #[l0_3, end1_3, (Vi Ki 2)] W3).bind fun r66 =>
 (Pq Zp (Zx r66.1 0)).bind fun v67 =>
 (Pq Zp (Zx r66.1 1)).bind fun v68 =>
 (Pq Zp (Zx r66.1 2)).bind fun v69 =>
 (Eq_ Zp (Za 76 true (.tuple #[])) r66.2).bind fun r13 =>
 (Eq_ Zp (Zs 76 r13.1 v68) r13.2).bind fun r_18 =>
 (Pq Zp (Op.unary .not v69)).bind fun v71 =>
 (asB v71).bind fun c71 =>
 if c71 then
  ((Pq Zp (Zb 30 #[])).bind fun v72 =>
  some (v72, r_18.2.drew)).bind fun r72 =>
  ((Rq Zp (Zl 76 r13.1) r72.2).bind fun v73 =>
  some (v73, r72.2)).bind fun r73 =>
  ((Eq_ Zp (Zs 30 v4_2 r72.1) r73.2).bind fun r_20 =>
  some (undef, r_20.2)).bind fun r_19 =>
  ((Eq_ Zp (Zs 76 v5_2 r73.1) r_19.2).bind fun r_22 =>
  some (undef, r_22.2)).bind fun r_21 =>
  chkThen ((((Rq Zp (Zl 76 r13.1) r73.2).bind fun v73_1 => some v73_1) = some r73.1 ∧ ((Rq Zp (Zl 76 r13.1) r_19.2).bind fun v73_2 => some v73_2) = some r73.1) ∧ True)
  (some (Xr [v4_2, v5_2] r_21.2))
 else
 (Pq Zp (Yl #[70] 3 #[l0_3])).bind fun v75 =>
 (bin .gtr v75 (Vi Ki 3)).bind fun v76 =>
 (asB v76).bind fun c76 =>
 if c76 then
  ((Pq Zp (Zb 30 #[])).bind fun v77 =>
  some (v77, r_18.2.drew)).bind fun r77 =>
  ((Pq Zp (Zj 70 l0_3 (Vi Ki 3))).bind fun v79 =>
  some (v79, r77.2)).bind fun r79 =>
  ((Pq Zp (Zf 74 r79.1 0)).bind fun v80 =>
  some (v80, r79.2)).bind fun r80 =>
  ((Rq Zp (Zl 3 r80.1) r80.2).bind fun v81 =>
  some (v81, r80.2)).bind fun r81 =>
  ((Pq Zp (Zb 76 #[(0, r81.1), (1, (Vi Ki 193))])).bind fun v82 =>
  some (v82, r81.2)).bind fun r82 =>
  ((Eq_ Zp (Zs 30 v4_2 r77.1) r82.2).bind fun r_24 =>
  some (undef, r_24.2)).bind fun r_23 =>
  ((Eq_ Zp (Zs 76 v5_2 r82.1) r_23.2).bind fun r_26 =>
  some (undef, r_26.2)).bind fun r_25 =>
  chkThen ((((Rq Zp (Zl 3 r80.1) r82.2).bind fun v81_1 => some v81_1) = some r81.1 ∧ ((Rq Zp (Zl 3 r80.1) r_23.2).bind fun v81_2 => some v81_2) = some r81.1) ∧ True)
  (some (Xr [v4_2, v5_2] r_25.2))
 else
 (Pq Zp (Zb 30 #[(0, v67), (1, rate9_2)])).bind fun v85 =>
 (Pq Zp (Zb 76 #[])).bind fun v86 =>
 (Eq_ Zp (Zs 30 v4_2 v85) r_18.2).bind fun r_27 =>
 (Eq_ Zp (Zs 76 v5_2 v86) r_27.2).bind fun r_28 =>
 some (Xr [v4_2, v5_2] r_28.2)).bind (Res.doneR Zp [.cell 4 30, .cell 5 76])
def f33.ann : Ann := (.s .z (.s (.s .z (.c (.s .z .z) .z)) (.s (.s .z (.b [] (.l [0, 1, 5] (.s (.s .z (.c .z .z)) (.s (.b [0, 1, 5] (.s .z (.c (.s .z .z) .z))) .z))))) (.s .z .z))))
noncomputable def f33.l0 (call : CallF) (vs : List Value) (W1 : World) : Option Res :=
 let a0_1 := nth vs 0
 let b1_1 := nth vs 1
 let i5 := nth vs 2
 (Pq Zp (Yl #[28] 3 #[a0_1])).bind fun v13 =>
 (bin .lss i5 v13).bind fun v14 =>
 (asB v14).bind fun c14 =>
 if c14 then
  ((Pq Zp (Zj 28 a0_1 i5)).bind fun v19 =>
  (Rq Zp (Zl 51 v19) W1.drew).bind fun v20 =>
  (Pq Zp (Zj 28 b1_1 i5)).bind fun v23 =>
  (Rq Zp (Zl 51 v23) W1.drew).bind fun v24 =>
  (Rq Zp (do eqGuard .neq 51 (Ot 20) (Ot 24) v20 v24; binOp .neq 51 v20 v24) W1.drew).bind fun v25 =>
  (asB v25).bind fun c25 =>
  if c25 then
   some (Xr [(Vb false)] W1.drew)
  else
  some (Xn [a0_1, b1_1, i5] W1.drew)).bind fun (r : Res) => (r.unblock 1).cont fun vs_1 W2 =>
  let a0_2 := nth vs_1 0
  let b1_2 := nth vs_1 1
  let i5_1 := nth vs_1 2
  (bin .add i5_1 (Vi Ki 1)).bind fun v16 =>
  some (Xn [a0_2, b1_2, v16] W2)
 else
 some (Xx 0 [] W1)
noncomputable def f33 (call : CallF) (a0 : Value) (b1 : Value) (W0 : World) : Option (Value × World) :=
 ((Pq Zp (Yl #[28] 3 #[a0])).bind fun v7 =>
 (Pq Zp (Yl #[28] 3 #[b1])).bind fun v9 =>
 (bin .neq v7 v9).bind fun v10 =>
 (asB v10).bind fun c10 =>
 if c10 then
  some (Xr [(Vb false)] W0)
 else
 (iter (f33.l0 call) [a0, b1, (Vi Ki 0)] W0).bind fun (r : Res) => (r.unblock 0).cont fun vs_2 W3 =>
 some (Xr [(Vb true)] W3)).bind Res.done
def f34.ann : Ann := (.s .z (.s (.s .z (.c (.s .z .z) .z)) (.s (.s .z (.j [0, 1] .z .z)) (.s .z (.s .z (.s (.s .z (.j [0, 1, 5, 6] .z .z)) (.s .z (.s (.s .z (.j [0, 1, 5, 7] .z .z)) (.s .z .z)))))))))
noncomputable def f34 (call : CallF) (err0 : Value) (target1 : Value) (W0 : World) : Option (Value × World) :=
 ((Rq Zp (do eqGuard .eql 32 (Ot 8) (Oc Vn) err0 Vn; binOp .eql 32 err0 Vn) W0).bind fun v9 =>
 (asB v9).bind fun c9 =>
 if c9 then
  some (Xr [(Vb false)] W0)
 else
 (Rq Zp (do eqGuard .eql 20 (Ot 10) (Oc Vn) target1 Vn; binOp .eql 20 target1 Vn) W0).bind fun v11 =>
 (asB v11).bind fun c11 =>
 (if c11 then
  (Pq Zp (Zm 9 (Vs { data := #[101, 114, 114, 111, 114, 115, 58, 32, 116, 97, 114, 103, 101, 116, 32, 99, 97, 110, 110, 111, 116, 32, 98, 101, 32, 110, 105, 108] }))).bind fun v12 =>
  none
  else
  some (Xn [err0, target1] W0)).bind fun (r : Res) => r.cont fun vs W1 =>
 let err0_1 := nth vs 0
 let target1_1 := nth vs 1
 (xrun Zp (callFunc 76 #[target1_1]) W1).bind fun r14 =>
 (Eq_ Zp (Za 137 true (.tuple #[])) r14.2).bind fun r5 =>
 (Eq_ Zp (Zs 137 r5.1 r14.1) r5.2).bind fun r =>
 (Rq Zp (Zl 137 r5.1) r.2).bind fun v15 =>
 (xrun Zp (callFunc 77 #[v15]) r.2).bind fun r16 =>
 (imethod Zp r16.1 "Kind" r16.2).bind fun m18 =>
 (call m18.1 #[m18.2] r16.2).bind fun r18 =>
 (bin .neq r18.1 (Vi Ku 22)).bind fun v19 =>
 (asB v19).bind fun b20 =>
 (if b20 = false then (Rq Zp (Zl 137 r5.1) r18.2).bind fun v21 =>
  (xrun Zp (callFunc 78 #[v21]) r18.2).bind fun r22 =>
  some (r22.1, r22.2)
  else some ((Vb true), r18.2)).bind fun r23 =>
 (asB r23.1).bind fun c23 =>
 (if c23 then
  (Pq Zp (Zm 9 (Vs { data := #[101, 114, 114, 111, 114, 115, 58, 32, 116, 97, 114, 103, 101, 116, 32, 109, 117, 115, 116, 32, 98, 101, 32, 97, 32, 110, 111, 110, 45, 110, 105, 108, 32, 112, 111, 105, 110, 116, 101, 114] }))).bind fun v24 =>
  none
  else
  some (Xn [err0_1, target1_1, r5.1, r16.1] r23.2)).bind fun (r : Res) => r.cont fun vs_1 W2 =>
 let err0_2 := nth vs_1 0
 let target1_2 := nth vs_1 1
 let val5 := nth vs_1 2
 let typ6 := nth vs_1 3
 (imethod Zp typ6 "Elem" W2).bind fun m26 =>
 (call m26.1 #[m26.2] W2).bind fun r26 =>
 (imethod Zp r26.1 "Kind" r26.2).bind fun m28 =>
 (call m28.1 #[m28.2] r26.2).bind fun r28 =>
 (bin .neq r28.1 (Vi Ku 20)).bind fun v29 =>
 (asB v29).bind fun b30 =>
 (if b30 = true then (Rq Zp (Zl 108 (.pointer (some ⟨0, 0, none⟩))) r28.2).bind fun v32 =>
  (imethod Zp r26.1 "Implements" r28.2).bind fun m33 =>
  (call m33.1 #[m33.2, v32] r28.2).bind fun r33 =>
  (Pq Zp (Op.unary .not r33.1)).bind fun v34 =>
  some (v34, r33.2)
  else some ((Vb false), r28.2)).bind fun r35 =>
 (asB r35.1).bind fun c35 =>
 (if c35 then
  (Pq Zp (Zm 9 (Vs { data := #[101, 114, 114, 111, 114, 115, 58, 32, 42, 116, 97, 114, 103, 101, 116, 32, 109, 117, 115, 116, 32, 98, 101, 32, 105, 110, 116, 101, 114, 102, 97, 99, 101, 32, 111, 114, 32, 105, 109, 112, 108, 101, 109, 101, 110, 116, 32, 101, 114, 114, 111, 114] }))).bind fun v36 =>
  none
  else
  some (Xn [err0_2, target1_2, val5, r26.1] r35.2)).bind fun (r : Res) => r.cont fun vs_2 W3 =>
 let err0_3 := nth vs_2 0
 let target1_3 := nth vs_2 1
 let val5_1 := nth vs_2 2
 let targetType7 := nth vs_2 3
 (Rq Zp (Zl 137 val5_1) W3).bind fun v39 =>
 (call 79 #[err0_3, target1_3, v39, targetType7] W3).bind fun r41 =>
 some (Xr [r41.1] r41.2)).bind Res.done
def f35.ann : Ann := (.s .z (.s .z .z))
noncomputable def f35 (call : CallF) (i0 : Value) (W0 : World) : Option (Value × World) :=
 ((Eq_ Zp (Za 51 true (.tuple #[])) W0).bind fun r2 =>
 (bin .sub (Vi Ki (-5)) i0).bind fun v4 =>
 (Pq Zp (Zb 51 #[(1, v4)])).bind fun v5 =>
 (Eq_ Zp (Zs 51 r2.1 v5) r2.2).bind fun r =>
 some (Xr [r2.1] r.2)).bind (Res.doneR Zp [.cell 2 51])
def f36.ann : Ann := (.s .z (.s (.s .z (.b [] (.l [0, 3, 5] (.s (.s .z (.c .z .z)) (.s (.b [0, 3, 5] (.s .z (.c (.s .z .z) .z))) .z))))) (.s .z .z)))
noncomputable def f36.l0 (call : CallF) (vs : List Value) (W1 : World) : Option Res :=
 let l0_1 := nth vs 0
 let m3 := nth vs 1
 let i5 := nth vs 2
 (Pq Zp (Yl #[28] 3 #[l0_1])).bind fun v8 =>
 (bin .lss i5 v8).bind fun v9 =>
 (asB v9).bind fun c9 =>
 if c9 then
  ((Pq Zp (Zj 28 l0_1 i5)).bind fun v14 =>
  (Rq Zp (Zl 51 v14) W1.drew).bind fun v15 =>
  (Rq Zp (Zl 51 m3) W1.drew).bind fun v16 =>
  (Rq Zp (do eqGuard .neq 51 (Ot 15) (Ot 16) v15 v16; binOp .neq 51 v15 v16) W1.drew).bind fun v17 =>
  (asB v17).bind fun c17 =>
  if c17 then
   some (Xr [(Vb false)] W1.drew)
  else
  some (Xn [l0_1, m3, i5] W1.drew)).bind fun (r : Res) => (r.unblock 1).cont fun vs_1 W2 =>
  let l0_2 := nth vs_1 0
  let m3_1 := nth vs_1 1
  let i5_1 := nth vs_1 2
  (bin .add i5_1 (Vi Ki 1)).bind fun v11 =>
  some (Xn [l0_2, m3_1, v11] W2)
 else
 some (Xx 0 [] W1)
noncomputable def f36 (call : CallF) (l0 : Value) (m1 : Value) (W0 : World) : Option (Value × World) :=
 ((Eq_ Zp (Zo 51 m1) W0).bind fun r3 =>
 (iter (f36.l0 call) [l0, r3.1, (Vi Ki 0)] r3.2).bind fun (r : Res) => (r.unblock 0).cont fun vs_2 W3 =>
 some (Xr [(Vb true)] W3)).bind Res.done
def f37.ann : Ann := (.s .z (.s .z (.s (.s .z (.c (.s .z .z) .z)) (.s .z .z))))
noncomputable def f37 (call : CallF) (r0 : Value) (W0 : World) : Option (Value × World) :=
 ((call 80 #[r0] W0).bind fun r8 =>
 (Pq Zp (Zx r8.1 0)).bind fun v9 =>
 (Pq Zp (Zx r8.1 1)).bind fun v10 =>
 (Eq_ Zp (Za 145 true (.tuple #[])) r8.2).bind fun r4 =>
 (Eq_ Zp (Zs 145 r4.1 v9) r4.2).bind fun r =>
 (Pq Zp (Op.unary .not v10)).bind fun v12 =>
 (asB v12).bind fun c12 =>
 if c12 then
  some (Xr [(Vi Ki 0), (Vi Ki 181)] r.2)
 else
 (Rq Zp (Zl 145 r4.1) r.2).bind fun v13 =>
 (call 81 #[v13] r.2).bind fun r14 =>
 some (Xr [r14.1, (Vi Ki 0)] r14.2)).bind Res.done
def f38.ann : Ann := (.s .z (.s .z .z))
noncomputable def f38 (call : CallF) (event0 : Value) (e1 : Value) (W0 : World) : Option (Value × World) :=
 ((Pq Zp (Zb 101 #[(0, event0), (1, e1)])).bind fun v7 =>
 (Eq_ Zp (Zo 101 v7) W0).bind fun r8 =>
 (Pq Zp (Zm 99 r8.1)).bind fun v9 =>
 some (Xr [v9] r8.2)).bind Res.done
def f39.ann : Ann := (.s .z (.s (.b [] (.l [0] (.s (.s .z (.c .z .z)) (.b [0] (.s .z (.s (.s .z (.c (.s .z (.s (.s .z (.j [0] (.s .z (.s .z (.c (.s .z (.b [0] (.l [0] (.s (.s .z (.c .z .z)) (.b [0] .z))))) .z))) .z)) .z)) .z)) (.s .z (.s .z (.s .z (.s .z (.b [0] (.s .z (.c (.s (.s .z (.c (.s .z .z) .z)) .z) (.s .z (.c (.s (.s .z (.c (.s .z .z) .z)) .z) (.s .z (.c (.s (.s .z (.c (.s .z .z) .z)) .z) (.s .z .z)))))))))))))))))) (.s .z .z)))
noncomputable def f39.l0 (call : CallF) (vs_1 : List Value) (W2 : World) : Option Res :=
 let t0_2 := nth vs_1 0
 ((Pq Zp (Yl #[9] 3 #[t0_2])).bind fun v43 =>
 some (v43, W2.drew)).bind fun r43 =>
 ((bin .gtr r43.1 (Vi Ki 32)).bind fun v44 =>
 some (v44, r43.2)).bind fun r44 =>
 (if wantedV true r44.1 = true then some (t0_2, r44.2) else some (undef, r44.2)).bind fun r46 =>
 (if wantedV true r44.1 = true then (call 82 #[r46.1] r46.2).bind fun r47_1 =>
 some (r47_1.1, r47_1.2) else some (undef, r46.2)).bind fun r47 =>
 (if wantedV true r44.1 = true then some (t0_2, r47.2) else some (undef, r47.2)).bind fun r48 =>
 (if wantedV true r44.1 = true then (Pq Zp (Zc 9 r48.1 (some (Vi Ki 8)) none none)).bind fun v49 =>
 some (v49, r48.2) else some (undef, r48.2)).bind fun r49 =>
 (if wantedV true r44.1 = true then (call 82 #[r49.1] r49.2).bind fun r50_1 =>
 some (r50_1.1, r50_1.2) else some (undef, r49.2)).bind fun r50 =>
 (if wantedV true r44.1 = true then (Pq Zp (do eqGuard .or 12 (Ot 47) (Ot 50) r47.1 r50.1; binOp .or 12 r47.1 r50.1)).bind fun v51 =>
 some (v51, r50.2) else some (undef, r50.2)).bind fun r51 =>
 (if wantedV true r44.1 = true then some (t0_2, r51.2) else some (undef, r51.2)).bind fun r52 =>
 (if wantedV true r44.1 = true then (Pq Zp (Zc 9 r52.1 (some (Vi Ki 16)) none none)).bind fun v53 =>
 some (v53, r52.2) else some (undef, r52.2)).bind fun r53 =>
 (if wantedV true r44.1 = true then (call 82 #[r53.1] r53.2).bind fun r54_1 =>
 some (r54_1.1, r54_1.2) else some (undef, r53.2)).bind fun r54 =>
 (if wantedV true r44.1 = true then some (t0_2, r54.2) else some (undef, r54.2)).bind fun r55 =>
 (if wantedV true r44.1 = true then (Pq Zp (Zc 9 r55.1 (some (Vi Ki 24)) none none)).bind fun v56 =>
 some (v56, r55.2) else some (undef, r55.2)).bind fun r56 =>
 (if wantedV true r44.1 = true then (call 82 #[r56.1] r56.2).bind fun r57_1 =>
 some (r57_1.1, r57_1.2) else some (undef, r56.2)).bind fun r57 =>
 (if wantedV true r44.1 = true then (Pq Zp (do eqGuard .or 12 (Ot 54) (Ot 57) r54.1 r57.1; binOp .or 12 r54.1 r57.1)).bind fun v58 =>
 some (v58, r57.2) else some (undef, r57.2)).bind fun r58 =>
 (if wantedV true r44.1 = true then (Pq Zp (do eqGuard .or 12 (Ot 51) (Ot 58) r51.1 r58.1; binOp .or 12 r51.1 r58.1)).bind fun v59 =>
 some (v59, r58.2) else some (undef, r58.2)).bind fun r59 =>
 (if wantedV true r44.1 = true then (Pq Zp (do eqGuard .and 12 (Ot 59) (Oc (Vi Kv 9259542123273814144)) r59.1 (Vi Kv 9259542123273814144); binOp .and 12 r59.1 (Vi Kv 9259542123273814144))).bind fun v60 =>
 some (v60, r59.2) else some (undef, r59.2)).bind fun r60 =>
 (if wantedV true r44.1 = true then (bin .eql r60.1 (Vi Kv 0)).bind fun v61 =>
 some (v61, r60.2) else some (undef, r60.2)).bind fun r61 =>
 ((pickV r44.1 r61.1 (Vb false)).bind fun v62 =>
 some (v62, r61.2)).bind fun r62 =>
 chkThen (True)
 ((asB r62.1).bind fun c62 =>
 if c62 then
  ((Pq Zp (Zc 9 t0_2 (some (Vi Ki 32)) none none)).bind fun v64 =>
  some (Xn [v64] r62.2)).bind fun (r : Res) => (r.unblock 3).cont fun vs_2 W3 =>
  let t0_3 := nth vs_2 0
  some (Xn [t0_3] W3)
 else
 some (Xx 2 [t0_2] r62.2))
noncomputable def f39.l1 (call : CallF) (vs : List Value) (W1 : World) : Option Res :=
 let t0_1 := nth vs 0
 (Pq Zp (Yl #[9] 3 #[t0_1])).bind fun v8 =>
 (bin .gtr v8 (Vi Ki 0)).bind fun v9 =>
 (asB v9).bind fun c9 =>
 if c9 then
  ((Pq Zp (Zi 9 t0_1 (Vi Ki 0))).bind fun v11 =>
  (bin .lss v11 (Vi Ku 128)).bind fun v13 =>
  (asB v13).bind fun c13 =>
  if c13 then
   (Pq Zp (Zc 9 t0_1 (some (Vi Ki 1)) none none)).bind fun v15 =>
   (Pq Zp (Yl #[9] 3 #[v15])).bind fun v17 =>
   (bin .gtr v17 (Vi Ki 8)).bind fun v18 =>
   (asB v18).bind fun b19 =>
   (if b19 = true then (call 82 #[v15] W1).bind fun r21 =>
    (Pq Zp (do eqGuard .and 12 (Ot 21) (Oc (Vi Kv 9259542123273814144)) r21.1 (Vi Kv 9259542123273814144); binOp .and 12 r21.1 (Vi Kv 9259542123273814144))).bind fun v22 =>
    (bin .eql v22 (Vi Kv 0)).bind fun v23 =>
    some (v23, r21.2)
    else some ((Vb false), W1)).bind fun r24 =>
   (asB r24.1).bind fun c24 =>
   (if c24 then
    (Pq Zp (Zc 9 v15 (some (Vi Ki 8)) none none)).bind fun v26 =>
    ((Pq Zp (Yl #[9] 3 #[v26])).bind fun v28 =>
    some (v28, r24.2.drew)).bind fun r28 =>
    ((bin .gtr r28.1 (Vi Ki 16)).bind fun v29 =>
    some (v29, r28.2)).bind fun r29 =>
    (if wantedV true r29.1 = true then some (v26, r29.2) else some (undef, r29.2)).bind fun r31 =>
    (if wantedV true r29.1 = true then (call 82 #[r31.1] r31.2).bind fun r32_1 =>
    some (r32_1.1, r32_1.2) else some (undef, r31.2)).bind fun r32 =>
    (if wantedV true r29.1 = true then some (v26, r32.2) else some (undef, r32.2)).bind fun r33 =>
    (if wantedV true r29.1 = true then (Pq Zp (Zc 9 r33.1 (some (Vi Ki 8)) none none)).bind fun v34 =>
    some (v34, r33.2) else some (undef, r33.2)).bind fun r34 =>
    (if wantedV true r29.1 = true then (call 82 #[r34.1] r34.2).bind fun r35_1 =>
    some (r35_1.1, r35_1.2) else some (undef, r34.2)).bind fun r35 =>
    (if wantedV true r29.1 = true then (Pq Zp (do eqGuard .or 12 (Ot 32) (Ot 35) r32.1 r35.1; binOp .or 12 r32.1 r35.1)).bind fun v36 =>
    some (v36, r35.2) else some (undef, r35.2)).bind fun r36 =>
    (if wantedV true r29.1 = true then (Pq Zp (do eqGuard .and 12 (Ot 36) (Oc (Vi Kv 9259542123273814144)) r36.1 (Vi Kv 9259542123273814144); binOp .and 12 r36.1 (Vi Kv 9259542123273814144))).bind fun v37 =>
    some (v37, r36.2) else some (undef, r36.2)).bind fun r37 =>
    (if wantedV true r29.1 = true then (bin .eql r37.1 (Vi Kv 0)).bind fun v38 =>
    some (v38, r37.2) else some (undef, r37.2)).bind fun r38 =>
    ((pickV r29.1 r38.1 (Vb false)).bind fun v39 =>
    some (v39, r38.2)).bind fun r39 =>
    chkThen (True)
    ((asB r39.1).bind fun c39 =>
    if c39 then
     (Pq Zp (Zc 9 v26 (some (Vi Ki 16)) none none)).bind fun v41 =>
     (iter (f39.l0 call) [v41] r39.2).bind fun (r : Res) => (r.unblock 2).cont fun vs_3 W4 =>
     let t0_4 := nth vs_3 0
     some (Xn [t0_4] W4)
    else
    some (Xn [v26] r39.2))
    else
    some (Xn [v15] r24.2)).bind fun (r : Res) => r.cont fun vs_4 W5 =>
   let t0_5 := nth vs_4 0
   some (Xx 1 [t0_5] W5)
  else
  (Pq Zp (Zj 150 (.pointer (some ⟨1, 0, none⟩)) v11)).bind fun v66 =>
  (Rq Zp (Zl 5 v66) W1).bind fun v67 =>
  (Pq Zp (do eqGuard .and 5 (Ot 68) (Oc (Vi Ku 7)) v67 (Vi Ku 7); binOp .and 5 v67 (Vi Ku 7))).bind fun v69 =>
  (Pq Zp (convert 5 3 v69)).bind fun v70 =>
  (Pq Zp (do eqGuard .shr 5 (Ot 71) (Oc (Vi Kv 4)) v67 (Vi Kv 4); binOp .shr 5 v67 (Vi Kv 4))).bind fun v72 =>
  (Pq Zp (Zj 153 (.pointer (some ⟨2, 0, none⟩)) v72)).bind fun v73 =>
  (Rq Zp (Zl 152 v73) W1).bind fun v74 =>
  (Eq_ Zp (Za 152 true (.tuple #[])) W1).bind fun r6 =>
  (Eq_ Zp (Zs 152 r6.1 v74) r6.2).bind fun r =>
  ((bin .eql v70 (Vi Ki 2)).bind fun v77 =>
  (asB v77).bind fun c76 =>
  if c76 then
   (Pq Zp (Yl #[9] 3 #[t0_1])).bind fun v79 =>
   (bin .lss v79 (Vi Ki 2)).bind fun v80 =>
   (asB v80).bind fun b81 =>
   (if b81 = false then (Pq Zp (Zi 9 t0_1 (Vi Ki 1))).bind fun v83 =>
    (Pq Zp (Zf 152 r6.1 0)).bind fun v84 =>
    (Rq Zp (Zl 5 v84) r.2.drew).bind fun v85 =>
    (bin .lss v83 v85).bind fun v86 =>
    some (v86, r.2.drew)
    else some ((Vb true), r.2.drew)).bind fun r87 =>
   (asB r87.1).bind fun b88 =>
   (if b88 = false then (Pq Zp (Zf 152 r6.1 1)).bind fun v89 =>
    (Rq Zp (Zl 5 v89) r87.2).bind fun v90 =>
    (Pq Zp (Zi 9 t0_1 (Vi Ki 1))).bind fun v92 =>
    (bin .lss v90 v92).bind fun v93 =>
    some (v93, r87.2)
    else some ((Vb true), r87.2)).bind fun r94 =>
   (asB r94.1).bind fun c94 =>
   if c94 then
    some (Xr [(Vb false)] r94.2)
   else
   (Pq Zp (Zc 9 t0_1 (some (Vi Ki 2)) none none)).bind fun v96 =>
   some (Xn [v96] r94.2)
  else
  (bin .eql v70 (Vi Ki 3)).bind fun v98 =>
  (asB v98).bind fun c97 =>
  if c97 then
   (Pq Zp (Yl #[9] 3 #[t0_1])).bind fun v100 =>
   (bin .lss v100 (Vi Ki 3)).bind fun v101 =>
   (asB v101).bind fun b102 =>
   (if b102 = false then (Pq Zp (Zi 9 t0_1 (Vi Ki 1))).bind fun v104 =>
    (Pq Zp (Zf 152 r6.1 0)).bind fun v105 =>
    (Rq Zp (Zl 5 v105) r.2.drew).bind fun v106 =>
    (bin .lss v104 v106).bind fun v107 =>
    some (v107, r.2.drew)
    else some ((Vb true), r.2.drew)).bind fun r108 =>
   (asB r108.1).bind fun b109 =>
   (if b109 = false then (Pq Zp (Zf 152 r6.1 1)).bind fun v110 =>
    (Rq Zp (Zl 5 v110) r108.2).bind fun v111 =>
    (Pq Zp (Zi 9 t0_1 (Vi Ki 1))).bind fun v113 =>
    (bin .lss v111 v113).bind fun v114 =>
    some (v114, r108.2)
    else some ((Vb true), r108.2)).bind fun r115 =>
   (asB r115.1).bind fun b116 =>
   (if b116 = false then (Pq Zp (Zi 9 t0_1 (Vi Ki 2))).bind fun v118 =>
    (bin .lss v118 (Vi Ku 128)).bind fun v119 =>
    some (v119, r115.2)
    else some ((Vb true), r115.2)).bind fun r120 =>
   (asB r120.1).bind fun b121 =>
   (if b121 = false then (Pq Zp (Zi 9 t0_1 (Vi Ki 2))).bind fun v123 =>
    (bin .lss (Vi Ku 191) v123).bind fun v124 =>
    some (v124, r120.2)
    else some ((Vb true), r120.2)).bind fun r125 =>
   (asB r125.1).bind fun c125 =>
   if c125 then
    some (Xr [(Vb false)] r125.2)
   else
   (Pq Zp (Zc 9 t0_1 (some (Vi Ki 3)) none none)).bind fun v127 =>
   some (Xn [v127] r125.2)
  else
  (bin .eql v70 (Vi Ki 4)).bind fun v129 =>
  (asB v129).bind fun c128 =>
  if c128 then
   (Pq Zp (Yl #[9] 3 #[t0_1])).bind fun v131 =>
   (bin .lss v131 (Vi Ki 4)).bind fun v132 =>
   (asB v132).bind fun b133 =>
   (if b133 = false then (Pq Zp (Zi 9 t0_1 (Vi Ki 1))).bind fun v135 =>
    (Pq Zp (Zf 152 r6.1 0)).bind fun v136 =>
    (Rq Zp (Zl 5 v136) r.2.drew).bind fun v137 =>
    (bin .lss v135 v137).bind fun v138 =>
    some (v138, r.2.drew)
    else some ((Vb true), r.2.drew)).bind fun r139 =>
   (asB r139.1).bind fun b140 =>
   (if b140 = false then (Pq Zp (Zf 152 r6.1 1)).bind fun v141 =>
    (Rq Zp (Zl 5 v141) r139.2).bind fun v142 =>
    (Pq Zp (Zi 9 t0_1 (Vi Ki 1))).bind fun v144 =>
    (bin .lss v142 v144).bind fun v145 =>
    some (v145, r139.2)
    else some ((Vb true), r139.2)).bind fun r146 =>
   (asB r146.1).bind fun b147 =>
   (if b147 = false then (Pq Zp (Zi 9 t0_1 (Vi Ki 2))).bind fun v149 =>
    (bin .lss v149 (Vi Ku 128)).bind fun v150 =>
    some (v150, r146.2)
    else some ((Vb true), r146.2)).bind fun r151 =>
   (asB r151.1).bind fun b152 =>
   (if b152 = false then (Pq Zp (Zi 9 t0_1 (Vi Ki 2))).bind fun v154 =>
    (bin .lss (Vi Ku 191) v154).bind fun v155 =>
    some (v155, r151.2)
    else some ((Vb true), r151.2)).bind fun r156 =>
   (asB r156.1).bind fun b157 =>
   (if b157 = false then (Pq Zp (Zi 9 t0_1 (Vi Ki 3))).bind fun v159 =>
    (bin .lss v159 (Vi Ku 128)).bind fun v160 =>
    some (v160, r156.2)
    else some ((Vb true), r156.2)).bind fun r161 =>
   (asB r161.1).bind fun b162 =>
   (if b162 = false then (Pq Zp (Zi 9 t0_1 (Vi Ki 3))).bind fun v164 =>
    (bin .lss (Vi Ku 191) v164).bind fun v165 =>
    some (v165, r161.2)
    else some ((Vb true), r161.2)).bind fun r166 =>
   (asB r166.1).bind fun c166 =>
   if c166 then
    some (Xr [(Vb false)] r166.2)
   else
   (Pq Zp (Zc 9 t0_1 (some (Vi Ki 4)) none none)).bind fun v168 =>
   some (Xn [v168] r166.2)
  else
  some (Xr [(Vb false)] r.2)).bind fun (r : Res) => (r.unblock 4).cont fun vs_5 W6 =>
  let t0_6 := nth vs_5 0
  some (Xn [t0_6] W6)).bind fun (r : Res) => (r.unblock 1).cont fun vs_6 W7 =>
  let t0_7 := nth vs_6 0
  some (Xn [t0_7] W7)
 else
 some (Xx 0 [] W1)
noncomputable def f39 (call : CallF) (t0 : Value) (W0 : World) : Option (Value × World) :=
 ((iter (f39.l1 call) [t0] W0).bind fun (r : Res) => (r.unblock 0).cont fun vs_7 W8 =>
 some (Xr [(Vb true)] W8)).bind Res.done
def f40.ann : Ann := (.s .z (.s (.b [] (.s .z (.c (.s .z .z) (.s .z (.c (.s .z .z) (.s .z (.c (.s .z .z) (.s .z (.c (.s .z .z) (.s .z (.c (.s .z .z) .z))))))))))) (.s .z .z)))
noncomputable def f40 (call : CallF) (ahead0 : Value) (e1 : Value) (day2 : Value) (W0 : World) : Option (Value × World) :=
 ((Eq_ Zp (Zo 51 e1) W0).bind fun r4 =>
 ((Pq Zp (Zf 51 r4.1 0)).bind fun v8 =>
 (Rq Zp (Zl 9 v8) r4.2).bind fun v9 =>
 (call 67 #[v9] r4.2).bind fun r10 =>
 (Pq Zp (Op.unary .not r10.1)).bind fun v11 =>
 (asB v11).bind fun c7 =>
 if c7 then
  some (Xr [(Vi Ki 193)] r10.2)
 else
 (Pq Zp (Zf 51 r4.1 1)).bind fun v13 =>
 (Rq Zp (Zl 3 v13) r10.2).bind fun v14 =>
 (bin .lss v14 (Vi Ki 0)).bind fun v15 =>
 (asB v15).bind fun b16 =>
 (if b16 = false then (Pq Zp (Zf 51 r4.1 1)).bind fun v17 =>
  (Rq Zp (Zl 3 v17) r10.2).bind fun v18 =>
  (Pq Zp (Zf 51 r4.1 2)).bind fun v19 =>
  (Rq Zp (Zl 3 v19) r10.2).bind fun v20 =>
  (bin .geq v18 v20).bind fun v21 =>
  some (v21, r10.2)
  else some ((Vb true), r10.2)).bind fun r22 =>
 (asB r22.1).bind fun b23 =>
 (if b23 = false then (Pq Zp (Zf 51 r4.1 2)).bind fun v24 =>
  (Rq Zp (Zl 3 v24) r22.2).bind fun v25 =>
  (bin .geq v25 day2).bind fun v27 =>
  some (v27, r22.2)
  else some ((Vb true), r22.2)).bind fun r28 =>
 (asB r28.1).bind fun c12 =>
 if c12 then
  some (Xr [(Vi Ki 194)] r28.2)
 else
 (Rq Zp (Zl 51 r4.1) r28.2).bind fun v31 =>
 (call 83 #[ahead0, v31] r28.2).bind fun r32 =>
 (Pq Zp (Op.unary .not r32.1)).bind fun v33 =>
 (asB v33).bind fun c29 =>
 if c29 then
  some (Xr [(Vi Ki 195)] r32.2)
 else
 (Pq Zp (Zf 51 r4.1 4)).bind fun v35 =>
 (Rq Zp (Zl 9 v35) r32.2).bind fun v36 =>
 (Pq Zp (Yl #[9] 3 #[v36])).bind fun v37 =>
 (bin .gtr v37 (Vi Ki 100)).bind fun v38 =>
 (asB v38).bind fun c34 =>
 if c34 then
  some (Xr [(Vi Ki 191)] r32.2)
 else
 (Pq Zp (Zf 51 r4.1 4)).bind fun v40 =>
 (Rq Zp (Zl 9 v40) r32.2).bind fun v41 =>
 (call 39 #[v41] r32.2).bind fun r42 =>
 (Pq Zp (Op.unary .not r42.1)).bind fun v43 =>
 (asB v43).bind fun c39 =>
 if c39 then
  some (Xr [(Vi Ki 192)] r42.2)
 else
 some (Xn [] r42.2)).bind fun (r : Res) => (r.unblock 0).cont fun vs W1 =>
 some (Xr [(Vi Ki 0)] W1)).bind Res.done
def f42.ann : Ann := (.s .z (.s (.s .z (.b [] (.s .z (.c (.s .z .z) (.s .z (.c (.s .z .z) (.s .z (.c (.s .z .z) (.s .z (.c (.s .z .z) (.s .z (.c (.s .z .z) (.s .z (.c (.s .z .z) (.s .z (.c (.s .z .z) .z)))))))))))))))) (.s .z .z)))
noncomputable def f42 (call : CallF) (r0 : Value) (W0 : World) : Option (Value × World) :=
 (((bin .eql r0 (Vi Ki 1)).bind fun v5 =>
 (asB v5).bind fun c4 =>
 if c4 then
  some (Xr [(Vs { data := #[50, 52] })] W0)
 else
 (bin .eql r0 (Vi Ki 2)).bind fun v7 =>
 (asB v7).bind fun c6 =>
 if c6 then
  some (Xr [(Vs { data := #[50, 53] })] W0)
 else
 (bin .eql r0 (Vi Ki 3)).bind fun v9 =>
 (asB v9).bind fun c8 =>
 if c8 then
  some (Xr [(Vs { data := #[51, 48] })] W0)
 else
 (bin .eql r0 (Vi Ki 4)).bind fun v11 =>
 (asB v11).bind fun c10 =>
 if c10 then
  some (Xr [(Vs { data := #[51, 48, 100] })] W0)
 else
 (bin .eql r0 (Vi Ki 5)).bind fun v13 =>
 (asB v13).bind fun c12 =>
 if c12 then
  some (Xr [(Vs { data := #[53, 48] })] W0)
 else
 (bin .eql r0 (Vi Ki 6)).bind fun v15 =>
 (asB v15).bind fun c14 =>
 if c14 then
  some (Xr [(Vs { data := #[54, 48] })] W0)
 else
 (bin .eql r0 (Vi Ki 7)).bind fun v17 =>
 (asB v17).bind fun c16 =>
 if c16 then
  some (Xr [(Vs { data := #[54, 48, 100] })] W0)
 else
 some (Xn [] W0)).bind fun (r : Res) => (r.unblock 0).cont fun vs W1 =>
 some (Xr [(Vs { data := #[] })] W1)).bind Res.done
def f46.ann : Ann := (.s .z (.s .z .z))
noncomputable def f46 (call : CallF) (e0 : Value) (W0 : World) : Option (Value × World) :=
 ((Eq_ Zp (Zo 51 e0) W0).bind fun r1 =>
 (Pq Zp (Zf 51 r1.1 2)).bind fun v3 =>
 (Rq Zp (Zl 3 v3) r1.2).bind fun v4 =>
 (Pq Zp (Zf 51 r1.1 1)).bind fun v5 =>
 (Rq Zp (Zl 3 v5) r1.2).bind fun v6 =>
 (bin .sub v4 v6).bind fun v7 =>
 some (Xr [v7] r1.2)).bind Res.done
def f49.ann : Ann := (.s .z (.s (.s .z (.b [] (.s .z (.c (.s .z .z) (.s .z (.c (.s .z .z) (.s .z (.c (.s .z .z) (.s .z (.c (.s .z .z) (.s .z (.c (.s .z .z) (.s .z (.c (.s .z .z) (.s .z (.c (.s .z .z) .z)))))))))))))))) (.s .z .z)))
noncomputable def f49 (call : CallF) (r0 : Value) (W0 : World) : Option (Value × World) :=
 (((bin .eql r0 (Vi Ki 1)).bind fun v5 =>
 (asB v5).bind fun c4 =>
 if c4 then
  some (Xr [(Vs { data := #[50, 52] })] W0)
 else
 (bin .eql r0 (Vi Ki 2)).bind fun v7 =>
 (asB v7).bind fun c6 =>
 if c6 then
  some (Xr [(Vs { data := #[50, 53] })] W0)
 else
 (bin .eql r0 (Vi Ki 3)).bind fun v9 =>
 (asB v9).bind fun c8 =>
 if c8 then
  some (Xr [(Vs { data := #[51, 48] })] W0)
 else
 (bin .eql r0 (Vi Ki 4)).bind fun v11 =>
 (asB v11).bind fun c10 =>
 if c10 then
  some (Xr [(Vs { data := #[51, 48, 100] })] W0)
 else
 (bin .eql r0 (Vi Ki 5)).bind fun v13 =>
 (asB v13).bind fun c12 =>
 if c12 then
  some (Xr [(Vs { data := #[53, 48] })] W0)
 else
 (bin .eql r0 (Vi Ki 6)).bind fun v15 =>
 (asB v15).bind fun c14 =>
 if c14 then
  some (Xr [(Vs { data := #[54, 48] })] W0)
 else
 (bin .eql r0 (Vi Ki 7)).bind fun v17 =>
 (asB v17).bind fun c16 =>
 if c16 then
  some (Xr [(Vs { data := #[54, 48, 100] })] W0)
 else
 some (Xn [] W0)).bind fun (r : Res) => (r.unblock 0).cont fun vs W1 =>
 some (Xr [(Vs { data := #[] })] W1)).bind Res.done
def f54.ann : Ann := (.s .z (.s (.s .z (.c (.s .z .z) .z)) .z))
noncomputable def f54 (call : CallF) (s0 : Value) (W0 : World) : Option (Value × World) :=
 ((Pq Zp (do eqGuard .neq 9 (Ot 4) (Oc (Vs { data := #[] })) s0 (Vs { data := #[] }); binOp .neq 9 s0 (Vs { data := #[] }))).bind fun v5 =>
 (asB v5).bind fun b6 =>
 (if b6 = true then (Pq Zp (Zi 9 s0 (Vi Ki 0))).bind fun v8 =>
  (bin .lss v8 (Vi Ku 128)).bind fun v9 =>
  some (v9, W0)
  else some ((Vb false), W0)).bind fun r10 =>
 (asB r10.1).bind fun c10 =>
 if c10 then
  (Pq Zp (Zi 9 s0 (Vi Ki 0))).bind fun v12 =>
  (Pq Zp (convert 5 21 v12)).bind fun v13 =>
  some (Xr [v13, (Vi Ki 1)] r10.2)
 else
 (call 92 #[s0] r10.2).bind fun r16 =>
 (Pq Zp (Zx r16.1 0)).bind fun v17 =>
 (Pq Zp (Zx r16.1 1)).bind fun v18 =>
 some (Xr [v17, v18] r16.2)).bind Res.done
def f55.ann : Ann := (.s .z (.s .z .z))
noncomputable def f55 (call : CallF) (s0 : Value) (c1 : Value) (W0 : World) : Option (Value × World) :=
 ((xrun Zp (callFunc 93 #[s0, c1]) W0).bind fun r7 =>
 some (Xr [r7.1] r7.2)).bind Res.done
def f56.ann : Ann := (.s .z (.s .z (.s .z (.s .z (.s (.s .z (.b [0, 2] (.l [0, 2, 4, 5, 6, 12] (.s .z (.s (.c .z .z) (.b [0, 2, 4, 5, 6, 12] (.s .z (.b [0, 2, 4, 5, 6, 12] (.s .z (.c (.s .z (.s .z (.b [0, 2, 4, 5, 6, 12] (.s (.s .z (.j [0, 2, 4, 5, 6, 8, 12, 22, 24] .z .z)) (.c .z (.s .z (.c .z .z))))))) (.s .z (.c .z (.s .z (.c (.s .z (.s .z .z)) .z)))))))))))))) (.s .z .z))))))
noncomputable def f56.l0 (call : CallF) (vs : List Value) (W1 : World) : Option Res :=
 let s0_1 := nth vs 0
 let v2 := nth vs 1
 let w4 := nth vs 2
 let out5 := nth vs 3
 let turned6 := nth vs 4
 let v12 := nth vs 5
 (Eq_ Zp (Instr.next v12 true 0) W1).bind fun r13 =>
 (Pq Zp (Zx r13.1 0)).bind fun v14 =>
 (asB v14).bind fun c14 =>
 if c14 then
  ((Pq Zp (Zx r13.1 1)).bind fun v15 =>
  (Pq Zp (Zx r13.1 2)).bind fun v16 =>
  ((asB turned6).bind fun c20 =>
  if c20 then
   ((bin .eql v16 (Vi Kj 34)).bind fun v25 =>
   (asB v25).bind fun c24 =>
   (if c24 then
    some (Xn [s0_1, v2, w4, out5, (Vb false), v16, v12, v16, v25] r13.2)
    else
    (bin .eql v16 (Vi Kj 92)).bind fun v26 =>
    some (Xn [s0_1, v2, w4, out5, (Vb false), v16, v12, v16, v26] r13.2)).bind fun (r : Res) => r.cont fun vs_1 W2 =>
   let s0_2 := nth vs_1 0
   let v2_1 := nth vs_1 1
   let w4_1 := nth vs_1 2
   let out5_1 := nth vs_1 3
   let turned6_1 := nth vs_1 4
   let r8 := nth vs_1 5
   let v12_1 := nth vs_1 6
   let v22 := nth vs_1 7
   let v24 := nth vs_1 8
   (asB v24).bind fun c24_1 =>
   if c24_1 then
    (Pq Zp (convert 21 5 r8)).bind fun v29 =>
    (Eq_ Zp (Instr.buildSlice 160 1 #[(0, v29)]) W2).bind fun r30 =>
    (Eq_ Zp (Yb #[160, 160] 160 #[out5_1, r30.1]) r30.2).bind fun r31 =>
    some (Xn [s0_2, v2_1, w4_1, r31.1, turned6_1, v12_1] r31.2)
   else
   (bin .eql v22 (Vi Kj 110)).bind fun v33 =>
   (asB v33).bind fun c32 =>
   if c32 then
    (Eq_ Zp (Instr.buildSlice 160 1 #[(0, (Vi Ku 10))]) W2).bind fun r35 =>
    (Eq_ Zp (Yb #[160, 160] 160 #[out5_1, r35.1]) r35.2).bind fun r36 =>
    some (Xn [s0_2, v2_1, w4_1, r36.1, turned6_1, v12_1] r36.2)
   else
   (Pq Zp (Zf 114 w4_1 3)).bind fun v23 =>
   (Eq_ Zp (Zs 4 v23 (Vb true)) W2).bind fun r_1 =>
   some (Xn [s0_2, v2_1, w4_1, out5_1, turned6_1, v12_1] r_1.2)).bind fun (r : Res) => (r.unblock 3).cont fun vs_2 W3 =>
   let s0_3 := nth vs_2 0
   let v2_2 := nth vs_2 1
   let w4_2 := nth vs_2 2
   let out5_2 := nth vs_2 3
   let turned6_2 := nth vs_2 4
   let v12_2 := nth vs_2 5
   some (Xn [s0_3, v2_2, w4_2, out5_2, turned6_2, v12_2] W3)
  else
  (bin .eql v16 (Vi Kj 92)).bind fun v39 =>
  (asB v39).bind fun c37 =>
  if c37 then
   some (Xn [s0_1, v2, w4, out5, (Vb true), v12] r13.2)
  else
  (bin .eql v16 (Vi Kj 34)).bind fun v42 =>
  (asB v42).bind fun c40 =>
  if c40 then
   (Rq Zp (convert 160 9 out5) r13.2).bind fun v44 =>
   (Pq Zp (Zf 114 w4 1)).bind fun v45 =>
   (Eq_ Zp (Zs 9 v45 v44) r13.2).bind fun r_2 =>
   (Rq Zp (Zl 114 w4) r_2.2).bind fun v46 =>
   (bin .add v15 (Vi Ki 2)).bind fun v48 =>
   (Eq_ Zp (Zs 114 v2 v46) r_2.2).bind fun r_3 =>
   some (Xr [v2, v48] r_3.2)
  else
  (call 89 #[out5, v16] r13.2).bind fun r19 =>
  some (Xn [s0_1, v2, w4, r19.1, turned6, v12] r19.2)).bind fun (r : Res) => (r.unblock 2).cont fun vs_3 W4 =>
  let s0_4 := nth vs_3 0
  let v2_3 := nth vs_3 1
  let w4_3 := nth vs_3 2
  let out5_3 := nth vs_3 3
  let turned6_3 := nth vs_3 4
  let v12_3 := nth vs_3 5
  some (Xn [s0_4, v2_3, w4_3, out5_3, turned6_3, v12_3] W4)).bind fun (r : Res) => (r.unblock 1).cont fun vs_4 W5 =>
  let s0_5 := nth vs_4 0
  let v2_4 := nth vs_4 1
  let w4_4 := nth vs_4 2
  let out5_4 := nth vs_4 3
  let turned6_4 := nth vs_4 4
  let v12_4 := nth vs_4 5
  some (Xn [s0_5, v2_4, w4_4, out5_4, turned6_4, v12_4] W5)
 else
 some (Xx 0 [s0_1, v2] r13.2)
noncomputable def f56 (call : CallF) (s0 : Value) (W0 : World) : Option (Value × World) :=
 ((Eq_ Zp (Za 114 true (.tuple #[])) W0).bind fun r2 =>
 (Pq Zp (Zb 114 #[(2, (Vb true))])).bind fun v9 =>
 (Eq_ Zp (Za 114 true (.tuple #[])) r2.2).bind fun r4 =>
 (Eq_ Zp (Zs 114 r4.1 v9) r4.2).bind fun r =>
 (Pq Zp (Zc 9 s0 (some (Vi Ki 1)) none none)).bind fun v11 =>
 (Eq_ Zp (Instr.range 9 v11) r.2).bind fun r12 =>
 (iter (f56.l0 call) [s0, r2.1, r4.1, (Vl none 0 0), (Vb false), r12.1] r12.2).bind fun (r : Res) => (r.unblock 0).cont fun vs_5 W6 =>
 let s0_6 := nth vs_5 0
 let v2_5 := nth vs_5 1
 (Pq Zp (Zb 114 #[(2, (Vb true)), (3, (Vb true))])).bind fun v49 =>
 (Pq Zp (Yl #[9] 3 #[s0_6])).bind fun v51 =>
 (Eq_ Zp (Zs 114 v2_5 v49) W6).bind fun r_4 =>
 some (Xr [v2_5, v51] r_4.2)).bind (Res.doneR Zp [.cell 2 114, .tmp 3])
def f57.ann : Ann := (.s .z (.s (.s .z (.c (.s .z .z) .z)) (.s (.s .z (.c (.s .z (.s (.s .z (.j [0, 5] .z .z)) (.s .z .z))) .z)) (.s (.s .z (.j [0, 1] (.s .z (.s .z (.c (.s (.s .z (.b [] (.l [0, 6, 8] (.s (.s .z (.c .z .z)) (.s (.b [0, 6, 8] (.s .z (.c (.s .z .z) .z))) .z))))) (.s .z .z)) .z))) .z)) (.s (.s .z (.b [] (.l [1, 45] (.s .z (.s (.c .z .z) (.b [1, 45] (.s .z (.s .z (.c (.s .z .z) .z))))))))) (.s .z .z))))))
noncomputable def f57.l0 (call : CallF) (vs_1 : List Value) (W2 : World) : Option Res :=
 let s0_2 := nth vs_1 0
 let as6 := nth vs_1 1
 let i8 := nth vs_1 2
 (Pq Zp (Yl #[9] 3 #[s0_2])).bind fun v35 =>
 (bin .lss i8 v35).bind fun v36 =>
 (asB v36).bind fun c36 =>
 if c36 then
  ((Pq Zp (Zi 9 s0_2 i8)).bind fun v41 =>
  (call 97 #[as6, v41] W2).bind fun r42 =>
  (asB r42.1).bind fun c42 =>
  if c42 then
   some (Xr [i8] r42.2)
  else
  some (Xn [s0_2, as6, i8] r42.2)).bind fun (r : Res) => (r.unblock 1).cont fun vs_2 W3 =>
  let s0_3 := nth vs_2 0
  let as6_1 := nth vs_2 1
  let i8_1 := nth vs_2 2
  (bin .add i8_1 (Vi Ki 1)).bind fun v38 =>
  some (Xn [s0_3, as6_1, v38] W3)
 else
 some (Xx 0 [] W2)
noncomputable def f57.l1 (call : CallF) (vs_5 : List Value) (W6 : World) : Option Res :=
 let chars1_2 := nth vs_5 0
 let v45 := nth vs_5 1
 (Eq_ Zp (Instr.next v45 true 0) W6).bind fun r46 =>
 (Pq Zp (Zx r46.1 0)).bind fun v47 =>
 (asB v47).bind fun c47 =>
 if c47 then
  ((Pq Zp (Zx r46.1 1)).bind fun v48 =>
  (Pq Zp (Zx r46.1 2)).bind fun v49 =>
  (call 94 #[chars1_2, v49] r46.2).bind fun r52 =>
  (bin .geq r52.1 (Vi Ki 0)).bind fun v53 =>
  (asB v53).bind fun c53 =>
  if c53 then
   some (Xr [v48] r52.2)
  else
  some (Xn [chars1_2, v45] r52.2)).bind fun (r : Res) => (r.unblock 3).cont fun vs_6 W7 =>
  let chars1_3 := nth vs_6 0
  let v45_1 := nth vs_6 1
  some (Xn [chars1_3, v45_1] W7)
 else
 some (Xx 2 [] r46.2)
noncomputable def f57 (call : CallF) (s0 : Value) (chars1 : Value) (W0 : World) : Option (Value × World) :=
 ((Pq Zp (do eqGuard .eql 9 (Ot 11) (Oc (Vs { data := #[] })) chars1 (Vs { data := #[] }); binOp .eql 9 chars1 (Vs { data := #[] }))).bind fun v12 =>
 (asB v12).bind fun c12 =>
 if c12 then
  some (Xr [(Vi Ki (-1))] W0)
 else
 (Pq Zp (Yl #[9] 3 #[chars1])).bind fun v14 =>
 (bin .eql v14 (Vi Ki 1)).bind fun v15 =>
 (asB v15).bind fun c15 =>
 if c15 then
  (Pq Zp (Zi 9 chars1 (Vi Ki 0))).bind fun v17 =>
  (Pq Zp (convert 5 21 v17)).bind fun v18 =>
  (bin .geq v18 (Vi Kj 128)).bind fun v20 =>
  (asB v20).bind fun c20 =>
  (if c20 then
   some (Xn [s0, (Vi Kj 65533)] W0)
   else
   some (Xn [s0, v18] W0)).bind fun (r : Res) => r.cont fun vs W1 =>
  let s0_1 := nth vs 0
  let r5 := nth vs 1
  (call 94 #[s0_1, r5] W1).bind fun r23 =>
  some (Xr [r23.1] r23.2)
 else
 (Pq Zp (Yl #[9] 3 #[s0])).bind fun v25 =>
 (call 95 #[v25] W0).bind fun r26 =>
 (asB r26.1).bind fun c26 =>
 (if c26 then
  (call 96 #[chars1] r26.2).bind fun r29 =>
  (Pq Zp (Zx r29.1 0)).bind fun v30 =>
  (Pq Zp (Zx r29.1 1)).bind fun v31 =>
  (Eq_ Zp (Za 175 true (.tuple #[])) r29.2).bind fun r6 =>
  (Eq_ Zp (Zs 175 r6.1 v30) r6.2).bind fun r =>
  (asB v31).bind fun c32 =>
  if c32 then
   (iter (f57.l0 call) [s0, r6.1, (Vi Ki 0)] r.2).bind fun (r : Res) => (r.unblock 0).cont fun vs_3 W4 =>
   some (Xr [(Vi Ki (-1))] W4)
  else
  some (Xn [s0, chars1] r.2)
  else
  some (Xn [s0, chars1] r26.2)).bind fun (r : Res) => r.cont fun vs_4 W5 =>
 let s0_4 := nth vs_4 0
 let chars1_1 := nth vs_4 1
 (Eq_ Zp (Instr.range 9 s0_4) W5).bind fun r45 =>
 (iter (f57.l1 call) [chars1_1, r45.1] r45.2).bind fun (r : Res) => (r.unblock 2).cont fun vs_7 W8 =>
 some (Xr [(Vi Ki (-1))] W8)).bind Res.done
def f58.ann : Ann := (.s .z (.s .z (.s (.s .z (.j [4, 6, 7] .z .z)) (.s .z .z))))
noncomputable def f58 (call : CallF) (r0 : Value) (holds1 : Value) (W0 : World) : Option (Value × World) :=
 ((Eq_ Zp (Za 114 true (.tuple #[])) W0).bind fun r4 =>
 (call 62 #[r0, (Vb false)] r4.2).bind fun r10 =>
 (Pq Zp (Zx r10.1 0)).bind fun v11 =>
 (Pq Zp (Zx r10.1 1)).bind fun v12 =>
 (Eq_ Zp (Za 114 true (.tuple #[])) r10.2).bind fun r6 =>
 (Eq_ Zp (Zs 114 r6.1 v11) r6.2).bind fun r =>
 (Rq Zp (do eqGuard .eql 32 (Ot 13) (Oc Vn) v12 Vn; binOp .eql 32 v12 Vn) r.2).bind fun v14 =>
 (asB v14).bind fun b15 =>
 (if b15 = true then (Pq Zp (Zf 114 r6.1 1)).bind fun v17 =>
  (Rq Zp (Zl 9 v17) r.2).bind fun v18 =>
  (callV call holds1 [v18] r.2).bind fun r19 =>
  (Pq Zp (Op.unary .not r19.1)).bind fun v20 =>
  some (v20, r19.2)
  else some ((Vb false), r.2)).bind fun r21 =>
 (asB r21.1).bind fun c21 =>
 (if c21 then
  (Pq Zp (Zf 114 r6.1 0)).bind fun v22 =>
  (Rq Zp (Zl 3 v22) r21.2).bind fun v23 =>
  (call 23 #[v23, (Vi Ki 193)] r21.2).bind fun r24 =>
  some (Xn [r4.1, r6.1, r24.1] r24.2)
  else
  some (Xn [r4.1, r6.1, v12] r21.2)).bind fun (r : Res) => r.cont fun vs W1 =>
 let v4 := nth vs 0
 let w6 := nth vs 1
 let err7 := nth vs 2
 (Rq Zp (Zl 114 w6) W1).bind fun v25 =>
 (Eq_ Zp (Zs 114 v4 v25) W1).bind fun r_1 =>
 some (Xr [v4, err7] r_1.2)).bind (Res.doneR Zp [.cell 4 114, .tmp 5])
def f59.ann : Ann := (.s .z (.s .z .z))
noncomputable def f59 (call : CallF) (s0 : Value) (W0 : World) : Option (Value × World) :=
 ((Pq Zp (do eqGuard .eql 9 (Ot 3) (Oc (Vs { data := #[108, 105, 115, 116] })) s0 (Vs { data := #[108, 105, 115, 116] }); binOp .eql 9 s0 (Vs { data := #[108, 105, 115, 116] }))).bind fun v4 =>
 some (Xr [v4] W0)).bind Res.done
def f60.ann : Ann := (.s .z (.s .z .z))
noncomputable def f60 (call : CallF) (s0 : Value) (W0 : World) : Option (Value × World) :=
 ((call 61 #[s0] W0).bind fun r4 =>
 (bin .neq r4.1 (Vi Ki 0)).bind fun v5 =>
 some (Xr [v5] r4.2)).bind Res.done
def f61.ann : Ann := (.s .z (.s (.s .z (.b [] (.l [0, 3] (.s (.s .z (.c .z .z)) (.s (.b [0, 3] (.s .z (.c (.s .z .z) .z))) .z))))) (.s .z .z)))
noncomputable def f61.l0 (call : CallF) (vs : List Value) (W1 : World) : Option Res :=
 let s0_1 := nth vs 0
 let r3 := nth vs 1
 (bin .leq r3 (Vi Ki 7)).bind fun v5 =>
 (asB v5).bind fun c5 =>
 if c5 then
  ((call 49 #[r3] W1).bind fun r9 =>
  (Pq Zp (do eqGuard .eql 9 (Ot 9) (Ot 10) r9.1 s0_1; binOp .eql 9 r9.1 s0_1)).bind fun v11 =>
  (asB v11).bind fun c11 =>
  if c11 then
   some (Xr [r3] r9.2)
  else
  some (Xn [s0_1, r3] r9.2)).bind fun (r : Res) => (r.unblock 1).cont fun vs_1 W2 =>
  let s0_2 := nth vs_1 0
  let r3_1 := nth vs_1 1
  (bin .add r3_1 (Vi Ki 1)).bind fun v7 =>
  some (Xn [s0_2, v7] W2)
 else
 some (Xx 0 [] W1)
noncomputable def f61 (call : CallF) (s0 : Value) (W0 : World) : Option (Value × World) :=
 ((iter (f61.l0 call) [s0, (Vi Ki 1)] W0).bind fun (r : Res) => (r.unblock 0).cont fun vs_2 W3 =>
 some (Xr [(Vi Ki 0)] W3)).bind Res.done
def f62.ann : Ann := (.s .z (.s (.s .z (.c (.s .z .z) .z)) (.s .z (.s (.s .z (.c (.s .z .z) .z)) (.s .z (.s (.s .z (.c (.s .z .z) .z)) (.s .z .z)))))))
noncomputable def f62 (call : CallF) (r0 : Value) (text1 : Value) (W0 : World) : Option (Value × World) :=
 ((Eq_ Zp (Za 114 true (.tuple #[])) W0).bind fun r4 =>
 (nilV Zp r0).bind fun v8 =>
 (Pq Zp (Zf 64 v8 0)).bind fun v9 =>
 (Rq Zp (Zl 62 v9) r4.2).bind fun v10 =>
 (Pq Zp (Yl #[62] 3 #[v10])).bind fun v11 =>
 (bin .eql v11 (Vi Ki 0)).bind fun v12 =>
 (asB v12).bind fun c12 =>
 if c12 then
  (Pq Zp (Zb 114 #[])).bind fun v13 =>
  (nilV Zp r0).bind fun v15 =>
  (Pq Zp (Zf 64 v15 1)).bind fun v16 =>
  (Rq Zp (Zl 3 v16) r4.2).bind fun v17 =>
  (call 23 #[v17, (Vi Ki 193)] r4.2).bind fun r18 =>
  (Eq_ Zp (Zs 114 r4.1 v13) r18.2).bind fun r =>
  some (Xr [r4.1, r18.1] r.2)
 else
 (nilV Zp r0).bind fun v20 =>
 (Pq Zp (Zf 64 v20 0)).bind fun v21 =>
 (Rq Zp (Zl 62 v21) r4.2).bind fun v22 =>
 (Pq Zp (Zj 62 v22 (Vi Ki 0))).bind fun v23 =>
 (Rq Zp (Zl 114 v23) r4.2).bind fun v24 =>
 (Eq_ Zp (Za 114 true (.tuple #[])) r4.2).bind fun r6 =>
 (Eq_ Zp (Zs 114 r6.1 v24) r6.2).bind fun r_1 =>
 (Pq Zp (Zf 114 r6.1 3)).bind fun v25 =>
 (Rq Zp (Zl 4 v25) r_1.2).bind fun v26 =>
 (asB v26).bind fun b27 =>
 (if b27 = false then (Pq Zp (Zf 114 r6.1 2)).bind fun v28 =>
  (Rq Zp (Zl 4 v28) r_1.2).bind fun v29 =>
  (Pq Zp (do eqGuard .neq 4 (Ot 29) (Ot 30) v29 text1; binOp .neq 4 v29 text1)).bind fun v31 =>
  some (v31, r_1.2)
  else some ((Vb true), r_1.2)).bind fun r32 =>
 (asB r32.1).bind fun c32 =>
 if c32 then
  (Pq Zp (Zb 114 #[])).bind fun v33 =>
  (Pq Zp (Zf 114 r6.1 0)).bind fun v34 =>
  (Rq Zp (Zl 3 v34) r32.2).bind fun v35 =>
  (call 23 #[v35, (Vi Ki 193)] r32.2).bind fun r36 =>
  (Eq_ Zp (Zs 114 r4.1 v33) r36.2).bind fun r_2 =>
  some (Xr [r4.1, r36.1] r_2.2)
 else
 (nilV Zp r0).bind fun v39 =>
 (Pq Zp (Zf 64 v39 0)).bind fun v40 =>
 (Rq Zp (Zl 62 v40) r32.2).bind fun v41 =>
 (Pq Zp (Zc 62 v41 (some (Vi Ki 1)) none none)).bind fun v42 =>
 (nilV Zp r0).bind fun v43 =>
 (Pq Zp (Zf 64 v43 0)).bind fun v44 =>
 (Eq_ Zp (Zs 62 v44 v42) r32.2).bind fun r_3 =>
 (asB text1).bind fun b46 =>
 (if b46 = true then (Pq Zp (Zf 114 r6.1 1)).bind fun v47 =>
  (Rq Zp (Zl 9 v47) r_3.2).bind fun v48 =>
  (Pq Zp (Yl #[9] 3 #[v48])).bind fun v49 =>
  (bin .gtr v49 (Vi Ki 100)).bind fun v50 =>
  some (v50, r_3.2)
  else some ((Vb false), r_3.2)).bind fun r51 =>
 (asB r51.1).bind fun c51 =>
 if c51 then
  (Pq Zp (Zb 114 #[])).bind fun v52 =>
  (Pq Zp (Zf 114 r6.1 0)).bind fun v53 =>
  (Rq Zp (Zl 3 v53) r51.2).bind fun v54 =>
  (call 23 #[v54, (Vi Ki 191)] r51.2).bind fun r55 =>
  (Eq_ Zp (Zs 114 r4.1 v52) r55.2).bind fun r_4 =>
  some (Xr [r4.1, r55.1] r_4.2)
 else
 (Rq Zp (Zl 114 r6.1) r51.2).bind fun v56 =>
 (Eq_ Zp (Zs 114 r4.1 v56) r51.2).bind fun r_5 =>
 some (Xr [r4.1, Vn] r_5.2)).bind (Res.doneR Zp [.cell 4 114, .tmp 5])
def f63.ann : Ann := (.s .z (.s (.s .z (.c (.s .z .z) .z)) (.s .z .z)))
noncomputable def f63 (call : CallF) (r0 : Value) (W0 : World) : Option (Value × World) :=
 ((nilV Zp r0).bind fun v4 =>
 (Pq Zp (Zf 64 v4 0)).bind fun v5 =>
 (Rq Zp (Zl 62 v5) W0).bind fun v6 =>
 (Pq Zp (Yl #[62] 3 #[v6])).bind fun v7 =>
 (bin .gtr v7 (Vi Ki 0)).bind fun v8 =>
 (asB v8).bind fun c8 =>
 if c8 then
  (nilV Zp r0).bind fun v10 =>
  (Pq Zp (Zf 64 v10 0)).bind fun v11 =>
  (Rq Zp (Zl 62 v11) W0).bind fun v12 =>
  (Pq Zp (Zj 62 v12 (Vi Ki 0))).bind fun v13 =>
  (Pq Zp (Zf 114 v13 0)).bind fun v14 =>
  (Rq Zp (Zl 3 v14) W0).bind fun v15 =>
  (call 23 #[v15, (Vi Ki 193)] W0).bind fun r16 =>
  some (Xr [r16.1] r16.2)
 else
 some (Xr [Vn] W0)).bind Res.done
def f64.ann : Ann := (.s .z (.s .z .z))
noncomputable def f64 (call : CallF) (s0 : Value) (W0 : World) : Option (Value × World) :=
 ((Pq Zp (do eqGuard .eql 9 (Ot 3) (Oc (Vs { data := #[99, 117, 116] })) s0 (Vs { data := #[99, 117, 116] }); binOp .eql 9 s0 (Vs { data := #[99, 117, 116] }))).bind fun v4 =>
 (asB v4).bind fun b5 =>
 (if b5 = false then (Pq Zp (do eqGuard .eql 9 (Ot 6) (Oc (Vs { data := #[102, 97, 100, 101] })) s0 (Vs { data := #[102, 97, 100, 101] }); binOp .eql 9 s0 (Vs { data := #[102, 97, 100, 101] }))).bind fun v7 =>
  some (v7, W0)
  else some ((Vb true), W0)).bind fun r8 =>
 some (Xr [r8.1] r8.2)).bind Res.done
def f65.ann : Ann := (.s .z (.s .z (.s .z .z)))
noncomputable def f65 (call : CallF) (s0 : Value) (W0 : World) : Option (Value × World) :=
 ((call 66 #[s0] W0).bind fun r7 =>
 (Pq Zp (Zx r7.1 0)).bind fun v8 =>
 (Pq Zp (Zx r7.1 1)).bind fun v9 =>
 (Rq Zp (do eqGuard .eql 32 (Ot 10) (Oc Vn) v9 Vn; binOp .eql 32 v9 Vn) r7.2).bind fun v11 =>
 (asB v11).bind fun b12 =>
 (if b12 = true then (bin .geq v8 (Vi Ki 1)).bind fun v14 =>
  some (v14, r7.2)
  else some ((Vb false), r7.2)).bind fun r15 =>
 (asB r15.1).bind fun b16 =>
 (if b16 = true then (bin .leq v8 (Vi Ki 100)).bind fun v18 =>
  some (v18, r15.2)
  else some ((Vb false), r15.2)).bind fun r19 =>
 (asB r19.1).bind fun b20 =>
 (if b20 = true then (call 91 #[v8] r19.2).bind fun r22 =>
  (Pq Zp (do eqGuard .eql 9 (Ot 22) (Ot 23) r22.1 s0; binOp .eql 9 r22.1 s0)).bind fun v24 =>
  some (v24, r22.2)
  else some ((Vb false), r19.2)).bind fun r25 =>
 some (Xr [r25.1] r25.2)).bind Res.done
def f66.ann : Ann := (.s .z (.s .z (.s (.s .z (.c (.s .z .z) .z)) (.s .z .z))))
noncomputable def f66 (call : CallF) (s0 : Value) (W0 : World) : Option (Value × World) :=
 ((call 98 #[s0] W0).bind fun r8 =>
 (Pq Zp (Zx r8.1 0)).bind fun v9 =>
 (Pq Zp (Zx r8.1 1)).bind fun v10 =>
 (Rq Zp (do eqGuard .neq 32 (Ot 11) (Oc Vn) v10 Vn; binOp .neq 32 v10 Vn) r8.2).bind fun v12 =>
 (asB v12).bind fun c12 =>
 if c12 then
  (call 99 #[(Vs { data := #[65, 116, 111, 105] }), s0, (Vi Ki 0), (Vi Ki 0), v10] r8.2).bind fun r16 =>
  some (Xr [v9, r16.1] r16.2)
 else
 some (Xr [v9, Vn] r8.2)).bind Res.done
def f67.ann : Ann := (.s .z (.s (.s .z (.b [0] (.l [0, 6, 7] (.s .z (.s (.c .z .z) (.s (.b [0, 6, 7] (.s .z (.s .z (.s .z (.c (.s .z .z) .z))))) .z)))))) (.s .z .z)))
noncomputable def f67.l0 (call : CallF) (vs : List Value) (W1 : World) : Option Res :=
 let s0_1 := nth vs 0
 let v6_1 := nth vs 1
 let v7 := nth vs 2
 (bin .lss v7 v6_1).bind fun v8 =>
 (asB v8).bind fun c8 =>
 if c8 then
  ((Pq Zp (Zi 9 s0_1 v7)).bind fun v12 =>
  (bin .lss v12 (Vi Ku 97)).bind fun v14 =>
  (asB v14).bind fun b15 =>
  (if b15 = false then (bin .gtr v12 (Vi Ku 122)).bind fun v17 =>
   some (v17, W1)
   else some ((Vb true), W1)).bind fun r18 =>
  (asB r18.1).bind fun b19 =>
  (if b19 = true then (bin .lss v12 (Vi Ku 48)).bind fun v21 =>
   (asB v21).bind fun b22 =>
   (if b22 = false then (bin .gtr v12 (Vi Ku 57)).bind fun v24 =>
    some (v24, r18.2)
    else some ((Vb true), r18.2)).bind fun r25 =>
   some (r25.1, r25.2)
   else some ((Vb false), r18.2)).bind fun r26 =>
  (asB r26.1).bind fun b27 =>
  (if b27 = true then (bin .neq v12 (Vi Ku 95)).bind fun v29 =>
   some (v29, r26.2)
   else some ((Vb false), r26.2)).bind fun r30 =>
  (asB r30.1).bind fun b31 =>
  (if b31 = true then (bin .neq v12 (Vi Ku 45)).bind fun v33 =>
   some (v33, r30.2)
   else some ((Vb false), r30.2)).bind fun r34 =>
  (asB r34.1).bind fun c34 =>
  if c34 then
   some (Xr [(Vb false)] r34.2)
  else
  some (Xn [s0_1, v6_1, v7] r34.2)).bind fun (r : Res) => (r.unblock 1).cont fun vs_1 W2 =>
  let s0_2 := nth vs_1 0
  let v6_2 := nth vs_1 1
  let v7_1 := nth vs_1 2
  (bin .add v7_1 (Vi Ki 1)).bind fun v35 =>
  some (Xn [s0_2, v6_2, v35] W2)
 else
 some (Xx 0 [s0_1] W1)
noncomputable def f67 (call : CallF) (s0 : Value) (W0 : World) : Option (Value × World) :=
 ((Pq Zp (Yl #[9] 3 #[s0])).bind fun v6 =>
 (iter (f67.l0 call) [s0, v6, (Vi Ki 0)] W0).bind fun (r : Res) => (r.unblock 0).cont fun vs_2 W3 =>
 let s0_3 := nth vs_2 0
 (Pq Zp (Yl #[9] 3 #[s0_3])).bind fun v37 =>
 (bin .geq v37 (Vi Ki 1)).bind fun v38 =>
 (asB v38).bind fun b39 =>
 (if b39 = true then (Pq Zp (Yl #[9] 3 #[s0_3])).bind fun v41 =>
  (bin .leq v41 (Vi Ki 16)).bind fun v42 =>
  some (v42, W3)
  else some ((Vb false), W3)).bind fun r43 =>
 some (Xr [r43.1] r43.2)).bind Res.done
def f68.ann : Ann := (.s .z (.s .z (.s (.s .z (.c (.s .z .z) .z)) (.s .z (.s .z (.s (.s .z (.c (.s .z .z) .z)) (.s .z .z)))))))
noncomputable def f68 (call : CallF) (r0 : Value) (rate1 : Value) (W0 : World) : Option (Value × World) :=
 ((Eq_ Zp (Za 114 true (.tuple #[])) W0).bind fun r5 =>
 (call 62 #[r0, (Vb false)] r5.2).bind fun r13 =>
 (Pq Zp (Zx r13.1 0)).bind fun v14 =>
 (Pq Zp (Zx r13.1 1)).bind fun v15 =>
 (Eq_ Zp (Za 114 true (.tuple #[])) r13.2).bind fun r7 =>
 (Eq_ Zp (Zs 114 r7.1 v14) r7.2).bind fun r =>
 (Rq Zp (do eqGuard .neq 32 (Ot 16) (Oc Vn) v15 Vn; binOp .neq 32 v15 Vn) r.2).bind fun v17 =>
 (asB v17).bind fun c17 =>
 if c17 then
  ((Rq Zp (Zl 114 r7.1) r.2.drew).bind fun v18 =>
  some (v18, r.2.drew)).bind fun r18 =>
  ((Eq_ Zp (Zs 114 r5.1 r18.1) r18.2).bind fun r_2 =>
  some (undef, r_2.2)).bind fun r_1 =>
  chkThen (True)
  (some (Xr [(Vi Ki 0), r5.1, v15] r_1.2))
 else
 (Pq Zp (Zf 114 r7.1 1)).bind fun v22 =>
 (Rq Zp (Zl 9 v22) r.2).bind fun v23 =>
 (call 100 #[rate1, v23] r.2).bind fun r24 =>
 (Pq Zp (Zx r24.1 0)).bind fun v25 =>
 (Pq Zp (Zx r24.1 1)).bind fun v26 =>
 (Eq_ Zp (Za 82 true (.tuple #[])) r24.2).bind fun r10 =>
 (Pq Zp (Zm 85 r10.1)).bind fun v28 =>
 (call 34 #[v26, v28] r10.2).bind fun r29 =>
 (asB r29.1).bind fun c29 =>
 if c29 then
  ((Rq Zp (Zl 114 r7.1) r29.2.drew).bind fun v30 =>
  some (v30, r29.2.drew)).bind fun r30 =>
  ((Pq Zp (Zf 114 r7.1 0)).bind fun v31 =>
  some (v31, r30.2)).bind fun r31 =>
  ((Rq Zp (Zl 3 r31.1) r31.2).bind fun v32 =>
  some (v32, r31.2)).bind fun r32 =>
  ((call 23 #[r32.1, (Vi Ki 194)] r32.2).bind fun r33_1 =>
  some (r33_1.1, r33_1.2)).bind fun r33 =>
  ((Eq_ Zp (Zs 114 r5.1 r30.1) r33.2).bind fun r_4 =>
  some (undef, r_4.2)).bind fun r_3 =>
  chkThen ((((Rq Zp (Zl 114 r7.1) r32.2).bind fun v30_1 => some v30_1) = some r30.1 ∧ ((Rq Zp (Zl 114 r7.1) r33.2).bind fun v30_2 => some v30_2) = some r30.1) ∧ True)
  (some (Xr [(Vi Ki 0), r5.1, r33.1] r_3.2))
 else
 (Rq Zp (Zl 114 r7.1) r29.2.drew).bind fun v35 =>
 (Eq_ Zp (Zs 114 r5.1 v35) r29.2.drew).bind fun r_5 =>
 some (Xr [v25, r5.1, Vn] r_5.2)).bind (Res.doneR Zp [.tmp 4, .cell 5 114, .tmp 6])
def f69.ann : Ann := (.s .z (.s .z (.s .z (.s .z (.s .z (.s (.b [0, 1, 5, 6, 7, 8] (.s .z (.c (.s .z .z) (.s .z (.c .z (.s .z (.c .z (.s .z (.c .z (.s .z .z)))))))))) (.s (.s .z (.b [0, 1, 6, 7, 8] (.s .z (.c .z (.s .z (.c .z (.s .z (.c .z (.s .z (.c .z .z)))))))))) (.s (.s .z (.c (.s .z .z) .z)) (.s (.s .z (.b [6] (.l [0, 1, 6, 9] (.s (.s .z (.c .z .z)) (.s (.b [0, 1, 6, 9] (.s .z (.c (.s .z .z) .z))) .z))))) (.s .z .z))))))))))
noncomputable def f69.l0 (call : CallF) (vs_2 : List Value) (W3 : World) : Option Res :=
 let s0_3 := nth vs_2 0
 let at1_3 := nth vs_2 1
 let n6_2 := nth vs_2 2
 let i9 := nth vs_2 3
 (bin .add at1_3 n6_2).bind fun v76 =>
 (bin .lss i9 v76).bind fun v77 =>
 (asB v77).bind fun c77 =>
 if c77 then
  ((Pq Zp (Zi 9 s0_3 i9)).bind fun v82 =>
  (bin .lss v82 (Vi Ku 128)).bind fun v83 =>
  (asB v83).bind fun b84 =>
  (if b84 = false then (Pq Zp (Zi 9 s0_3 i9)).bind fun v87 =>
   (bin .gtr v87 (Vi Ku 191)).bind fun v88 =>
   some (v88, W3)
   else some ((Vb true), W3)).bind fun r89 =>
  (asB r89.1).bind fun c89 =>
  if c89 then
   some (Xr [(Vi Ki 0)] r89.2)
  else
  some (Xn [s0_3, at1_3, n6_2, i9] r89.2)).bind fun (r : Res) => (r.unblock 3).cont fun vs_3 W4 =>
  let s0_4 := nth vs_3 0
  let at1_4 := nth vs_3 1
  let n6_3 := nth vs_3 2
  let i9_1 := nth vs_3 3
  (bin .add i9_1 (Vi Ki 1)).bind fun v79 =>
  some (Xn [s0_4, at1_4, n6_3, v79] W4)
 else
 some (Xx 2 [n6_2] W3)
noncomputable def f69 (call : CallF) (s0 : Value) (at1 : Value) (W0 : World) : Option (Value × World) :=
 ((Pq Zp (Zi 9 s0 at1)).bind fun v12 =>
 (Pq Zp (convert 5 3 v12)).bind fun v13 =>
 ((bin .lss v13 (Vi Ki 128)).bind fun v16 =>
 (asB v16).bind fun c14 =>
 if c14 then
  some (Xr [(Vi Ki 1)] W0)
 else
 (bin .geq v13 (Vi Ki 194)).bind fun v19 =>
 (asB v19).bind fun b20 =>
 (if b20 = true then (bin .leq v13 (Vi Ki 223)).bind fun v22 =>
  some (v22, W0)
  else some ((Vb false), W0)).bind fun r23 =>
 (asB r23.1).bind fun c17 =>
 if c17 then
  some (Xn [s0, at1, v13, (Vi Ki 2), (Vi Ki 128), (Vi Ki 191)] r23.2)
 else
 (bin .geq v13 (Vi Ki 224)).bind fun v26 =>
 (asB v26).bind fun b27 =>
 (if b27 = true then (bin .leq v13 (Vi Ki 239)).bind fun v29 =>
  some (v29, r23.2)
  else some ((Vb false), r23.2)).bind fun r30 =>
 (asB r30.1).bind fun c24 =>
 if c24 then
  some (Xn [s0, at1, v13, (Vi Ki 3), (Vi Ki 128), (Vi Ki 191)] r30.2)
 else
 (bin .geq v13 (Vi Ki 240)).bind fun v33 =>
 (asB v33).bind fun b34 =>
 (if b34 = true then (bin .leq v13 (Vi Ki 244)).bind fun v36 =>
  some (v36, r30.2)
  else some ((Vb false), r30.2)).bind fun r37 =>
 (asB r37.1).bind fun c31 =>
 if c31 then
  some (Xn [s0, at1, v13, (Vi Ki 4), (Vi Ki 128), (Vi Ki 191)] r37.2)
 else
 some (Xr [(Vi Ki 0)] r37.2)).bind fun (r : Res) => (r.unblock 0).cont fun vs W1 =>
 let s0_1 := nth vs 0
 let at1_1 := nth vs 1
 let c5 := nth vs 2
 let n6 := nth vs 3
 let low7 := nth vs 4
 let high8 := nth vs 5
 ((bin .eql c5 (Vi Ki 224)).bind fun v40 =>
 (asB v40).bind fun c39 =>
 if c39 then
  some (Xn [s0_1, at1_1, n6, (Vi Ki 160), high8] W1)
 else
 (bin .eql c5 (Vi Ki 237)).bind fun v42 =>
 (asB v42).bind fun c41 =>
 if c41 then
  some (Xn [s0_1, at1_1, n6, low7, (Vi Ki 159)] W1)
 else
 (bin .eql c5 (Vi Ki 240)).bind fun v44 =>
 (asB v44).bind fun c43 =>
 if c43 then
  some (Xn [s0_1, at1_1, n6, (Vi Ki 144), high8] W1)
 else
 (bin .eql c5 (Vi Ki 244)).bind fun v46 =>
 (asB v46).bind fun c45 =>
 if c45 then
  some (Xn [s0_1, at1_1, n6, low7, (Vi Ki 143)] W1)
 else
 some (Xn [s0_1, at1_1, n6, low7, high8] W1)).bind fun (r : Res) => (r.unblock 1).cont fun vs_1 W2 =>
 let s0_2 := nth vs_1 0
 let at1_2 := nth vs_1 1
 let n6_1 := nth vs_1 2
 let low7_1 := nth vs_1 3
 let high8_1 := nth vs_1 4
 (bin .add at1_2 n6_1).bind fun v49 =>
 (Pq Zp (Yl #[9] 3 #[s0_2])).bind fun v51 =>
 (bin .gtr v49 v51).bind fun v52 =>
 (asB v52).bind fun b53 =>
 (if b53 = false then (bin .add at1_2 (Vi Ki 1)).bind fun v56 =>
  (Pq Zp (Zi 9 s0_2 v56)).bind fun v57 =>
  (Pq Zp (convert 5 3 v57)).bind fun v58 =>
  (bin .lss v58 low7_1).bind fun v60 =>
  some (v60, W2)
  else some ((Vb true), W2)).bind fun r61 =>
 (asB r61.1).bind fun b62 =>
 (if b62 = false then (bin .add at1_2 (Vi Ki 1)).bind fun v65 =>
  (Pq Zp (Zi 9 s0_2 v65)).bind fun v66 =>
  (Pq Zp (convert 5 3 v66)).bind fun v67 =>
  (bin .gtr v67 high8_1).bind fun v69 =>
  some (v69, r61.2)
  else some ((Vb true), r61.2)).bind fun r70 =>
 (asB r70.1).bind fun c70 =>
 if c70 then
  some (Xr [(Vi Ki 0)] r70.2)
 else
 (bin .add at1_2 (Vi Ki 2)).bind fun v72 =>
 (iter (f69.l0 call) [s0_2, at1_2, n6_1, v72] r70.2).bind fun (r : Res) => (r.unblock 2).cont fun vs_4 W5 =>
 let n6_4 := nth vs_4 0
 some (Xr [n6_4] W5)).bind Res.done
def f70.ann : Ann := (.s .z (.s .z (.s .z (.s (.b [4, 6, 7] (.l [0, 4, 6, 7] (.s (.s .z (.c .z .z)) (.b [0, 4, 6, 7] (.s (.s .z (.c (.s .z (.s .z .z)) .z)) (.s (.s .z (.c (.s .z (.s .z .z)) .z)) (.s (.s .z (.c (.s .z .z) .z)) (.s (.s .z (.j [0, 4, 6, 7] .z .z)) .z)))))))) (.s .z .z)))))
noncomputable def f70.l0 (call : CallF) (vs : List Value) (W1 : World) : Option Res :=
 let s0_1 := nth vs 0
 let v4 := nth vs 1
 let w6 := nth vs 2
 let i7 := nth vs 3
 (Pq Zp (Yl #[9] 3 #[s0_1])).bind fun v14 =>
 (bin .lss i7 v14).bind fun v15 =>
 (asB v15).bind fun b16 =>
 (if b16 = true then (Pq Zp (Zi 9 s0_1 i7)).bind fun v19 =>
  (bin .neq v19 (Vi Ku 10)).bind fun v20 =>
  some (v20, W1)
  else some ((Vb false), W1)).bind fun r21 =>
 (asB r21.1).bind fun c21 =>
 if c21 then
  ((Pq Zp (Zi 9 s0_1 i7)).bind fun v24 =>
  (bin .eql v24 (Vi Ku 34)).bind fun v25 =>
  (asB v25).bind fun c25 =>
  if c25 then
   (Pq Zp (Zf 74 w6 3)).bind fun v26 =>
   (Eq_ Zp (Zs 4 v26 (Vb true)) r21.2).bind fun r_1 =>
   (Rq Zp (Zl 74 w6) r_1.2).bind fun v27 =>
   (bin .add i7 (Vi Ki 1)).bind fun v29 =>
   (Eq_ Zp (Zs 74 v4 v27) r_1.2).bind fun r_2 =>
   some (Xr [v4, v29] r_2.2)
  else
  (Pq Zp (Zi 9 s0_1 i7)).bind fun v32 =>
  (bin .neq v32 (Vi Ku 92)).bind fun v33 =>
  (asB v33).bind fun c33 =>
  if c33 then
   (Pq Zp (Zf 74 w6 2)).bind fun v34 =>
   (Rq Zp (Zl 9 v34) r21.2.drew).bind fun v35 =>
   (bin .add i7 (Vi Ki 1)).bind fun v39 =>
   (Pq Zp (Zc 9 s0_1 (some i7) (some v39) none)).bind fun v40 =>
   (Pq Zp (do eqGuard .add 9 (Ot 35) (Ot 40) v35 v40; binOp .add 9 v35 v40)).bind fun v41 =>
   (Pq Zp (Zf 74 w6 2)).bind fun v42 =>
   (Eq_ Zp (Zs 9 v42 v41) r21.2.drew).bind fun r_3 =>
   (bin .add i7 (Vi Ki 1)).bind fun v44 =>
   some (Xx 1 [s0_1, v4, w6, v44] r_3.2)
  else
  (bin .add i7 (Vi Ki 1)).bind fun v46 =>
  (Pq Zp (Yl #[9] 3 #[s0_1])).bind fun v48 =>
  (bin .geq v46 v48).bind fun v49 =>
  (asB v49).bind fun b50 =>
  (if b50 = false then (bin .add i7 (Vi Ki 1)).bind fun v53 =>
   (Pq Zp (Zi 9 s0_1 v53)).bind fun v54 =>
   (bin .neq v54 (Vi Ku 34)).bind fun v55 =>
   (asB v55).bind fun b56 =>
   (if b56 = true then (bin .add i7 (Vi Ki 1)).bind fun v59 =>
    (Pq Zp (Zi 9 s0_1 v59)).bind fun v60 =>
    (bin .neq v60 (Vi Ku 92)).bind fun v61 =>
    some (v61, r21.2)
    else some ((Vb false), r21.2)).bind fun r62 =>
   (asB r62.1).bind fun b63 =>
   (if b63 = true then (bin .add i7 (Vi Ki 1)).bind fun v66 =>
    (Pq Zp (Zi 9 s0_1 v66)).bind fun v67 =>
    (bin .neq v67 (Vi Ku 110)).bind fun v68 =>
    some (v68, r62.2)
    else some ((Vb false), r62.2)).bind fun r69 =>
   some (r69.1, r69.2)
   else some ((Vb true), r21.2)).bind fun r70 =>
  (asB r70.1).bind fun c70 =>
  if c70 then
   (Rq Zp (Zl 74 w6) r70.2).bind fun v71 =>
   (Eq_ Zp (Zs 74 v4 v71) r70.2).bind fun r_4 =>
   some (Xr [v4, i7] r_4.2)
  else
  (bin .add i7 (Vi Ki 1)).bind fun v75 =>
  (Pq Zp (Zi 9 s0_1 v75)).bind fun v76 =>
  (bin .eql v76 (Vi Ku 110)).bind fun v77 =>
  (asB v77).bind fun c77 =>
  (if c77 then
   (Pq Zp (Zf 74 w6 2)).bind fun v78 =>
   (Rq Zp (Zl 9 v78) r70.2).bind fun v79 =>
   (Pq Zp (do eqGuard .add 9 (Ot 79) (Oc (Vs { data := #[10] })) v79 (Vs { data := #[10] }); binOp .add 9 v79 (Vs { data := #[10] }))).bind fun v80 =>
   (Pq Zp (Zf 74 w6 2)).bind fun v81 =>
   (Eq_ Zp (Zs 9 v81 v80) r70.2).bind fun r_5 =>
   some (Xn [s0_1, v4, w6, i7] r_5.2)
   else
   (Pq Zp (Zf 74 w6 2)).bind fun v82 =>
   (Rq Zp (Zl 9 v82) r70.2.drew).bind fun v83 =>
   (bin .add i7 (Vi Ki 1)).bind fun v86 =>
   (bin .add i7 (Vi Ki 2)).bind fun v88 =>
   (Pq Zp (Zc 9 s0_1 (some v86) (some v88) none)).bind fun v89 =>
   (Pq Zp (do eqGuard .add 9 (Ot 83) (Ot 89) v83 v89; binOp .add 9 v83 v89)).bind fun v90 =>
   (Pq Zp (Zf 74 w6 2)).bind fun v91 =>
   (Eq_ Zp (Zs 9 v91 v90) r70.2.drew).bind fun r_6 =>
   some (Xn [s0_1, v4, w6, i7] r_6.2)).bind fun (r : Res) => r.cont fun vs_1 W2 =>
  let s0_2 := nth vs_1 0
  let v4_1 := nth vs_1 1
  let w6_1 := nth vs_1 2
  let i7_1 := nth vs_1 3
  (bin .add i7_1 (Vi Ki 2)).bind fun v93 =>
  some (Xn [s0_2, v4_1, w6_1, v93] W2)).bind fun (r : Res) => (r.unblock 1).cont fun vs_2 W3 =>
  let s0_3 := nth vs_2 0
  let v4_2 := nth vs_2 1
  let w6_2 := nth vs_2 2
  let i7_2 := nth vs_2 3
  some (Xn [s0_3, v4_2, w6_2, i7_2] W3)
 else
 some (Xx 0 [v4, w6, i7] r21.2)
noncomputable def f70 (call : CallF) (s0 : Value) (at1 : Value) (W0 : World) : Option (Value × World) :=
 ((Eq_ Zp (Za 74 true (.tuple #[])) W0).bind fun r4 =>
 (Pq Zp (Zb 74 #[(0, at1), (1, (Vb true))])).bind fun v9 =>
 (Eq_ Zp (Za 74 true (.tuple #[])) r4.2).bind fun r6 =>
 (Eq_ Zp (Zs 74 r6.1 v9) r6.2).bind fun r =>
 (bin .add at1 (Vi Ki 1)).bind fun v11 =>
 (iter (f70.l0 call) [s0, r4.1, r6.1, v11] r.2).bind fun (r : Res) => (r.unblock 0).cont fun vs_3 W4 =>
 let v4_3 := nth vs_3 0
 let w6_3 := nth vs_3 1
 let i7_3 := nth vs_3 2
 (Rq Zp (Zl 74 w6_3) W4).bind fun v94 =>
 (Eq_ Zp (Zs 74 v4_3 v94) W4).bind fun r_7 =>
 some (Xr [v4_3, i7_3] r_7.2)).bind (Res.doneR Zp [.cell 4 74, .tmp 5])
def f71.ann : Ann := (.s .z (.s (.s .z (.c (.s .z .z) .z)) (.s (.s .z (.c (.s .z .z) .z)) (.s .z .z))))
noncomputable def f71 (call : CallF) (l0 : Value) (end1 : Value) (k2 : Value) (W0 : World) : Option (Value × World) :=
 ((Eq_ Zp (Za 76 true (.tuple #[])) W0).bind fun r7 =>
 (Pq Zp (Yl #[70] 3 #[l0])).bind fun v11 =>
 (bin .geq k2 v11).bind fun v12 =>
 (asB v12).bind fun c12 =>
 if c12 then
  (Pq Zp (Zb 76 #[(0, end1), (1, (Vi Ki 193))])).bind fun v14 =>
  (Eq_ Zp (Zs 76 r7.1 v14) r7.2).bind fun r =>
  some (Xr [(Vs { data := #[] }), r7.1, (Vb false)] r.2)
 else
 (Pq Zp (Zj 70 l0 k2)).bind fun v17 =>
 (Pq Zp (Zf 74 v17 1)).bind fun v18 =>
 (Rq Zp (Zl 4 v18) r7.2).bind fun v19 =>
 (asB v19).bind fun c19 =>
 if c19 then
  (Pq Zp (Zj 70 l0 k2)).bind fun v22 =>
  (Pq Zp (Zf 74 v22 0)).bind fun v23 =>
  (Rq Zp (Zl 3 v23) r7.2.drew).bind fun v24 =>
  (Pq Zp (Zb 76 #[(0, v24), (1, (Vi Ki 193))])).bind fun v25 =>
  (Eq_ Zp (Zs 76 r7.1 v25) r7.2.drew).bind fun r_1 =>
  some (Xr [(Vs { data := #[] }), r7.1, (Vb false)] r_1.2)
 else
 (Pq Zp (Zj 70 l0 k2)).bind fun v28 =>
 (Pq Zp (Zf 74 v28 2)).bind fun v29 =>
 (Rq Zp (Zl 9 v29) r7.2).bind fun v30 =>
 (Pq Zp (Zb 76 #[])).bind fun v31 =>
 (Eq_ Zp (Zs 76 r7.1 v31) r7.2).bind fun r_2 =>
 some (Xr [v30, r7.1, (Vb true)] r_2.2)).bind (Res.doneR Zp [.tmp 6, .cell 7 76, .tmp 8])
def f72.ann : Ann := (.s .z (.s (.s .z (.c (.s .z .z) .z)) (.s (.s .z (.c (.s .z .z) .z)) (.s (.s .z (.c (.s .z .z) .z)) (.s .z .z)))))
noncomputable def f72 (call : CallF) (l0 : Value) (end1 : Value) (k2 : Value) (W0 : World) : Option (Value × World) :=
 ((Eq_ Zp (Za 76 true (.tuple #[])) W0).bind fun r7 =>
 (Pq Zp (Yl #[70] 3 #[l0])).bind fun v11 =>
 (bin .geq k2 v11).bind fun v12 =>
 (asB v12).bind fun c12 =>
 if c12 then
  (Pq Zp (Zb 76 #[(0, end1), (1, (Vi Ki 193))])).bind fun v14 =>
  (Eq_ Zp (Zs 76 r7.1 v14) r7.2).bind fun r =>
  some (Xr [(Vs { data := #[] }), r7.1, (Vb false)] r.2)
 else
 (Pq Zp (Zj 70 l0 k2)).bind fun v17 =>
 (Pq Zp (Zf 74 v17 1)).bind fun v18 =>
 (Rq Zp (Zl 4 v18) r7.2).bind fun v19 =>
 (Pq Zp (Op.unary .not v19)).bind fun v20 =>
 (asB v20).bind fun b21 =>
 (if b21 = false then (Pq Zp (Zj 70 l0 k2)).bind fun v24 =>
  (Pq Zp (Zf 74 v24 3)).bind fun v25 =>
  (Rq Zp (Zl 4 v25) r7.2).bind fun v26 =>
  (Pq Zp (Op.unary .not v26)).bind fun v27 =>
  some (v27, r7.2)
  else some ((Vb true), r7.2)).bind fun r28 =>
 (asB r28.1).bind fun c28 =>
 if c28 then
  (Pq Zp (Zj 70 l0 k2)).bind fun v31 =>
  (Pq Zp (Zf 74 v31 0)).bind fun v32 =>
  (Rq Zp (Zl 3 v32) r28.2.drew).bind fun v33 =>
  (Pq Zp (Zb 76 #[(0, v33), (1, (Vi Ki 193))])).bind fun v34 =>
  (Eq_ Zp (Zs 76 r7.1 v34) r28.2.drew).bind fun r_1 =>
  some (Xr [(Vs { data := #[] }), r7.1, (Vb false)] r_1.2)
 else
 (Pq Zp (Zj 70 l0 k2)).bind fun v37 =>
 (Pq Zp (Zf 74 v37 2)).bind fun v38 =>
 (Rq Zp (Zl 9 v38) r28.2).bind fun v39 =>
 (Pq Zp (Yl #[9] 3 #[v39])).bind fun v40 =>
 (bin .gtr v40 (Vi Ki 100)).bind fun v41 =>
 (asB v41).bind fun c41 =>
 if c41 then
  (Pq Zp (Zj 70 l0 k2)).bind fun v44 =>
  (Pq Zp (Zf 74 v44 0)).bind fun v45 =>
  (Rq Zp (Zl 3 v45) r28.2.drew).bind fun v46 =>
  (Pq Zp (Zb 76 #[(0, v46), (1, (Vi Ki 191))])).bind fun v47 =>
  (Eq_ Zp (Zs 76 r7.1 v47) r28.2.drew).bind fun r_2 =>
  some (Xr [(Vs { data := #[] }), r7.1, (Vb false)] r_2.2)
 else
 (Pq Zp (Zj 70 l0 k2)).bind fun v50 =>
 (Pq Zp (Zf 74 v50 2)).bind fun v51 =>
 (Rq Zp (Zl 9 v51) r28.2).bind fun v52 =>
 (Pq Zp (Zb 76 #[])).bind fun v53 =>
 (Eq_ Zp (Zs 76 r7.1 v53) r28.2).bind fun r_3 =>
 some (Xr [v52, r7.1, (Vb true)] r_3.2)).bind (Res.doneR Zp [.tmp 6, .cell 7 76, .tmp 8])
def f73.ann : Ann := (.s .z (.s .z (.s .z (.s (.s .z (.c (.s .z .z) .z)) (.s (.s .z (.c (.s .z .z) .z)) (.s .z (.s (.s .z (.j [0, 1, 4, 6, 7, 9, 11] (.s .z (.s (.s .z (.c (.s .z .z) .z)) (.s .z (.s (.s .z (.c (.s .z .z) .z)) .z)))) .z)) (.s .z (.s (.s .z (.c (.s .z .z) .z)) (.s .z (.s (.s .z (.c (.s .z .z) .z)) (.s .z (.s .z .z)))))))))))))
noncomputable def f73 (call : CallF) (l0 : Value) (end1 : Value) (W0 : World) : Option (Value × World) :=
 ((Eq_ Zp (Za 51 true (.tuple #[])) W0).bind fun r4 =>
 (Eq_ Zp (Za 76 true (.tuple #[])) r4.2).bind fun r6 =>
 (Eq_ Zp (Za 51 true (.tuple #[])) r6.2).bind fun r7 =>
 (call 71 #[l0, end1, (Vi Ki 0)] r7.2).bind fun r16 =>
 (Pq Zp (Zx r16.1 0)).bind fun v17 =>
 (Pq Zp (Zx r16.1 1)).bind fun v18 =>
 (Pq Zp (Zx r16.1 2)).bind fun v19 =>
 (Eq_ Zp (Za 76 true (.tuple #[])) r16.2).bind fun r9 =>
 (Eq_ Zp (Zs 76 r9.1 v18) r9.2).bind fun r =>
 (Pq Zp (Op.unary .not v19)).bind fun v21 =>
 (asB v21).bind fun c21 =>
 if c21 then
  ((Rq Zp (Zl 51 r7.1) r.2.drew).bind fun v22 =>
  some (v22, r.2.drew)).bind fun r22 =>
  ((Rq Zp (Zl 76 r9.1) r22.2).bind fun v23 =>
  some (v23, r22.2)).bind fun r23 =>
  ((Eq_ Zp (Zs 51 r4.1 r22.1) r23.2).bind fun r_2 =>
  some (undef, r_2.2)).bind fun r_1 =>
  ((Eq_ Zp (Zs 76 r6.1 r23.1) r_1.2).bind fun r_4 =>
  some (undef, r_4.2)).bind fun r_3 =>
  chkThen ((((Rq Zp (Zl 76 r9.1) r23.2).bind fun v23_1 => some v23_1) = some r23.1 ∧ ((Rq Zp (Zl 76 r9.1) r_1.2).bind fun v23_2 => some v23_2) = some r23.1) ∧ True)
  (some (Xr [r4.1, (Vi Ki 0), r6.1] r_3.2))
 else
 (Pq Zp (do eqGuard .neq 9 (Ot 24) (Oc (Vs { data := #[99, 117, 116] })) v17 (Vs { data := #[99, 117, 116] }); binOp .neq 9 v17 (Vs { data := #[99, 117, 116] }))).bind fun v25 =>
 (asB v25).bind fun b26 =>
 (if b26 = true then (Pq Zp (do eqGuard .neq 9 (Ot 27) (Oc (Vs { data := #[102, 97, 100, 101] })) v17 (Vs { data := #[102, 97, 100, 101] }); binOp .neq 9 v17 (Vs { data := #[102, 97, 100, 101] }))).bind fun v28 =>
  some (v28, r.2)
  else some ((Vb false), r.2)).bind fun r29 =>
 (asB r29.1).bind fun c29 =>
 if c29 then
  ((Rq Zp (Zl 51 r7.1) r29.2.drew).bind fun v30 =>
  some (v30, r29.2.drew)).bind fun r30 =>
  ((Pq Zp (Zj 70 l0 (Vi Ki 0))).bind fun v32 =>
  some (v32, r30.2)).bind fun r32 =>
  ((Pq Zp (Zf 74 r32.1 0)).bind fun v33 =>
  some (v33, r32.2)).bind fun r33 =>
  ((Rq Zp (Zl 3 r33.1) r33.2).bind fun v34 =>
  some (v34, r33.2)).bind fun r34 =>
  ((Pq Zp (Zb 76 #[(0, r34.1), (1, (Vi Ki 193))])).bind fun v35 =>
  some (v35, r34.2)).bind fun r35 =>
  ((Eq_ Zp (Zs 51 r4.1 r30.1) r35.2).bind fun r_6 =>
  some (undef, r_6.2)).bind fun r_5 =>
  ((Eq_ Zp (Zs 76 r6.1 r35.1) r_5.2).bind fun r_8 =>
  some (undef, r_8.2)).bind fun r_7 =>
  chkThen ((((Rq Zp (Zl 3 r33.1) r35.2).bind fun v34_1 => some v34_1) = some r34.1 ∧ ((Rq Zp (Zl 3 r33.1) r_5.2).bind fun v34_2 => some v34_2) = some r34.1) ∧ True)
  (some (Xr [r4.1, (Vi Ki 0), r6.1] r_7.2))
 else
 (Pq Zp (do eqGuard .eql 9 (Ot 36) (Oc (Vs { data := #[102, 97, 100, 101] })) v17 (Vs { data := #[102, 97, 100, 101] }); binOp .eql 9 v17 (Vs { data := #[102, 97, 100, 101] }))).bind fun v37 =>
 (asB v37).bind fun c37 =>
 (if c37 then
  (call 71 #[l0, end1, (Vi Ki 1)] r29.2).bind fun r41 =>
  (Pq Zp (Zx r41.1 0)).bind fun v42 =>
  (Pq Zp (Zx r41.1 1)).bind fun v43 =>
  (Pq Zp (Zx r41.1 2)).bind fun v44 =>
  (Eq_ Zp (Zs 76 r9.1 v43) r41.2).bind fun r_9 =>
  (Pq Zp (Op.unary .not v44)).bind fun v46 =>
  (asB v46).bind fun c46 =>
  if c46 then
   ((Rq Zp (Zl 51 r7.1) r_9.2.drew).bind fun v47 =>
   some (v47, r_9.2.drew)).bind fun r47 =>
   ((Rq Zp (Zl 76 r9.1) r47.2).bind fun v48 =>
   some (v48, r47.2)).bind fun r48 =>
   ((Eq_ Zp (Zs 51 r4.1 r47.1) r48.2).bind fun r_11 =>
   some (undef, r_11.2)).bind fun r_10 =>
   ((Eq_ Zp (Zs 76 r6.1 r48.1) r_10.2).bind fun r_13 =>
   some (undef, r_13.2)).bind fun r_12 =>
   chkThen ((((Rq Zp (Zl 76 r9.1) r48.2).bind fun v48_1 => some v48_1) = some r48.1 ∧ ((Rq Zp (Zl 76 r9.1) r_10.2).bind fun v48_2 => some v48_2) = some r48.1) ∧ True)
   (some (Xr [r4.1, (Vi Ki 0), r6.1] r_12.2))
  else
  (call 101 #[v42] r_9.2).bind fun r50 =>
  (Pq Zp (Zf 51 r7.1 3)).bind fun v51 =>
  (Eq_ Zp (Zs 3 v51 r50.1) r50.2).bind fun r_14 =>
  (Pq Zp (Zf 51 r7.1 3)).bind fun v52 =>
  (Rq Zp (Zl 3 v52) r_14.2).bind fun v53 =>
  (bin .eql v53 (Vi Ki 0)).bind fun v54 =>
  (asB v54).bind fun c54 =>
  if c54 then
   ((Rq Zp (Zl 51 r7.1) r_14.2.drew).bind fun v55 =>
   some (v55, r_14.2.drew)).bind fun r55 =>
   ((Pq Zp (Zj 70 l0 (Vi Ki 1))).bind fun v57 =>
   some (v57, r55.2)).bind fun r57 =>
   ((Pq Zp (Zf 74 r57.1 0)).bind fun v58 =>
   some (v58, r57.2)).bind fun r58 =>
   ((Rq Zp (Zl 3 r58.1) r58.2).bind fun v59 =>
   some (v59, r58.2)).bind fun r59 =>
   ((Pq Zp (Zb 76 #[(0, r59.1), (1, (Vi Ki 193))])).bind fun v60 =>
   some (v60, r59.2)).bind fun r60 =>
   ((Eq_ Zp (Zs 51 r4.1 r55.1) r60.2).bind fun r_16 =>
   some (undef, r_16.2)).bind fun r_15 =>
   ((Eq_ Zp (Zs 76 r6.1 r60.1) r_15.2).bind fun r_18 =>
   some (undef, r_18.2)).bind fun r_17 =>
   chkThen ((((Rq Zp (Zl 3 r58.1) r60.2).bind fun v59_1 => some v59_1) = some r59.1 ∧ ((Rq Zp (Zl 3 r58.1) r_15.2).bind fun v59_2 => some v59_2) = some r59.1) ∧ True)
   (some (Xr [r4.1, (Vi Ki 0), r6.1] r_17.2))
  else
  some (Xn [l0, end1, r4.1, r6.1, r7.1, r9.1, (Vi Ki 2)] r_14.2)
  else
  some (Xn [l0, end1, r4.1, r6.1, r7.1, r9.1, (Vi Ki 1)] r29.2)).bind fun (r : Res) => r.cont fun vs W1 =>
 let l0_1 := nth vs 0
 let end1_1 := nth vs 1
 let v4 := nth vs 2
 let v6 := nth vs 3
 let e7 := nth vs 4
 let x9 := nth vs 5
 let k11 := nth vs 6
 (call 71 #[l0_1, end1_1, k11] W1).bind fun r65 =>
 (Pq Zp (Zx r65.1 0)).bind fun v66 =>
 (Pq Zp (Zx r65.1 1)).bind fun v67 =>
 (Pq Zp (Zx r65.1 2)).bind fun v68 =>
 (Eq_ Zp (Zs 76 x9 v67) r65.2).bind fun r_19 =>
 (Pq Zp (Op.unary .not v68)).bind fun v70 =>
 (asB v70).bind fun c70 =>
 if c70 then
  ((Rq Zp (Zl 51 e7) r_19.2.drew).bind fun v71 =>
  some (v71, r_19.2.drew)).bind fun r71 =>
  ((Rq Zp (Zl 76 x9) r71.2).bind fun v72 =>
  some (v72, r71.2)).bind fun r72 =>
  ((Eq_ Zp (Zs 51 v4 r71.1) r72.2).bind fun r_21 =>
  some (undef, r_21.2)).bind fun r_20 =>
  ((Eq_ Zp (Zs 76 v6 r72.1) r_20.2).bind fun r_23 =>
  some (undef, r_23.2)).bind fun r_22 =>
  chkThen ((((Rq Zp (Zl 76 x9) r72.2).bind fun v72_1 => some v72_1) = some r72.1 ∧ ((Rq Zp (Zl 76 x9) r_20.2).bind fun v72_2 => some v72_2) = some r72.1) ∧ True)
  (some (Xr [v4, (Vi Ki 0), v6] r_22.2))
 else
 (call 102 #[v66] r_19.2).bind fun r74 =>
 (Pq Zp (Op.unary .not r74.1)).bind fun v76 =>
 (asB v76).bind fun c76 =>
 if c76 then
  ((Rq Zp (Zl 51 e7) r74.2.drew).bind fun v77 =>
  some (v77, r74.2.drew)).bind fun r77 =>
  ((Pq Zp (Zj 70 l0_1 k11)).bind fun v80 =>
  some (v80, r77.2)).bind fun r80 =>
  ((Pq Zp (Zf 74 r80.1 0)).bind fun v81 =>
  some (v81, r80.2)).bind fun r81 =>
  ((Rq Zp (Zl 3 r81.1) r81.2).bind fun v82 =>
  some (v82, r81.2)).bind fun r82 =>
  ((Pq Zp (Zb 76 #[(0, r82.1), (1, (Vi Ki 193))])).bind fun v83 =>
  some (v83, r82.2)).bind fun r83 =>
  ((Eq_ Zp (Zs 51 v4 r77.1) r83.2).bind fun r_25 =>
  some (undef, r_25.2)).bind fun r_24 =>
  ((Eq_ Zp (Zs 76 v6 r83.1) r_24.2).bind fun r_27 =>
  some (undef, r_27.2)).bind fun r_26 =>
  chkThen ((((Rq Zp (Zl 3 r81.1) r83.2).bind fun v82_1 => some v82_1) = some r82.1 ∧ ((Rq Zp (Zl 3 r81.1) r_24.2).bind fun v82_2 => some v82_2) = some r82.1) ∧ True)
  (some (Xr [v4, (Vi Ki 0), v6] r_26.2))
 else
 (Pq Zp (Zf 51 e7 0)).bind fun v85 =>
 (Eq_ Zp (Zs 9 v85 v66) r74.2).bind fun r_28 =>
 (Rq Zp (Zl 51 e7) r_28.2).bind fun v86 =>
 (bin .add k11 (Vi Ki 1)).bind fun v88 =>
 (Pq Zp (Zb 76 #[])).bind fun v89 =>
 (Eq_ Zp (Zs 51 v4 v86) r_28.2).bind fun r_29 =>
 (Eq_ Zp (Zs 76 v6 v89) r_29.2).bind fun r_30 =>
 some (Xr [v4, v88, v6] r_30.2)).bind (Res.doneR Zp [.cell 4 51, .tmp 5, .cell 6 76])
def f74.ann : Ann := (.s .z (.s .z (.s .z .z)))
noncomputable def f74 (call : CallF) (r0 : Value) (s1 : Value) (W0 : World) : Option (Value × World) :=
 ((call 103 #[r0, s1] W0).bind fun r12 =>
 (Pq Zp (Zx r12.1 0)).bind fun v13 =>
 (Pq Zp (Zx r12.1 1)).bind fun v14 =>
 (Pq Zp (Zx r12.1 2)).bind fun v15 =>
 some (Xr [v13, v15] r12.2)).bind Res.done
def f75.ann : Ann := (.s .z (.s .z (.s .z (.s (.s .z (.c (.s .z .z) .z)) (.s (.s .z (.c (.s .z .z) .z)) (.s (.s .z (.c (.s .z .z) .z)) (.s .z (.s .z .z))))))))
noncomputable def f75 (call : CallF) (l0 : Value) (W0 : World) : Option (Value × World) :=
 ((Pq Zp (Yl #[28] 3 #[l0])).bind fun v7 =>
 (bin .sub v7 (Vi Ki 1)).bind fun v8 =>
 (Pq Zp (Zj 28 l0 v8)).bind fun v11 =>
 (Rq Zp (Zl 51 v11) W0).bind fun v12 =>
 (Eq_ Zp (Za 51 true (.tuple #[])) W0).bind fun r4 =>
 (Eq_ Zp (Zs 51 r4.1 v12) r4.2).bind fun r =>
 (Pq Zp (Zf 51 r4.1 3)).bind fun v13 =>
 (Rq Zp (Zl 3 v13) r.2).bind fun v14 =>
 (bin .lss v14 (Vi Ki 0)).bind fun v15 =>
 (asB v15).bind fun b16 =>
 (if b16 = false then (Pq Zp (Zf 51 r4.1 3)).bind fun v17 =>
  (Rq Zp (Zl 3 v17) r.2).bind fun v18 =>
  (bin .gtr v18 (Vi Ki 100)).bind fun v19 =>
  some (v19, r.2)
  else some ((Vb true), r.2)).bind fun r20 =>
 (asB r20.1).bind fun c20 =>
 if c20 then
  some (Xr [(Vb false)] r20.2)
 else
 (Pq Zp (Zf 51 r4.1 3)).bind fun v21 =>
 (Rq Zp (Zl 3 v21) r20.2).bind fun v22 =>
 (bin .eql v22 (Vi Ki 0)).bind fun v23 =>
 (asB v23).bind fun c23 =>
 if c23 then
  some (Xr [(Vb true)] r20.2)
 else
 (bin .eql v8 (Vi Ki 0)).bind fun v25 =>
 (asB v25).bind fun b26 =>
 (if b26 = false then (Pq Zp (Zf 51 r4.1 3)).bind fun v27 =>
  (Rq Zp (Zl 3 v27) r20.2).bind fun v28 =>
  (Pq Zp (Zf 51 r4.1 2)).bind fun v29 =>
  (Rq Zp (Zl 3 v29) r20.2).bind fun v30 =>
  (Pq Zp (Zf 51 r4.1 1)).bind fun v31 =>
  (Rq Zp (Zl 3 v31) r20.2).bind fun v32 =>
  (bin .sub v30 v32).bind fun v33 =>
  (bin .gtr v28 v33).bind fun v34 =>
  some (v34, r20.2)
  else some ((Vb true), r20.2)).bind fun r35 =>
 (asB r35.1).bind fun c35 =>
 if c35 then
  some (Xr [(Vb false)] r35.2)
 else
 (bin .sub v8 (Vi Ki 1)).bind fun v38 =>
 (Pq Zp (Zj 28 l0 v38)).bind fun v39 =>
 (Rq Zp (Zl 51 v39) r35.2).bind fun v40 =>
 (Eq_ Zp (Za 51 true (.tuple #[])) r35.2).bind fun r5 =>
 (Eq_ Zp (Zs 51 r5.1 v40) r5.2).bind fun r_1 =>
 (Pq Zp (Zf 51 r4.1 3)).bind fun v41 =>
 (Rq Zp (Zl 3 v41) r_1.2).bind fun v42 =>
 (Pq Zp (Zf 51 r5.1 2)).bind fun v43 =>
 (Rq Zp (Zl 3 v43) r_1.2).bind fun v44 =>
 (Pq Zp (Zf 51 r5.1 1)).bind fun v45 =>
 (Rq Zp (Zl 3 v45) r_1.2).bind fun v46 =>
 (bin .sub v44 v46).bind fun v47 =>
 (Pq Zp (Zf 51 r5.1 3)).bind fun v48 =>
 (Rq Zp (Zl 3 v48) r_1.2).bind fun v49 =>
 (bin .sub v47 v49).bind fun v50 =>
 (bin .leq v42 v50).bind fun v51 =>
 some (Xr [v51] r_1.2)).bind Res.done
def f80.ann : Ann := (.s .z (.s (.s .z (.c (.s .z .z) .z)) (.s .z .z)))
noncomputable def f80 (call : CallF) (r0 : Value) (W0 : World) : Option (Value × World) :=
 ((Eq_ Zp (Za 145 true (.tuple #[])) W0).bind fun r2 =>
 (bin .lss r0 (Vi Ki 1)).bind fun v5 =>
 (asB v5).bind fun b6 =>
 (if b6 = false then (bin .gtr r0 (Vi Ki 7)).bind fun v8 =>
  some (v8, r2.2)
  else some ((Vb true), r2.2)).bind fun r9 =>
 (asB r9.1).bind fun c9 =>
 if c9 then
  (Pq Zp (Zb 145 #[])).bind fun v10 =>
  (Eq_ Zp (Zs 145 r2.1 v10) r9.2).bind fun r =>
  some (Xr [r2.1, (Vb false)] r.2)
 else
 (Pq Zp (Zj 188 (.pointer (some ⟨3, 0, none⟩)) r0)).bind fun v12 =>
 (Rq Zp (Zl 145 v12) r9.2).bind fun v13 =>
 (Eq_ Zp (Zs 145 r2.1 v13) r9.2).bind fun r_1 =>
 some (Xr [r2.1, (Vb true)] r_1.2)).bind (Res.doneR Zp [.cell 2 145, .tmp 3])
def f81.ann : Ann := (.s .z (.s .z .z))
noncomputable def f81 (call : CallF) (x0 : Value) (W0 : World) : Option (Value × World) :=
 ((Eq_ Zp (Zo 145 x0) W0).bind fun r1 =>
 (Rq Zp (Zl 145 r1.1) r1.2).bind fun v3 =>
 (call 106 #[v3] r1.2).bind fun r4 =>
 (bin .mul (Vi Ki 144) r4.1).bind fun v5 =>
 some (Xr [v5] r4.2)).bind Res.done
def f82.ann : Ann := (.s .z (.s (.c (.s .z .z) .z) (.s .z .z)))
noncomputable def f82 (call : CallF) (s0 : Value) (W0 : World) : Option (Value × World) :=
 ((asB (Vb false)).bind fun c =>
 if c then
  (Pq Zp (Zi 9 s0 (Vi Ki 0))).bind fun v4 =>
  (Pq Zp (convert 5 12 v4)).bind fun v5 =>
  (Pq Zp (Zi 9 s0 (Vi Ki 1))).bind fun v7 =>
  (Pq Zp (convert 5 12 v7)).bind fun v8 =>
  (Pq Zp (do eqGuard .shl 12 (Ot 8) (Oc (Vi Kv 8)) v8 (Vi Kv 8); binOp .shl 12 v8 (Vi Kv 8))).bind fun v9 =>
  (Pq Zp (do eqGuard .or 12 (Ot 5) (Ot 9) v5 v9; binOp .or 12 v5 v9)).bind fun v10 =>
  (Pq Zp (Zi 9 s0 (Vi Ki 2))).bind fun v12 =>
  (Pq Zp (convert 5 12 v12)).bind fun v13 =>
  (Pq Zp (do eqGuard .shl 12 (Ot 13) (Oc (Vi Kv 16)) v13 (Vi Kv 16); binOp .shl 12 v13 (Vi Kv 16))).bind fun v14 =>
  (Pq Zp (do eqGuard .or 12 (Ot 10) (Ot 14) v10 v14; binOp .or 12 v10 v14)).bind fun v15 =>
  (Pq Zp (Zi 9 s0 (Vi Ki 3))).bind fun v17 =>
  (Pq Zp (convert 5 12 v17)).bind fun v18 =>
  (Pq Zp (do eqGuard .shl 12 (Ot 18) (Oc (Vi Kv 24)) v18 (Vi Kv 24); binOp .shl 12 v18 (Vi Kv 24))).bind fun v19 =>
  (Pq Zp (do eqGuard .or 12 (Ot 15) (Ot 19) v15 v19; binOp .or 12 v15 v19)).bind fun v20 =>
  some (Xr [v20] W0.drew)
 else
 (Pq Zp (Zi 9 s0 (Vi Ki 0))).bind fun v22 =>
 (Pq Zp (convert 5 159 v22)).bind fun v23 =>
 (Pq Zp (Zi 9 s0 (Vi Ki 1))).bind fun v25 =>
 (Pq Zp (convert 5 159 v25)).bind fun v26 =>
 (Pq Zp (do eqGuard .shl 159 (Ot 26) (Oc (Vi Kv 8)) v26 (Vi Kv 8); binOp .shl 159 v26 (Vi Kv 8))).bind fun v27 =>
 (Pq Zp (do eqGuard .or 159 (Ot 23) (Ot 27) v23 v27; binOp .or 159 v23 v27)).bind fun v28 =>
 (Pq Zp (Zi 9 s0 (Vi Ki 2))).bind fun v30 =>
 (Pq Zp (convert 5 159 v30)).bind fun v31 =>
 (Pq Zp (do eqGuard .shl 159 (Ot 31) (Oc (Vi Kv 16)) v31 (Vi Kv 16); binOp .shl 159 v31 (Vi Kv 16))).bind fun v32 =>
 (Pq Zp (do eqGuard .or 159 (Ot 28) (Ot 32) v28 v32; binOp .or 159 v28 v32)).bind fun v33 =>
 (Pq Zp (Zi 9 s0 (Vi Ki 3))).bind fun v35 =>
 (Pq Zp (convert 5 159 v35)).bind fun v36 =>
 (Pq Zp (do eqGuard .shl 159 (Ot 36) (Oc (Vi Kv 24)) v36 (Vi Kv 24); binOp .shl 159 v36 (Vi Kv 24))).bind fun v37 =>
 (Pq Zp (do eqGuard .or 159 (Ot 33) (Ot 37) v33 v37; binOp .or 159 v33 v37)).bind fun v38 =>
 (Pq Zp (Zi 9 s0 (Vi Ki 4))).bind fun v40 =>
 (Pq Zp (convert 5 159 v40)).bind fun v41 =>
 (Pq Zp (do eqGuard .shl 159 (Ot 41) (Oc (Vi Kv 32)) v41 (Vi Kv 32); binOp .shl 159 v41 (Vi Kv 32))).bind fun v42 =>
 (Pq Zp (do eqGuard .or 159 (Ot 38) (Ot 42) v38 v42; binOp .or 159 v38 v42)).bind fun v43 =>
 (Pq Zp (Zi 9 s0 (Vi Ki 5))).bind fun v45 =>
 (Pq Zp (convert 5 159 v45)).bind fun v46 =>
 (Pq Zp (do eqGuard .shl 159 (Ot 46) (Oc (Vi Kv 40)) v46 (Vi Kv 40); binOp .shl 159 v46 (Vi Kv 40))).bind fun v47 =>
 (Pq Zp (do eqGuard .or 159 (Ot 43) (Ot 47) v43 v47; binOp .or 159 v43 v47)).bind fun v48 =>
 (Pq Zp (Zi 9 s0 (Vi Ki 6))).bind fun v50 =>
 (Pq Zp (convert 5 159 v50)).bind fun v51 =>
 (Pq Zp (do eqGuard .shl 159 (Ot 51) (Oc (Vi Kv 48)) v51 (Vi Kv 48); binOp .shl 159 v51 (Vi Kv 48))).bind fun v52 =>
 (Pq Zp (do eqGuard .or 159 (Ot 48) (Ot 52) v48 v52; binOp .or 159 v48 v52)).bind fun v53 =>
 (Pq Zp (Zi 9 s0 (Vi Ki 7))).bind fun v55 =>
 (Pq Zp (convert 5 159 v55)).bind fun v56 =>
 (Pq Zp (do eqGuard .shl 159 (Ot 56) (Oc (Vi Kv 56)) v56 (Vi Kv 56); binOp .shl 159 v56 (Vi Kv 56))).bind fun v57 =>
 (Pq Zp (do eqGuard .or 159 (Ot 53) (Ot 57) v53 v57; binOp .or 159 v53 v57)).bind fun v58 =>
 some (Xr [v58] W0.drew)).bind Res.done
def f83.ann : Ann := (.s .z (.s (.s .z (.c (.s .z .z) .z)) (.s (.s .z (.c (.s .z .z) .z)) (.s .z (.s .z .z)))))
noncomputable def f83 (call : CallF) (ahead0 : Value) (e1 : Value) (W0 : World) : Option (Value × World) :=
 ((Eq_ Zp (Zo 51 e1) W0).bind fun r3 =>
 (Pq Zp (Zf 51 r3.1 3)).bind fun v6 =>
 (Rq Zp (Zl 3 v6) r3.2).bind fun v7 =>
 (bin .eql v7 (Vi Ki 0)).bind fun v8 =>
 (asB v8).bind fun c8 =>
 if c8 then
  some (Xr [(Vb true)] r3.2)
 else
 ((Pq Zp (Zf 51 r3.1 3)).bind fun v9 =>
 some (v9, r3.2.drew)).bind fun r9 =>
 ((Rq Zp (Zl 3 r9.1) r9.2).bind fun v10 =>
 some (v10, r9.2)).bind fun r10 =>
 ((bin .lss r10.1 (Vi Ki 0)).bind fun v11 =>
 some (v11, r10.2)).bind fun r11 =>
 (if wantedV false r11.1 = true then (Pq Zp (Zf 51 r3.1 3)).bind fun v13 =>
 some (v13, r11.2) else some (undef, r11.2)).bind fun r13 =>
 (if wantedV false r11.1 = true then (Rq Zp (Zl 3 r13.1) r13.2).bind fun v14 =>
 some (v14, r13.2) else some (undef, r13.2)).bind fun r14 =>
 (if wantedV false r11.1 = true then (bin .gtr r14.1 (Vi Ki 100)).bind fun v15 =>
 some (v15, r14.2) else some (undef, r14.2)).bind fun r15 =>
 ((pickV r11.1 (Vb true) r15.1).bind fun v16 =>
 some (v16, r15.2)).bind fun r16 =>
 (if wantedV false r16.1 = true then some (ahead0, r16.2) else some (undef, r16.2)).bind fun r18 =>
 (if wantedV false r16.1 = true then (Pq Zp (Yl #[28] 3 #[r18.1])).bind fun v19 =>
 some (v19, r18.2) else some (undef, r18.2)).bind fun r19 =>
 (if wantedV false r16.1 = true then (bin .eql r19.1 (Vi Ki 0)).bind fun v20 =>
 some (v20, r19.2) else some (undef, r19.2)).bind fun r20 =>
 ((pickV r16.1 (Vb true) r20.1).bind fun v21 =>
 some (v21, r20.2)).bind fun r21 =>
 (if wantedV false r21.1 = true then (Pq Zp (Zf 51 r3.1 3)).bind fun v23 =>
 some (v23, r21.2) else some (undef, r21.2)).bind fun r23 =>
 (if wantedV false r21.1 = true then (Rq Zp (Zl 3 r23.1) r23.2).bind fun v24 =>
 some (v24, r23.2) else some (undef, r23.2)).bind fun r24 =>
 (if wantedV false r21.1 = true then (Rq Zp (Zl 51 r3.1) r24.2).bind fun v25 =>
 some (v25, r24.2) else some (undef, r24.2)).bind fun r25 =>
 (if wantedV false r21.1 = true then (call 46 #[r25.1] r25.2).bind fun r26_1 =>
 some (r26_1.1, r26_1.2) else some (undef, r25.2)).bind fun r26 =>
 (if wantedV false r21.1 = true then (bin .gtr r24.1 r26.1).bind fun v27 =>
 some (v27, r26.2) else some (undef, r26.2)).bind fun r27 =>
 ((pickV r21.1 (Vb true) r27.1).bind fun v28 =>
 some (v28, r27.2)).bind fun r28 =>
 chkThen (((if wantedV false r21.1 = true then ((Rq Zp (Zl 3 r23.1) r25.2).bind fun v24_1 => some v24_1) = some r24.1 else True) ∧ (if wantedV false r21.1 = true then ((Rq Zp (Zl 3 r23.1) r26.2).bind fun v24_2 => some v24_2) = some r24.1 else True)) ∧ True)
 ((asB r28.1).bind fun c28 =>
 if c28 then
  some (Xr [(Vb false)] r28.2)
 else
 (Pq Zp (Yl #[28] 3 #[ahead0])).bind fun v31 =>
 (bin .sub v31 (Vi Ki 1)).bind fun v32 =>
 (Pq Zp (Zj 28 ahead0 v32)).bind fun v33 =>
 (Rq Zp (Zl 51 v33) r28.2).bind fun v34 =>
 (Eq_ Zp (Za 51 true (.tuple #[])) r28.2).bind fun r5 =>
 (Eq_ Zp (Zs 51 r5.1 v34) r5.2).bind fun r =>
 ((Pq Zp (Zf 51 r3.1 3)).bind fun v35 =>
 some (v35, r.2.drew)).bind fun r35 =>
 ((Rq Zp (Zl 3 r35.1) r35.2).bind fun v36 =>
 some (v36, r35.2)).bind fun r36 =>
 ((Rq Zp (Zl 51 r5.1) r36.2).bind fun v37 =>
 some (v37, r36.2)).bind fun r37 =>
 ((call 46 #[r37.1] r37.2).bind fun r38_1 =>
 some (r38_1.1, r38_1.2)).bind fun r38 =>
 ((Pq Zp (Zf 51 r5.1 3)).bind fun v39 =>
 some (v39, r38.2)).bind fun r39 =>
 ((Rq Zp (Zl 3 r39.1) r39.2).bind fun v40 =>
 some (v40, r39.2)).bind fun r40 =>
 ((bin .sub r38.1 r40.1).bind fun v41 =>
 some (v41, r40.2)).bind fun r41 =>
 ((bin .leq r36.1 r41.1).bind fun v42 =>
 some (v42, r41.2)).bind fun r42 =>
 chkThen ((((Rq Zp (Zl 3 r35.1) r37.2).bind fun v36_1 => some v36_1) = some r36.1 ∧ ((Rq Zp (Zl 3 r35.1) r38.2).bind fun v36_2 => some v36_2) = some r36.1) ∧ (((Rq Zp (Zl 3 r39.1) r37.2).bind fun v40_1 => some v40_1) = some r40.1 ∧ ((Rq Zp (Zl 3 r39.1) r38.2).bind fun v40_2 => some v40_2) = some r40.1) ∧ True)
 (some (Xr [r42.1] r42.2)))).bind Res.done
def f87.ann : Ann := (.s .z (.s (.s .z (.b [] (.s .z (.c (.s .z .z) (.s .z (.c (.s .z .z) (.s .z (.c (.s .z .z) (.s (.s .z (.j [10] .z .z)) (.c (.s .z .z) .z)))))))))) (.s .z .z)))
noncomputable def f87 (call : CallF) (r0 : Value) (W0 : World) : Option (Value × World) :=
 (((bin .eql r0 (Vi Ki 1)).bind fun v5 =>
 (asB v5).bind fun c4 =>
 if c4 then
  some (Xr [(Vi Ki 24)] W0)
 else
 (bin .eql r0 (Vi Ki 2)).bind fun v7 =>
 (asB v7).bind fun c6 =>
 if c6 then
  some (Xr [(Vi Ki 25)] W0)
 else
 (bin .eql r0 (Vi Ki 5)).bind fun v9 =>
 (asB v9).bind fun c8 =>
 if c8 then
  some (Xr [(Vi Ki 50)] W0)
 else
 (bin .eql r0 (Vi Ki 6)).bind fun v11 =>
 (asB v11).bind fun c10 =>
 (if c10 then
  some (Xn [v11] W0)
  else
  (bin .eql r0 (Vi Ki 7)).bind fun v12 =>
  some (Xn [v12] W0)).bind fun (r : Res) => r.cont fun vs W1 =>
 let v10 := nth vs 0
 (asB v10).bind fun c10_1 =>
 if c10_1 then
  some (Xr [(Vi Ki 60)] W1)
 else
 some (Xn [] W1)).bind fun (r : Res) => (r.unblock 0).cont fun vs_1 W2 =>
 some (Xr [(Vi Ki 30)] W2)).bind Res.done
def f88.ann : Ann := (.s .z (.s (.s .z (.c (.s .z .z) .z)) (.s .z .z)))
noncomputable def f88 (call : CallF) (r0 : Value) (W0 : World) : Option (Value × World) :=
 ((call 108 #[r0, (Vi Ki 1)] W0).bind fun r4 =>
 (bin .gtr r4.1 (Vi Ki 0)).bind fun v5 =>
 (asB v5).bind fun c5 =>
 if c5 then
  some (Xr [(Vs { data := #[59] })] r4.2)
 else
 some (Xr [(Vs { data := #[58] })] r4.2)).bind Res.done
def f89.ann : Ann := (.s .z (.s (.s .z (.c (.s .z .z) .z)) (.s .z .z)))
noncomputable def f89 (call : CallF) (p0 : Value) (r1 : Value) (W0 : World) : Option (Value × World) :=
 ((Pq Zp (convert 21 190 r1)).bind fun v6 =>
 (bin .leq v6 (Vi Kw 127)).bind fun v7 =>
 (asB v7).bind fun c7 =>
 if c7 then
  (Pq Zp (convert 21 5 r1)).bind fun v10 =>
  (Eq_ Zp (Instr.buildSlice 160 1 #[(0, v10)]) W0).bind fun r11 =>
  (Eq_ Zp (Yb #[160, 160] 160 #[p0, r11.1]) r11.2).bind fun r12 =>
  some (Xr [r12.1] r12.2)
 else
 (call 109 #[p0, r1] W0).bind fun r15 =>
 some (Xr [r15.1] r15.2)).bind Res.done
def f91.ann : Ann := (.s .z (.s .z .z))
noncomputable def f91 (call : CallF) (i0 : Value) (W0 : World) : Option (Value × World) :=
 ((call 114 #[i0] W0).bind fun r4 =>
 some (Xr [r4.1] r4.2)).bind Res.done
def f92.ann : Ann := (.s .z (.s .z (.s (.s .z (.c (.s .z .z) .z)) (.s .z (.s .z (.s (.s .z (.c (.s .z (.s .z .z)) .z)) (.s .z (.s .z (.s (.s .z (.c (.s .z .z) .z)) (.s .z (.s (.s .z (.c (.s .z .z) .z)) (.s (.s .z (.c (.s .z .z) .z)) (.s .z (.s (.s .z (.c (.s .z .z) .z)) (.s (.s .z (.c (.s .z .z) .z)) (.s .z (.s (.s .z (.c (.s .z .z) .z)) (.s .z .z))))))))))))))))))
noncomputable def f92 (call : CallF) (s0 : Value) (W0 : World) : Option (Value × World) :=
 ((Pq Zp (Yl #[9] 3 #[s0])).bind fun v14 =>
 (bin .lss v14 (Vi Ki 1)).bind fun v16 =>
 (asB v16).bind fun c16 =>
 if c16 then
  some (Xr [(Vi Kj 65533), (Vi Ki 0)] W0)
 else
 (Pq Zp (Zi 9 s0 (Vi Ki 0))).bind fun v18 =>
 (Pq Zp (Zj 150 (.pointer (some ⟨1, 0, none⟩)) v18)).bind fun v20 =>
 (Rq Zp (Zl 5 v20) W0).bind fun v21 =>
 (bin .geq v21 (Vi Ku 240)).bind fun v23 =>
 (asB v23).bind fun c23 =>
 if c23 then
  (Pq Zp (convert 5 21 v21)).bind fun v25 =>
  (Pq Zp (do eqGuard .shl 21 (Ot 25) (Oc (Vi Kv 31)) v25 (Vi Kv 31); binOp .shl 21 v25 (Vi Kv 31))).bind fun v26 =>
  (Pq Zp (do eqGuard .shr 21 (Ot 26) (Oc (Vi Kv 31)) v26 (Vi Kv 31); binOp .shr 21 v26 (Vi Kv 31))).bind fun v27 =>
  (Pq Zp (Zi 9 s0 (Vi Ki 0))).bind fun v29 =>
  (Pq Zp (convert 5 21 v29)).bind fun v30 =>
  (Pq Zp (do eqGuard .andNot 21 (Ot 30) (Ot 31) v30 v27; binOp .andNot 21 v30 v27)).bind fun v32 =>
  (Pq Zp (do eqGuard .and 21 (Oc (Vi Kj 65533)) (Ot 33) (Vi Kj 65533) v27; binOp .and 21 (Vi Kj 65533) v27)).bind fun v34 =>
  (Pq Zp (do eqGuard .or 21 (Ot 32) (Ot 34) v32 v34; binOp .or 21 v32 v34)).bind fun v35 =>
  some (Xr [v35, (Vi Ki 1)] W0)
 else
 (Pq Zp (do eqGuard .and 5 (Ot 36) (Oc (Vi Ku 7)) v21 (Vi Ku 7); binOp .and 5 v21 (Vi Ku 7))).bind fun v37 =>
 (Pq Zp (convert 5 3 v37)).bind fun v38 =>
 (Pq Zp (do eqGuard .shr 5 (Ot 39) (Oc (Vi Kv 4)) v21 (Vi Kv 4); binOp .shr 5 v21 (Vi Kv 4))).bind fun v40 =>
 (Pq Zp (Zj 153 (.pointer (some ⟨2, 0, none⟩)) v40)).bind fun v41 =>
 (Rq Zp (Zl 152 v41) W0).bind fun v42 =>
 (Eq_ Zp (Za 152 true (.tuple #[])) W0).bind fun r9 =>
 (Eq_ Zp (Zs 152 r9.1 v42) r9.2).bind fun r =>
 (bin .lss v14 v38).bind fun v45 =>
 (asB v45).bind fun c45 =>
 if c45 then
  some (Xr [(Vi Kj 65533), (Vi Ki 1)] r.2)
 else
 (Pq Zp (Zi 9 s0 (Vi Ki 1))).bind fun v47 =>
 (Pq Zp (Zf 152 r9.1 0)).bind fun v49 =>
 (Rq Zp (Zl 5 v49) r.2).bind fun v50 =>
 (bin .lss v47 v50).bind fun v51 =>
 (asB v51).bind fun b52 =>
 (if b52 = false then (Pq Zp (Zf 152 r9.1 1)).bind fun v53 =>
  (Rq Zp (Zl 5 v53) r.2).bind fun v54 =>
  (bin .lss v54 v47).bind fun v56 =>
  some (v56, r.2)
  else some ((Vb true), r.2)).bind fun r57 =>
 (asB r57.1).bind fun c57 =>
 if c57 then
  some (Xr [(Vi Kj 65533), (Vi Ki 1)] r57.2)
 else
 (bin .leq v38 (Vi Ki 2)).bind fun v59 =>
 (asB v59).bind fun c59 =>
 if c59 then
  (Pq Zp (do eqGuard .and 5 (Ot 60) (Oc (Vi Ku 31)) v18 (Vi Ku 31); binOp .and 5 v18 (Vi Ku 31))).bind fun v61 =>
  (Pq Zp (convert 5 21 v61)).bind fun v62 =>
  (Pq Zp (do eqGuard .shl 21 (Ot 62) (Oc (Vi Kv 6)) v62 (Vi Kv 6); binOp .shl 21 v62 (Vi Kv 6))).bind fun v63 =>
  (Pq Zp (do eqGuard .and 5 (Ot 64) (Oc (Vi Ku 63)) v47 (Vi Ku 63); binOp .and 5 v47 (Vi Ku 63))).bind fun v65 =>
  (Pq Zp (convert 5 21 v65)).bind fun v66 =>
  (Pq Zp (do eqGuard .or 21 (Ot 63) (Ot 66) v63 v66; binOp .or 21 v63 v66)).bind fun v67 =>
  some (Xr [v67, (Vi Ki 2)] r57.2)
 else
 (Pq Zp (Zi 9 s0 (Vi Ki 2))).bind fun v69 =>
 (bin .lss v69 (Vi Ku 128)).bind fun v71 =>
 (asB v71).bind fun b72 =>
 (if b72 = false then (bin .lss (Vi Ku 191) v69).bind fun v74 =>
  some (v74, r57.2)
  else some ((Vb true), r57.2)).bind fun r75 =>
 (asB r75.1).bind fun c75 =>
 if c75 then
  some (Xr [(Vi Kj 65533), (Vi Ki 1)] r75.2)
 else
 (bin .leq v38 (Vi Ki 3)).bind fun v77 =>
 (asB v77).bind fun c77 =>
 if c77 then
  (Pq Zp (do eqGuard .and 5 (Ot 78) (Oc (Vi Ku 15)) v18 (Vi Ku 15); binOp .and 5 v18 (Vi Ku 15))).bind fun v79 =>
  (Pq Zp (convert 5 21 v79)).bind fun v80 =>
  (Pq Zp (do eqGuard .shl 21 (Ot 80) (Oc (Vi Kv 12)) v80 (Vi Kv 12); binOp .shl 21 v80 (Vi Kv 12))).bind fun v81 =>
  (Pq Zp (do eqGuard .and 5 (Ot 82) (Oc (Vi Ku 63)) v47 (Vi Ku 63); binOp .and 5 v47 (Vi Ku 63))).bind fun v83 =>
  (Pq Zp (convert 5 21 v83)).bind fun v84 =>
  (Pq Zp (do eqGuard .shl 21 (Ot 84) (Oc (Vi Kv 6)) v84 (Vi Kv 6); binOp .shl 21 v84 (Vi Kv 6))).bind fun v85 =>
  (Pq Zp (do eqGuard .or 21 (Ot 81) (Ot 85) v81 v85; binOp .or 21 v81 v85)).bind fun v86 =>
  (Pq Zp (do eqGuard .and 5 (Ot 87) (Oc (Vi Ku 63)) v69 (Vi Ku 63); binOp .and 5 v69 (Vi Ku 63))).bind fun v88 =>
  (Pq Zp (convert 5 21 v88)).bind fun v89 =>
  (Pq Zp (do eqGuard .or 21 (Ot 86) (Ot 89) v86 v89; binOp .or 21 v86 v89)).bind fun v90 =>
  some (Xr [v90, (Vi Ki 3)] r75.2)
 else
 (Pq Zp (Zi 9 s0 (Vi Ki 3))).bind fun v92 =>
 (bin .lss v92 (Vi Ku 128)).bind fun v94 =>
 (asB v94).bind fun b95 =>
 (if b95 = false then (bin .lss (Vi Ku 191) v92).bind fun v97 =>
  some (v97, r75.2)
  else some ((Vb true), r75.2)).bind fun r98 =>
 (asB r98.1).bind fun c98 =>
 if c98 then
  some (Xr [(Vi Kj 65533), (Vi Ki 1)] r98.2)
 else
 (Pq Zp (do eqGuard .and 5 (Ot 99) (Oc (Vi Ku 7)) v18 (Vi Ku 7); binOp .and 5 v18 (Vi Ku 7))).bind fun v100 =>
 (Pq Zp (convert 5 21 v100)).bind fun v101 =>
 (Pq Zp (do eqGuard .shl 21 (Ot 101) (Oc (Vi Kv 18)) v101 (Vi Kv 18); binOp .shl 21 v101 (Vi Kv 18))).bind fun v102 =>
 (Pq Zp (do eqGuard .and 5 (Ot 103) (Oc (Vi Ku 63)) v47 (Vi Ku 63); binOp .and 5 v47 (Vi Ku 63))).bind fun v104 =>
 (Pq Zp (convert 5 21 v104)).bind fun v105 =>
 (Pq Zp (do eqGuard .shl 21 (Ot 105) (Oc (Vi Kv 12)) v105 (Vi Kv 12); binOp .shl 21 v105 (Vi Kv 12))).bind fun v106 =>
 (Pq Zp (do eqGuard .or 21 (Ot 102) (Ot 106) v102 v106; binOp .or 21 v102 v106)).bind fun v107 =>
 (Pq Zp (do eqGuard .and 5 (Ot 108) (Oc (Vi Ku 63)) v69 (Vi Ku 63); binOp .and 5 v69 (Vi Ku 63))).bind fun v109 =>
 (Pq Zp (convert 5 21 v109)).bind fun v110 =>
 (Pq Zp (do eqGuard .shl 21 (Ot 110) (Oc (Vi Kv 6)) v110 (Vi Kv 6); binOp .shl 21 v110 (Vi Kv 6))).bind fun v111 =>
 (Pq Zp (do eqGuard .or 21 (Ot 107) (Ot 111) v107 v111; binOp .or 21 v107 v111)).bind fun v112 =>
 (Pq Zp (do eqGuard .and 5 (Ot 113) (Oc (Vi Ku 63)) v92 (Vi Ku 63); binOp .and 5 v92 (Vi Ku 63))).bind fun v114 =>
 (Pq Zp (convert 5 21 v114)).bind fun v115 =>
 (Pq Zp (do eqGuard .or 21 (Ot 112) (Ot 115) v112 v115; binOp .or 21 v112 v115)).bind fun v116 =>
 some (Xr [v116, (Vi Ki 4)] r98.2)).bind Res.done
def f94.ann : Ann := (.s .z (.b [4] (.s .z (.c (.s .z .z) (.s .z (.c (.s (.s .z (.b [] (.l [175] (.s .z (.s (.c .z .z) (.b [175] (.s .z (.s .z (.c (.s .z .z) .z))))))))) (.s .z .z)) (.s .z (.c (.s .z .z) (.s .z (.s .z (.s .z (.s .z (.s (.b [] (.l [0, 7, 8, 9] (.s (.s .z (.c .z .z)) (.b [0, 7, 8, 9] (.s (.s .z (.j [0, 7, 8, 9] (.s .z (.s (.s .z (.c (.s .z .z) .z)) .z)) .z)) (.s (.s .z (.b [8, 9] (.l [0, 7, 8, 9, 12] (.s (.s .z (.c .z .z)) (.s (.b [0, 7, 8, 9, 12] (.s .z (.c .z .z))) .z))))) (.s (.s .z .z) .z))))))) (.s (.s .z .z) .z))))))))))))))
noncomputable def f94.l0 (call : CallF) (vs : List Value) (W1 : World) : Option Res :=
 let v175 := nth vs 0
 (Eq_ Zp (Instr.next v175 true 0) W1).bind fun r176 =>
 (Pq Zp (Zx r176.1 0)).bind fun v177 =>
 (asB v177).bind fun c177 =>
 if c177 then
  ((Pq Zp (Zx r176.1 1)).bind fun v178 =>
  (Pq Zp (Zx r176.1 2)).bind fun v179 =>
  (bin .eql v179 (Vi Kj 65533)).bind fun v181 =>
  (asB v181).bind fun c181 =>
  if c181 then
   some (Xr [v178] r176.2)
  else
  some (Xn [v175] r176.2)).bind fun (r : Res) => (r.unblock 10).cont fun vs_1 W2 =>
  let v175_1 := nth vs_1 0
  some (Xn [v175_1] W2)
 else
 some (Xx 9 [] r176.2)
noncomputable def f94.l1 (call : CallF) (vs_5 : List Value) (W6 : World) : Option Res :=
 let t0_3 := nth vs_5 0
 let v7_2 := nth vs_5 1
 let v8_2 := nth vs_5 2
 let v9_2 := nth vs_5 3
 let v12 := nth vs_5 4
 (Pq Zp (Yl #[9] 3 #[v7_2])).bind fun v50 =>
 (bin .lss v12 v50).bind fun v51 =>
 (asB v51).bind fun c51 =>
 if c51 then
  ((bin .sub v9_2 v12).bind fun v57 =>
  (Pq Zp (Zi 9 t0_3 v57)).bind fun v58 =>
  (bin .sub v8_2 v12).bind fun v62 =>
  (Pq Zp (Zi 9 v7_2 v62)).bind fun v63 =>
  (bin .neq v58 v63).bind fun v64 =>
  (asB v64).bind fun c64 =>
  if c64 then
   none
  else
  some (Xn [t0_3, v7_2, v8_2, v9_2, v12] W6.drew)).bind fun (r : Res) => (r.unblock 4).cont fun vs_6 W7 =>
  let t0_4 := nth vs_6 0
  let v7_3 := nth vs_6 1
  let v8_3 := nth vs_6 2
  let v9_3 := nth vs_6 3
  let v12_1 := nth vs_6 4
  (bin .add v12_1 (Vi Ki 1)).bind fun v53 =>
  some (Xn [t0_4, v7_3, v8_3, v9_3, v53] W7)
 else
 some (Xx 3 [v8_2, v9_2] W6)
noncomputable def f94.l2 (call : CallF) (vs_3 : List Value) (W4 : World) : Option Res :=
 let t0_1 := nth vs_3 0
 let v7 := nth vs_3 1
 let v8 := nth vs_3 2
 let v9 := nth vs_3 3
 (Pq Zp (Yl #[9] 3 #[t0_1])).bind fun v25 =>
 (bin .lss v9 v25).bind fun v26 =>
 (asB v26).bind fun c26 =>
 if c26 then
  ((Pq Zp (Zi 9 t0_1 v9)).bind fun v29 =>
  (Pq Zp (Zi 9 v7 v8)).bind fun v32 =>
  (bin .neq v29 v32).bind fun v33 =>
  (asB v33).bind fun c33 =>
  (if c33 then
   (bin .add v9 (Vi Ki 1)).bind fun v36 =>
   (Pq Zp (Zc 9 t0_1 (some v36) none none)).bind fun v37 =>
   (Pq Zp (Zi 9 v7 v8)).bind fun v40 =>
   (call 25 #[v37, v40] W4.drew.drew).bind fun r41 =>
   (bin .lss r41.1 (Vi Ki 0)).bind fun v43 =>
   (asB v43).bind fun c43 =>
   if c43 then
    some (Xr [(Vi Ki (-1))] r41.2)
   else
   (bin .add r41.1 (Vi Ki 1)).bind fun v46 =>
   (bin .add v9 v46).bind fun v47 =>
   some (Xn [t0_1, v7, v8, v47] r41.2)
   else
   some (Xn [t0_1, v7, v8, v9] W4.drew)).bind fun (r : Res) => r.cont fun vs_4 W5 =>
  let t0_2 := nth vs_4 0
  let v7_1 := nth vs_4 1
  let v8_1 := nth vs_4 2
  let v9_1 := nth vs_4 3
  (iter (f94.l1 call) [t0_2, v7_1, v8_1, v9_1, (Vi Ki 1)] W5).bind fun (r : Res) => (r.unblock 3).cont fun vs_7 W8 =>
  let v8_4 := nth vs_7 0
  let v9_4 := nth vs_7 1
  (bin .sub v9_4 v8_4).bind fun v67 =>
  some (Xr [v67] W8)).bind fun (r : Res) => (r.unblock 2).cont fun vs_8 W9 =>
  let t0_5 := nth vs_8 0
  let v7_4 := nth vs_8 1
  let v8_5 := nth vs_8 2
  let v9_5 := nth vs_8 3
  some (Xn [t0_5, v7_4, v8_5, v9_5] W9)
 else
 some (Xx 1 [] W4)
noncomputable def f94 (call : CallF) (t0 : Value) (o1 : Value) (W0 : World) : Option (Value × World) :=
 (((bin .leq (Vi Kj 0) o1).bind fun v162 =>
 (asB v162).bind fun b163 =>
 (if b163 = true then (bin .lss o1 (Vi Kj 128)).bind fun v165 =>
  some (v165, W0)
  else some ((Vb false), W0)).bind fun r166 =>
 (asB r166.1).bind fun c160 =>
 if c160 then
  (Pq Zp (convert 21 5 o1)).bind fun v169 =>
  (call 25 #[t0, v169] r166.2).bind fun r170 =>
  some (Xr [r170.1] r170.2)
 else
 (bin .eql o1 (Vi Kj 65533)).bind fun v173 =>
 (asB v173).bind fun c171 =>
 if c171 then
  (Eq_ Zp (Instr.range 9 t0) r166.2).bind fun r175 =>
  (iter (f94.l0 call) [r175.1] r175.2).bind fun (r : Res) => (r.unblock 9).cont fun vs_2 W3 =>
  some (Xr [(Vi Ki (-1))] W3)
 else
 (call 115 #[o1] r166.2).bind fun r185 =>
 (Pq Zp (Op.unary .not r185.1)).bind fun v186 =>
 (asB v186).bind fun c183 =>
 if c183 then
  some (Xr [(Vi Ki (-1))] r185.2)
 else
 (Eq_ Zp (convert 21 9 o1) r185.2).bind fun r18 =>
 (Pq Zp (Yl #[9] 3 #[r18.1])).bind fun v20 =>
 (bin .sub v20 (Vi Ki 1)).bind fun v21 =>
 (iter (f94.l2 call) [t0, r18.1, v21, v21] r18.2).bind fun (r : Res) => (r.unblock 1).cont fun vs_9 W10 =>
 some (Xr [(Vi Ki (-1))] W10)).bind fun (r : Res) => (r.unblock 0).cont fun vs_10 W11 =>
 let r4 := nth vs_10 0
 some (Xn [r4] W11)).bind Res.done
def f95.ann : Ann := (.s .z (.s .z .z))
noncomputable def f95 (call : CallF) (bufLen0 : Value) (W0 : World) : Option (Value × World) :=
 ((bin .gtr bufLen0 (Vi Ki 8)).bind fun v4 =>
 some (Xr [v4] W0)).bind Res.done
def f96.ann : Ann := (.s .z (.s (.s .z (.b [2] (.l [0, 2, 4] (.s (.s .z (.c .z .z)) (.s (.b [0, 2, 4] (.s .z (.s (.s .z (.c (.s .z .z) .z)) .z))) .z))))) (.s .z .z)))
noncomputable def f96.l0 (call : CallF) (vs : List Value) (W1 : World) : Option Res :=
 let chars0_1 := nth vs 0
 let as2 := nth vs 1
 let i4 := nth vs 2
 (Pq Zp (Yl #[9] 3 #[chars0_1])).bind fun v8 =>
 (bin .lss i4 v8).bind fun v9 =>
 (asB v9).bind fun c9 =>
 if c9 then
  ((Pq Zp (Zi 9 chars0_1 i4)).bind fun v14 =>
  (bin .geq v14 (Vi Ku 128)).bind fun v16 =>
  (asB v16).bind fun c16 =>
  if c16 then
   (Rq Zp (Zl 175 as2) W1).bind fun v17 =>
   (Eq_ Zp (Zs 175 as2 v17) W1).bind fun r =>
   some (Xr [as2, (Vb false)] r.2)
  else
  (Pq Zp (Zj 175 as2 v14)).bind fun v19 =>
  (Eq_ Zp (Zs 4 v19 (Vb true)) W1).bind fun r_1 =>
  some (Xn [chars0_1, as2, i4] r_1.2)).bind fun (r : Res) => (r.unblock 1).cont fun vs_1 W2 =>
  let chars0_2 := nth vs_1 0
  let as2_1 := nth vs_1 1
  let i4_1 := nth vs_1 2
  (bin .add i4_1 (Vi Ki 1)).bind fun v11 =>
  some (Xn [chars0_2, as2_1, v11] W2)
 else
 some (Xx 0 [as2] W1)
noncomputable def f96 (call : CallF) (chars0 : Value) (W0 : World) : Option (Value × World) :=
 ((Eq_ Zp (Za 175 true (.tuple #[])) W0).bind fun r2 =>
 (iter (f96.l0 call) [chars0, r2.1, (Vi Ki 0)] r2.2).bind fun (r : Res) => (r.unblock 0).cont fun vs_2 W3 =>
 let as2_2 := nth vs_2 0
 (Rq Zp (Zl 175 as2_2) W3).bind fun v20 =>
 (Eq_ Zp (Zs 175 as2_2 v20) W3).bind fun r_2 =>
 some (Xr [as2_2, (Vb true)] r_2.2)).bind (Res.doneR Zp [.cell 2 175, .tmp 3])
def f97.ann : Ann := (.s .z (.s .z .z))
noncomputable def f97 (call : CallF) (as0 : Value) (c1 : Value) (W0 : World) : Option (Value × World) :=
 ((nilV Zp as0).bind fun v7 =>
 (Pq Zp (Zj 175 v7 c1)).bind fun v8 =>
 (Rq Zp (Zl 4 v8) W0).bind fun v9 =>
 some (Xr [v9] W0)).bind Res.done
def f98.ann : Ann := (.s .z (.s .z (.s (.s .z (.c (.s .z (.s (.s .z (.j [0, 5] (.s .z (.s .z (.c (.s .z .z) .z))) .z)) (.s .z (.s (.s .z (.b [5, 6] (.l [5, 6, 47, 48, 49] (.s .z (.s (.c .z .z) (.s (.b [5, 6, 47, 48, 49] (.s .z (.s .z (.s (.s .z (.c (.s .z .z) .z)) .z)))) .z)))))) (.s (.s .z (.j [6] .z .z)) (.s .z .z)))))) .z)) (.s .z (.s .z .z)))))
noncomputable def f98.l0 (call : CallF) (vs_1 : List Value) (W2 : World) : Option Res :=
 let s05_1 := nth vs_1 0
 let n6 := nth vs_1 1
 let v47 := nth vs_1 2
 let v48_1 := nth vs_1 3
 let v49 := nth vs_1 4
 (bin .lss v49 v48_1).bind fun v50 =>
 (asB v50).bind fun c50 =>
 if c50 then
  ((Pq Zp (Zj 160 v47 v49)).bind fun v51 =>
  (Rq Zp (Zl 5 v51) W2).bind fun v52 =>
  (bin .sub v52 (Vi Ku 48)).bind fun v54 =>
  (bin .gtr v54 (Vi Ku 9)).bind fun v56 =>
  (asB v56).bind fun c56 =>
  if c56 then
   (Pq Zp (Zm 198 (Vi Ki 2))).bind fun v57 =>
   some (Xr [(Vi Ki 0), v57] W2)
  else
  (bin .mul n6 (Vi Ki 10)).bind fun v59 =>
  (Pq Zp (convert 5 3 v54)).bind fun v61 =>
  (bin .add v59 v61).bind fun v62 =>
  some (Xn [s05_1, v62, v47, v48_1, v49] W2)).bind fun (r : Res) => (r.unblock 1).cont fun vs_2 W3 =>
  let s05_2 := nth vs_2 0
  let n6_1 := nth vs_2 1
  let v47_1 := nth vs_2 2
  let v48_2 := nth vs_2 3
  let v49_1 := nth vs_2 4
  (bin .add v49_1 (Vi Ki 1)).bind fun v63 =>
  some (Xn [s05_2, n6_1, v47_1, v48_2, v63] W3)
 else
 some (Xx 0 [s05_1, n6] W2)
noncomputable def f98 (call : CallF) (s0 : Value) (W0 : World) : Option (Value × World) :=
 ((Pq Zp (Yl #[9] 3 #[s0])).bind fun v12 =>
 (asB (Vb false)).bind fun b13 =>
 (if b13 = true then (bin .lss (Vi Ki 0) v12).bind fun v15 =>
  (asB v15).bind fun b16 =>
  (if b16 = true then (bin .lss v12 (Vi Ki 10)).bind fun v18 =>
   some (v18, W0)
   else some ((Vb false), W0)).bind fun r19 =>
  some (r19.1, r19.2)
  else some ((Vb false), W0)).bind fun r20 =>
 (asB r20.1).bind fun b21 =>
 (if b21 = false then (asB (Vb true)).bind fun b22 =>
  (if b22 = true then (bin .lss (Vi Ki 0) v12).bind fun v24 =>
   (asB v24).bind fun b25 =>
   (if b25 = true then (bin .lss v12 (Vi Ki 19)).bind fun v27 =>
    some (v27, r20.2)
    else some ((Vb false), r20.2)).bind fun r28 =>
   some (r28.1, r28.2)
   else some ((Vb false), r20.2)).bind fun r29 =>
  some (r29.1, r29.2)
  else some ((Vb true), r20.2)).bind fun r30 =>
 (asB r30.1).bind fun c30 =>
 if c30 then
  (Pq Zp (Zi 9 s0 (Vi Ki 0))).bind fun v33 =>
  (bin .eql v33 (Vi Ku 45)).bind fun v34 =>
  (asB v34).bind fun b35 =>
  (if b35 = false then (Pq Zp (Zi 9 s0 (Vi Ki 0))).bind fun v37 =>
   (bin .eql v37 (Vi Ku 43)).bind fun v38 =>
   some (v38, r30.2)
   else some ((Vb true), r30.2)).bind fun r39 =>
  (asB r39.1).bind fun c39 =>
  (if c39 then
   (Pq Zp (Zc 9 s0 (some (Vi Ki 1)) none none)).bind fun v41 =>
   (Pq Zp (Yl #[9] 3 #[v41])).bind fun v43 =>
   (bin .lss v43 (Vi Ki 1)).bind fun v44 =>
   (asB v44).bind fun c44 =>
   if c44 then
    (Pq Zp (Zm 198 (Vi Ki 2))).bind fun v45 =>
    some (Xr [(Vi Ki 0), v45] r39.2)
   else
   some (Xn [v41, s0] r39.2)
   else
   some (Xn [s0, s0] r39.2)).bind fun (r : Res) => r.cont fun vs W1 =>
  let s0_1 := nth vs 0
  let s05 := nth vs 1
  (Eq_ Zp (convert 9 160 s0_1) W1).bind fun r47 =>
  (Pq Zp (Yl #[160] 3 #[r47.1])).bind fun v48 =>
  (iter (f98.l0 call) [s05, (Vi Ki 0), r47.1, v48, (Vi Ki 0)] r47.2).bind fun (r : Res) => (r.unblock 0).cont fun vs_3 W4 =>
  let s05_3 := nth vs_3 0
  let n6_2 := nth vs_3 1
  (Pq Zp (Zi 9 s05_3 (Vi Ki 0))).bind fun v65 =>
  (bin .eql v65 (Vi Ku 45)).bind fun v66 =>
  (asB v66).bind fun c66 =>
  (if c66 then
   (Pq Zp (Op.unary .neg n6_2)).bind fun v68 =>
   some (Xn [v68] W4)
   else
   some (Xn [n6_2] W4)).bind fun (r : Res) => r.cont fun vs_4 W5 =>
  let n6_3 := nth vs_4 0
  some (Xr [n6_3, Vn] W5)
 else
 (call 118 #[s0, (Vi Ki 10), (Vi Ki 0)] r30.2).bind fun r72 =>
 (Pq Zp (Zx r72.1 0)).bind fun v73 =>
 (Pq Zp (Zx r72.1 1)).bind fun v74 =>
 some (Xr [v73, v74] r72.2)).bind Res.done
def f99.ann : Ann := (.s .z (.s (.s .z (.b [4] (.s .z (.c (.s .z .z) (.s .z (.c (.s .z .z) (.s .z (.c (.s .z .z) (.s .z (.c (.s .z .z) .z)))))))))) (.s .z .z)))
noncomputable def f99 (call : CallF) (fn0 : Value) (s1 : Value) (base2 : Value) (bitSize3 : Value) (err4 : Value) (W0 : World) : Option (Value × World) :=
 (((Pq Zp (Zm 198 (Vi Ki 2))).bind fun v13 =>
 (Rq Zp (do eqGuard .eql 32 (Ot 11) (Ot 13) err4 v13; binOp .eql 32 err4 v13) W0).bind fun v14 =>
 (asB v14).bind fun c12 =>
 if c12 then
  (call 119 #[fn0, s1] W0).bind fun r17 =>
  (Pq Zp (Zm 201 r17.1)).bind fun v18 =>
  some (Xr [v18] r17.2)
 else
 (Pq Zp (Zm 198 (Vi Ki 1))).bind fun v20 =>
 (Rq Zp (do eqGuard .eql 32 (Ot 11) (Ot 20) err4 v20; binOp .eql 32 err4 v20) W0).bind fun v21 =>
 (asB v21).bind fun c19 =>
 if c19 then
  (call 120 #[fn0, s1] W0).bind fun r24 =>
  (Pq Zp (Zm 201 r24.1)).bind fun v25 =>
  some (Xr [v25] r24.2)
 else
 (Pq Zp (Zm 198 (Vi Ki 3))).bind fun v27 =>
 (Rq Zp (do eqGuard .eql 32 (Ot 11) (Ot 27) err4 v27; binOp .eql 32 err4 v27) W0).bind fun v28 =>
 (asB v28).bind fun c26 =>
 if c26 then
  (call 121 #[fn0, s1, base2] W0).bind fun r32 =>
  (Pq Zp (Zm 201 r32.1)).bind fun v33 =>
  some (Xr [v33] r32.2)
 else
 (Pq Zp (Zm 198 (Vi Ki 4))).bind fun v35 =>
 (Rq Zp (do eqGuard .eql 32 (Ot 11) (Ot 35) err4 v35; binOp .eql 32 err4 v35) W0).bind fun v36 =>
 (asB v36).bind fun c34 =>
 if c34 then
  (call 122 #[fn0, s1, bitSize3] W0).bind fun r40 =>
  (Pq Zp (Zm 201 r40.1)).bind fun v41 =>
  some (Xr [v41] r40.2)
 else
 some (Xn [err4] W0)).bind fun (r : Res) => (r.unblock 0).cont fun vs W1 =>
 let err4_1 := nth vs 0
 some (Xr [err4_1] W1)).bind Res.done
def f100.ann : Ann := (.s .z (.s .z (.s (.s .z (.c (.s .z .z) .z)) (.s .z (.s (.s .z (.c (.s .z .z) .z)) (.s .z .z))))))
noncomputable def f100 (call : CallF) (r0 : Value) (s1 : Value) (W0 : World) : Option (Value × World) :=
 ((call 80 #[r0] W0).bind fun r13 =>
 (Pq Zp (Zx r13.1 0)).bind fun v14 =>
 (Pq Zp (Zx r13.1 1)).bind fun v15 =>
 (Eq_ Zp (Za 145 true (.tuple #[])) r13.2).bind fun r6 =>
 (Eq_ Zp (Zs 145 r6.1 v14) r6.2).bind fun r =>
 (Pq Zp (Op.unary .not v15)).bind fun v17 =>
 (asB v17).bind fun c17 =>
 if c17 then
  (Pq Zp (Zb 83 #[(0, (Vi Ki 0)), (1, (Vi Ki 181))])).bind fun v18 =>
  (Eq_ Zp (Zo 83 v18) r.2).bind fun r19 =>
  (Pq Zp (Zm 82 r19.1)).bind fun v20 =>
  some (Xr [(Vi Ki 0), v20] r19.2)
 else
 (Rq Zp (Zl 145 r6.1) r.2).bind fun v22 =>
 (call 123 #[v22, s1] r.2).bind fun r24 =>
 (Pq Zp (Zx r24.1 0)).bind fun v25 =>
 (Pq Zp (Zx r24.1 1)).bind fun v26 =>
 (Pq Zp (Zx r24.1 2)).bind fun v27 =>
 (bin .neq v27 (Vi Ki 0)).bind fun v29 =>
 (asB v29).bind fun c29 =>
 if c29 then
  (Pq Zp (Zb 83 #[(0, v26), (1, v27)])).bind fun v32 =>
  (Eq_ Zp (Zo 83 v32) r24.2).bind fun r33 =>
  (Pq Zp (Zm 82 r33.1)).bind fun v34 =>
  some (Xr [(Vi Ki 0), v34] r33.2)
 else
 some (Xr [v25, Vn] r24.2)).bind Res.done
def f101.ann : Ann := (.s .z (.s (.s .z (.c (.s .z .z) .z)) (.s .z (.s (.s .z (.b [3] (.l [0, 3, 4] (.s (.s .z (.c .z .z)) (.s (.b [0, 3, 4] (.s (.s .z (.c (.s .z .z) .z)) .z)) .z))))) (.s (.s .z (.c (.s .z .z) .z)) (.s .z .z))))))
noncomputable def f101.l0 (call : CallF) (vs : List Value) (W1 : World) : Option Res :=
 let s0_1 := nth vs 0
 let n3 := nth vs 1
 let i4 := nth vs 2
 (Pq Zp (Yl #[9] 3 #[s0_1])).bind fun v19 =>
 (bin .lss i4 v19).bind fun v20 =>
 (asB v20).bind fun c20 =>
 if c20 then
  ((Pq Zp (Zi 9 s0_1 i4)).bind fun v25 =>
  (bin .lss v25 (Vi Ku 48)).bind fun v26 =>
  (asB v26).bind fun b27 =>
  (if b27 = false then (Pq Zp (Zi 9 s0_1 i4)).bind fun v30 =>
   (bin .gtr v30 (Vi Ku 57)).bind fun v31 =>
   some (v31, W1)
   else some ((Vb true), W1)).bind fun r32 =>
  (asB r32.1).bind fun c32 =>
  if c32 then
   some (Xr [(Vi Ki 0)] r32.2)
  else
  (bin .mul (Vi Ki 10) n3).bind fun v34 =>
  (Pq Zp (Zi 9 s0_1 i4)).bind fun v37 =>
  (bin .sub v37 (Vi Ku 48)).bind fun v38 =>
  (Pq Zp (convert 5 3 v38)).bind fun v39 =>
  (bin .add v34 v39).bind fun v40 =>
  some (Xn [s0_1, v40, i4] r32.2)).bind fun (r : Res) => (r.unblock 1).cont fun vs_1 W2 =>
  let s0_2 := nth vs_1 0
  let n3_1 := nth vs_1 1
  let i4_1 := nth vs_1 2
  (bin .add i4_1 (Vi Ki 1)).bind fun v22 =>
  some (Xn [s0_2, n3_1, v22] W2)
 else
 some (Xx 0 [n3] W1)
noncomputable def f101 (call : CallF) (s0 : Value) (W0 : World) : Option (Value × World) :=
 ((Pq Zp (do eqGuard .eql 9 (Ot 5) (Oc (Vs { data := #[] })) s0 (Vs { data := #[] }); binOp .eql 9 s0 (Vs { data := #[] }))).bind fun v6 =>
 (asB v6).bind fun b7 =>
 (if b7 = false then (Pq Zp (Yl #[9] 3 #[s0])).bind fun v9 =>
  (bin .gtr v9 (Vi Ki 3)).bind fun v10 =>
  some (v10, W0)
  else some ((Vb true), W0)).bind fun r11 =>
 (asB r11.1).bind fun b12 =>
 (if b12 = false then (Pq Zp (Zi 9 s0 (Vi Ki 0))).bind fun v14 =>
  (bin .eql v14 (Vi Ku 48)).bind fun v15 =>
  some (v15, r11.2)
  else some ((Vb true), r11.2)).bind fun r16 =>
 (asB r16.1).bind fun c16 =>
 if c16 then
  some (Xr [(Vi Ki 0)] r16.2)
 else
 (iter (f101.l0 call) [s0, (Vi Ki 0), (Vi Ki 0)] r16.2).bind fun (r : Res) => (r.unblock 0).cont fun vs_2 W3 =>
 let n3_2 := nth vs_2 0
 (bin .gtr n3_2 (Vi Ki 100)).bind fun v42 =>
 (asB v42).bind fun c42 =>
 if c42 then
  some (Xr [(Vi Ki 0)] W3)
 else
 some (Xr [n3_2] W3)).bind Res.done
def f102.ann : Ann := (.s .z (.s (.s .z (.b [0] (.l [0, 3] (.s (.s .z (.c .z .z)) (.s (.b [0, 3] (.s .z (.s .z (.c (.s .z .z) .z)))) .z))))) (.s .z .z)))
noncomputable def f102.l0 (call : CallF) (vs : List Value) (W1 : World) : Option Res :=
 let s0_1 := nth vs 0
 let i3 := nth vs 1
 (Pq Zp (Yl #[9] 3 #[s0_1])).bind fun v7 =>
 (bin .lss i3 v7).bind fun v8 =>
 (asB v8).bind fun c8 =>
 if c8 then
  ((Pq Zp (Zi 9 s0_1 i3)).bind fun v13 =>
  (bin .geq v13 (Vi Ku 97)).bind fun v15 =>
  (asB v15).bind fun b16 =>
  (if b16 = true then (bin .leq v13 (Vi Ku 122)).bind fun v18 =>
   some (v18, W1)
   else some ((Vb false), W1)).bind fun r19 =>
  (asB r19.1).bind fun b20 =>
  (if b20 = false then (bin .geq v13 (Vi Ku 48)).bind fun v22 =>
   (asB v22).bind fun b23 =>
   (if b23 = true then (bin .leq v13 (Vi Ku 57)).bind fun v25 =>
    some (v25, r19.2)
    else some ((Vb false), r19.2)).bind fun r26 =>
   some (r26.1, r26.2)
   else some ((Vb true), r19.2)).bind fun r27 =>
  (asB r27.1).bind fun b28 =>
  (if b28 = false then (bin .eql v13 (Vi Ku 95)).bind fun v30 =>
   some (v30, r27.2)
   else some ((Vb true), r27.2)).bind fun r31 =>
  (asB r31.1).bind fun b32 =>
  (if b32 = false then (bin .eql v13 (Vi Ku 45)).bind fun v34 =>
   some (v34, r31.2)
   else some ((Vb true), r31.2)).bind fun r35 =>
  (Pq Zp (Op.unary .not r35.1)).bind fun v36 =>
  (asB v36).bind fun c36 =>
  if c36 then
   some (Xr [(Vb false)] r35.2)
  else
  some (Xn [s0_1, i3] r35.2)).bind fun (r : Res) => (r.unblock 1).cont fun vs_1 W2 =>
  let s0_2 := nth vs_1 0
  let i3_1 := nth vs_1 1
  (bin .add i3_1 (Vi Ki 1)).bind fun v10 =>
  some (Xn [s0_2, v10] W2)
 else
 some (Xx 0 [s0_1] W1)
noncomputable def f102 (call : CallF) (s0 : Value) (W0 : World) : Option (Value × World) :=
 ((iter (f102.l0 call) [s0, (Vi Ki 0)] W0).bind fun (r : Res) => (r.unblock 0).cont fun vs_2 W3 =>
 let s0_3 := nth vs_2 0
 (Pq Zp (Yl #[9] 3 #[s0_3])).bind fun v38 =>
 (bin .geq v38 (Vi Ki 1)).bind fun v39 =>
 (asB v39).bind fun b40 =>
 (if b40 = true then (Pq Zp (Yl #[9] 3 #[s0_3])).bind fun v42 =>
  (bin .leq v42 (Vi Ki 16)).bind fun v43 =>
  some (v43, W3)
  else some ((Vb false), W3)).bind fun r44 =>
 some (Xr [r44.1] r44.2)).bind Res.done
def f103.ann : Ann := (.s .z (.s .z (.s (.s .z (.c (.s .z .z) .z)) (.s .z (.s (.s .z (.c (.s .z .z) .z)) (.s .z (.s .z (.s .z (.s .z (.s (.b [0, 9, 10, 11, 12] (.s .z (.c (.s .z .z) (.s .z (.c (.s .z .z) (.s .z (.c (.s .z .z) (.s .z (.c (.s .z .z) .z))))))))) (.s .z (.s .z (.s (.s .z (.c (.s .z .z) .z)) (.s .z (.s (.s .z (.b [15] (.l [0, 13, 15, 16] (.s (.s .z (.c .z .z)) (.s (.b [0, 13, 15, 16] .z) .z))))) (.s .z .z))))))))))))))))
noncomputable def f103.l0 (call : CallF) (vs_1 : List Value) (W2 : World) : Option Res :=
 let r0_2 := nth vs_1 0
 let m13 := nth vs_1 1
 let n15 := nth vs_1 2
 let i16 := nth vs_1 3
 (bin .lss i16 m13).bind fun v71 =>
 (asB v71).bind fun c71 =>
 if c71 then
  ((call 87 #[r0_2] W2).bind fun r76 =>
  (bin .mul (Vi Ki 60) r76.1).bind fun v77 =>
  (bin .add n15 v77).bind fun v78 =>
  (call 108 #[r0_2, i16] r76.2).bind fun r81 =>
  (bin .sub v78 r81.1).bind fun v82 =>
  some (Xn [r0_2, m13, v82, i16] r81.2)).bind fun (r : Res) => (r.unblock 2).cont fun vs_2 W3 =>
  let r0_3 := nth vs_2 0
  let m13_1 := nth vs_2 1
  let n15_1 := nth vs_2 2
  let i16_1 := nth vs_2 3
  (bin .add i16_1 (Vi Ki 1)).bind fun v73 =>
  some (Xn [r0_3, m13_1, n15_1, v73] W3)
 else
 some (Xx 1 [n15] W2)
noncomputable def f103 (call : CallF) (r0 : Value) (s1 : Value) (W0 : World) : Option (Value × World) :=
 ((call 124 #[r0] W0).bind fun r18 =>
 (Pq Zp (Op.unary .not r18.1)).bind fun v20 =>
 (asB v20).bind fun c20 =>
 if c20 then
  some (Xr [(Vi Ki 0), (Vi Ki 0), (Vi Ki 181)] r18.2)
 else
 (call 125 #[r0, s1] r18.2).bind fun r23 =>
 (bin .geq r23.1 (Vi Ki 0)).bind fun v25 =>
 (asB v25).bind fun c25 =>
 if c25 then
  some (Xr [(Vi Ki 0), r23.1, (Vi Ki 182)] r23.2)
 else
 (call 126 #[s1, (Vi Ki 0)] r23.2).bind fun r28 =>
 (call 126 #[s1, (Vi Ki 3)] r28.2).bind fun r30 =>
 (call 126 #[s1, (Vi Ki 6)] r30.2).bind fun r32 =>
 (call 126 #[s1, (Vi Ki 9)] r32.2).bind fun r34 =>
 ((bin .gtr r28.1 (Vi Ki 23)).bind fun v37 =>
 (asB v37).bind fun c35 =>
 if c35 then
  some (Xr [(Vi Ki 0), (Vi Ki 0), (Vi Ki 184)] r34.2)
 else
 (bin .gtr r30.1 (Vi Ki 59)).bind fun v40 =>
 (asB v40).bind fun c38 =>
 if c38 then
  some (Xr [(Vi Ki 0), (Vi Ki 3), (Vi Ki 182)] r34.2)
 else
 (bin .gtr r32.1 (Vi Ki 59)).bind fun v43 =>
 (asB v43).bind fun c41 =>
 if c41 then
  some (Xr [(Vi Ki 0), (Vi Ki 6), (Vi Ki 182)] r34.2)
 else
 (call 87 #[r0] r34.2).bind fun r47 =>
 (bin .geq r34.1 r47.1).bind fun v48 =>
 (asB v48).bind fun c44 =>
 if c44 then
  some (Xr [(Vi Ki 0), (Vi Ki 9), (Vi Ki 182)] r47.2)
 else
 some (Xn [r0, r28.1, r30.1, r32.1, r34.1] r47.2)).bind fun (r : Res) => (r.unblock 0).cont fun vs W1 =>
 let r0_1 := nth vs 0
 let hour9 := nth vs 1
 let minute10 := nth vs 2
 let second11 := nth vs 3
 let frame12 := nth vs 4
 (bin .mul (Vi Ki 60) hour9).bind fun v50 =>
 (bin .add v50 minute10).bind fun v52 =>
 (call 87 #[r0_1] W1).bind fun r54 =>
 (bin .mul r54.1 second11).bind fun v56 =>
 (bin .add v56 frame12).bind fun v58 =>
 (call 108 #[r0_1, v52] r54.2).bind fun r62 =>
 (bin .lss v58 r62.1).bind fun v63 =>
 (asB v63).bind fun c63 =>
 if c63 then
  some (Xr [(Vi Ki 0), (Vi Ki 9), (Vi Ki 183)] r62.2)
 else
 (call 108 #[r0_1, v52] r62.2).bind fun r67 =>
 (bin .sub v58 r67.1).bind fun v68 =>
 (iter (f103.l0 call) [r0_1, v52, v68, (Vi Ki 0)] r67.2).bind fun (r : Res) => (r.unblock 1).cont fun vs_3 W4 =>
 let n15_2 := nth vs_3 0
 some (Xr [n15_2, (Vi Ki 0), (Vi Ki 0)] W4)).bind Res.done
def f106.ann : Ann := (.s .z (.s .z .z))
noncomputable def f106 (call : CallF) (x0 : Value) (W0 : World) : Option (Value × World) :=
 ((Eq_ Zp (Zo 145 x0) W0).bind fun r1 =>
 (Pq Zp (Zf 145 r1.1 0)).bind fun v3 =>
 (Rq Zp (Zl 3 v3) r1.2).bind fun v4 =>
 (bin .mul (Vi Ki 600) v4).bind fun v5 =>
 (Pq Zp (Zf 145 r1.1 3)).bind fun v6 =>
 (Rq Zp (Zl 3 v6) r1.2).bind fun v7 =>
 (bin .mul (Vi Ki 9) v7).bind fun v8 =>
 (bin .sub v5 v8).bind fun v9 =>
 some (Xr [v9] r1.2)).bind Res.done
def f108.ann : Ann := (.s .z (.s (.s .z (.c (.s .z .z) .z)) (.s (.s .z (.b [] (.s .z (.c (.s .z .z) (.s .z (.c (.s .z .z) .z)))))) (.s .z .z))))
noncomputable def f108 (call : CallF) (r0 : Value) (minute1 : Value) (W0 : World) : Option (Value × World) :=
 ((bin .rem minute1 (Vi Ki 10)).bind fun v6 =>
 (bin .eql v6 (Vi Ki 0)).bind fun v7 =>
 (asB v7).bind fun c7 =>
 if c7 then
  some (Xr [(Vi Ki 0)] W0)
 else
 ((bin .eql r0 (Vi Ki 4)).bind fun v10 =>
 (asB v10).bind fun c9 =>
 if c9 then
  some (Xr [(Vi Ki 2)] W0)
 else
 (bin .eql r0 (Vi Ki 7)).bind fun v12 =>
 (asB v12).bind fun c11 =>
 if c11 then
  some (Xr [(Vi Ki 4)] W0)
 else
 some (Xn [] W0)).bind fun (r : Res) => (r.unblock 0).cont fun vs W1 =>
 some (Xr [(Vi Ki 0)] W1)).bind Res.done
def f109.ann : Ann := (.s .z (.s .z (.b [4] (.s .z (.c (.s .z .z) (.s (.s .z (.j [0, 1, 5, 25] .z .z)) (.c (.s .z .z) (.s .z (.c (.s .z .z) (.s .z .z))))))))))
noncomputable def f109 (call : CallF) (p0 : Value) (r1 : Value) (W0 : World) : Option (Value × World) :=
 ((Pq Zp (convert 21 190 r1)).bind fun v7 =>
 ((bin .leq v7 (Vi Kw 2047)).bind fun v13 =>
 (asB v13).bind fun c11 =>
 if c11 then
  (Pq Zp (do eqGuard .shr 21 (Ot 15) (Oc (Vi Kv 6)) r1 (Vi Kv 6); binOp .shr 21 r1 (Vi Kv 6))).bind fun v16 =>
  (Pq Zp (convert 21 5 v16)).bind fun v17 =>
  (Pq Zp (do eqGuard .or 5 (Oc (Vi Ku 192)) (Ot 17) (Vi Ku 192) v17; binOp .or 5 (Vi Ku 192) v17)).bind fun v18 =>
  (Pq Zp (convert 21 5 r1)).bind fun v20 =>
  (Pq Zp (do eqGuard .and 5 (Ot 20) (Oc (Vi Ku 63)) v20 (Vi Ku 63); binOp .and 5 v20 (Vi Ku 63))).bind fun v21 =>
  (Pq Zp (do eqGuard .or 5 (Oc (Vi Ku 128)) (Ot 21) (Vi Ku 128) v21; binOp .or 5 (Vi Ku 128) v21)).bind fun v22 =>
  (Eq_ Zp (Instr.buildSlice 160 2 #[(0, v18), (1, v22)]) W0).bind fun r23 =>
  (Eq_ Zp (Yb #[160, 160] 160 #[p0, r23.1]) r23.2).bind fun r24 =>
  some (Xr [r24.1] r24.2)
 else
 (bin .lss v7 (Vi Kw 55296)).bind fun v27 =>
 (asB v27).bind fun c25 =>
 (if c25 then
  some (Xn [p0, r1, v7, v27] W0)
  else
  (bin .lss (Vi Kw 57343) v7).bind fun v29 =>
  (asB v29).bind fun b30 =>
  (if b30 = true then (bin .leq v7 (Vi Kw 65535)).bind fun v32 =>
   some (v32, W0)
   else some ((Vb false), W0)).bind fun r33 =>
  some (Xn [p0, r1, v7, r33.1] r33.2)).bind fun (r : Res) => r.cont fun vs W1 =>
 let p0_1 := nth vs 0
 let r1_1 := nth vs 1
 let i5 := nth vs 2
 let v25 := nth vs 3
 (asB v25).bind fun c25_1 =>
 if c25_1 then
  (Pq Zp (do eqGuard .shr 21 (Ot 35) (Oc (Vi Kv 12)) r1_1 (Vi Kv 12); binOp .shr 21 r1_1 (Vi Kv 12))).bind fun v36 =>
  (Pq Zp (convert 21 5 v36)).bind fun v37 =>
  (Pq Zp (do eqGuard .or 5 (Oc (Vi Ku 224)) (Ot 37) (Vi Ku 224) v37; binOp .or 5 (Vi Ku 224) v37)).bind fun v38 =>
  (Pq Zp (do eqGuard .shr 21 (Ot 39) (Oc (Vi Kv 6)) r1_1 (Vi Kv 6); binOp .shr 21 r1_1 (Vi Kv 6))).bind fun v40 =>
  (Pq Zp (convert 21 5 v40)).bind fun v41 =>
  (Pq Zp (do eqGuard .and 5 (Ot 41) (Oc (Vi Ku 63)) v41 (Vi Ku 63); binOp .and 5 v41 (Vi Ku 63))).bind fun v42 =>
  (Pq Zp (do eqGuard .or 5 (Oc (Vi Ku 128)) (Ot 42) (Vi Ku 128) v42; binOp .or 5 (Vi Ku 128) v42)).bind fun v43 =>
  (Pq Zp (convert 21 5 r1_1)).bind fun v45 =>
  (Pq Zp (do eqGuard .and 5 (Ot 45) (Oc (Vi Ku 63)) v45 (Vi Ku 63); binOp .and 5 v45 (Vi Ku 63))).bind fun v46 =>
  (Pq Zp (do eqGuard .or 5 (Oc (Vi Ku 128)) (Ot 46) (Vi Ku 128) v46; binOp .or 5 (Vi Ku 128) v46)).bind fun v47 =>
  (Eq_ Zp (Instr.buildSlice 160 3 #[(0, v38), (1, v43), (2, v47)]) W1).bind fun r48 =>
  (Eq_ Zp (Yb #[160, 160] 160 #[p0_1, r48.1]) r48.2).bind fun r49 =>
  some (Xr [r49.1] r49.2)
 else
 (bin .gtr i5 (Vi Kw 65535)).bind fun v52 =>
 (asB v52).bind fun b53 =>
 (if b53 = true then (bin .leq i5 (Vi Kw 1114111)).bind fun v55 =>
  some (v55, W1)
  else some ((Vb false), W1)).bind fun r56 =>
 (asB r56.1).bind fun c50 =>
 if c50 then
  (Pq Zp (do eqGuard .shr 21 (Ot 58) (Oc (Vi Kv 18)) r1_1 (Vi Kv 18); binOp .shr 21 r1_1 (Vi Kv 18))).bind fun v59 =>
  (Pq Zp (convert 21 5 v59)).bind fun v60 =>
  (Pq Zp (do eqGuard .or 5 (Oc (Vi Ku 240)) (Ot 60) (Vi Ku 240) v60; binOp .or 5 (Vi Ku 240) v60)).bind fun v61 =>
  (Pq Zp (do eqGuard .shr 21 (Ot 62) (Oc (Vi Kv 12)) r1_1 (Vi Kv 12); binOp .shr 21 r1_1 (Vi Kv 12))).bind fun v63 =>
  (Pq Zp (convert 21 5 v63)).bind fun v64 =>
  (Pq Zp (do eqGuard .and 5 (Ot 64) (Oc (Vi Ku 63)) v64 (Vi Ku 63); binOp .and 5 v64 (Vi Ku 63))).bind fun v65 =>
  (Pq Zp (do eqGuard .or 5 (Oc (Vi Ku 128)) (Ot 65) (Vi Ku 128) v65; binOp .or 5 (Vi Ku 128) v65)).bind fun v66 =>
  (Pq Zp (do eqGuard .shr 21 (Ot 67) (Oc (Vi Kv 6)) r1_1 (Vi Kv 6); binOp .shr 21 r1_1 (Vi Kv 6))).bind fun v68 =>
  (Pq Zp (convert 21 5 v68)).bind fun v69 =>
  (Pq Zp (do eqGuard .and 5 (Ot 69) (Oc (Vi Ku 63)) v69 (Vi Ku 63); binOp .and 5 v69 (Vi Ku 63))).bind fun v70 =>
  (Pq Zp (do eqGuard .or 5 (Oc (Vi Ku 128)) (Ot 70) (Vi Ku 128) v70; binOp .or 5 (Vi Ku 128) v70)).bind fun v71 =>
  (Pq Zp (convert 21 5 r1_1)).bind fun v73 =>
  (Pq Zp (do eqGuard .and 5 (Ot 73) (Oc (Vi Ku 63)) v73 (Vi Ku 63); binOp .and 5 v73 (Vi Ku 63))).bind fun v74 =>
  (Pq Zp (do eqGuard .or 5 (Oc (Vi Ku 128)) (Ot 74) (Vi Ku 128) v74; binOp .or 5 (Vi Ku 128) v74)).bind fun v75 =>
  (Eq_ Zp (Instr.buildSlice 160 4 #[(0, v61), (1, v66), (2, v71), (3, v75)]) r56.2).bind fun r76 =>
  (Eq_ Zp (Yb #[160, 160] 160 #[p0_1, r76.1]) r76.2).bind fun r77 =>
  some (Xr [r77.1] r77.2)
 else
 (Eq_ Zp (Instr.buildSlice 160 3 #[(0, (Vi Ku 239)), (1, (Vi Ku 191)), (2, (Vi Ku 189))]) r56.2).bind fun r9 =>
 (Eq_ Zp (Yb #[160, 160] 160 #[p0_1, r9.1]) r9.2).bind fun r10 =>
 some (Xr [r10.1] r10.2)).bind fun (r : Res) => (r.unblock 0).cont fun vs_1 W2 =>
 let v4 := nth vs_1 0
 some (Xn [v4] W2)).bind Res.done
def f113.ann : Ann := (.s .z (.s (.s .z (.c (.s .z .z) .z)) (.s .z .z)))
noncomputable def f113 (call : CallF) (x0 : Value) (W0 : World) : Option (Value × World) :=
 ((Eq_ Zp (Zo 145 x0) W0).bind fun r1 =>
 (Pq Zp (Zf 145 r1.1 3)).bind fun v3 =>
 (Rq Zp (Zl 3 v3) r1.2).bind fun v4 =>
 (bin .gtr v4 (Vi Ki 0)).bind fun v5 =>
 (asB v5).bind fun c5 =>
 if c5 then
  some (Xr [(Vi Ku 59)] r1.2)
 else
 some (Xr [(Vi Ku 58)] r1.2)).bind Res.done
def f114.ann : Ann := (.s .z (.s .z .z))
noncomputable def f114 (call : CallF) (i0 : Value) (W0 : World) : Option (Value × World) :=
 ((call 128 #[i0, (Vi Ki 10)] W0).bind fun r4 =>
 some (Xr [r4.1] r4.2)).bind Res.done
def f115.ann : Ann := (.s .z (.s (.b [] (.s .z (.c (.s .z .z) (.s .z (.c (.s .z .z) .z))))) (.s .z .z)))
noncomputable def f115 (call : CallF) (r0 : Value) (W0 : World) : Option (Value × World) :=
 (((bin .leq (Vi Kj 0) r0).bind fun v5 =>
 (asB v5).bind fun b6 =>
 (if b6 = true then (bin .lss r0 (Vi Kj 55296)).bind fun v8 =>
  some (v8, W0)
  else some ((Vb false), W0)).bind fun r9 =>
 (asB r9.1).bind fun c3 =>
 if c3 then
  some (Xr [(Vb true)] r9.2)
 else
 (bin .lss (Vi Kj 57343) r0).bind fun v12 =>
 (asB v12).bind fun b13 =>
 (if b13 = true then (bin .leq r0 (Vi Kj 1114111)).bind fun v15 =>
  some (v15, r9.2)
  else some ((Vb false), r9.2)).bind fun r16 =>
 (asB r16.1).bind fun c10 =>
 if c10 then
  some (Xr [(Vb true)] r16.2)
 else
 some (Xn [] r16.2)).bind fun (r : Res) => (r.unblock 0).cont fun vs W1 =>
 some (Xr [(Vb false)] W1)).bind Res.done
def f118.ann : Ann := (.s .z (.s (.s .z (.c (.s .z .z) .z)) (.s .z (.s (.s .z (.b [0, 1, 2, 8] (.s .z (.c .z (.s .z (.c (.s .z .z) .z)))))) (.s .z (.s .z (.s (.s .z (.c (.s .z .z) .z)) (.s (.s .z (.j [2, 8, 9] .z .z)) (.s .z (.s (.s .z (.c (.s .z .z) .z)) (.s (.s .z (.c (.s .z .z) .z)) (.s .z (.s (.s .z (.j [11] .z .z)) (.s .z .z))))))))))))))
noncomputable def f118 (call : CallF) (s0 : Value) (base1 : Value) (bitSize2 : Value) (W0 : World) : Option (Value × World) :=
 ((Pq Zp (do eqGuard .eql 9 (Ot 12) (Oc (Vs { data := #[] })) s0 (Vs { data := #[] }); binOp .eql 9 s0 (Vs { data := #[] }))).bind fun v13 =>
 (asB v13).bind fun c13 =>
 if c13 then
  (Pq Zp (Zm 198 (Vi Ki 2))).bind fun v14 =>
  some (Xr [(Vi Ki 0), v14] W0)
 else
 (Pq Zp (Zi 9 s0 (Vi Ki 0))).bind fun v16 =>
 ((bin .eql v16 (Vi Ku 43)).bind fun v18 =>
 (asB v18).bind fun c17 =>
 if c17 then
  (Pq Zp (Zc 9 s0 (some (Vi Ki 1)) none none)).bind fun v20 =>
  some (Xn [v20, base1, bitSize2, (Vb false)] W0)
 else
 (bin .eql v16 (Vi Ku 45)).bind fun v22 =>
 (asB v22).bind fun c21 =>
 if c21 then
  (Pq Zp (Zc 9 s0 (some (Vi Ki 1)) none none)).bind fun v24 =>
  some (Xn [v24, base1, bitSize2, (Vb true)] W0)
 else
 some (Xn [s0, base1, bitSize2, (Vb false)] W0)).bind fun (r : Res) => (r.unblock 0).cont fun vs W1 =>
 let s0_1 := nth vs 0
 let base1_1 := nth vs 1
 let bitSize2_1 := nth vs 2
 let neg8 := nth vs 3
 (call 129 #[s0_1, base1_1, bitSize2_1] W1).bind fun r29 =>
 (Pq Zp (Zx r29.1 0)).bind fun v30 =>
 (Pq Zp (Zx r29.1 1)).bind fun v31 =>
 (Rq Zp (do eqGuard .neq 32 (Ot 32) (Oc Vn) v31 Vn; binOp .neq 32 v31 Vn) r29.2).bind fun v33 =>
 (asB v33).bind fun b34 =>
 (if b34 = true then (Pq Zp (Zm 198 (Vi Ki 1))).bind fun v36 =>
  (Rq Zp (do eqGuard .neq 32 (Ot 35) (Ot 36) v31 v36; binOp .neq 32 v31 v36) r29.2).bind fun v37 =>
  some (v37, r29.2)
  else some ((Vb false), r29.2)).bind fun r38 =>
 (asB r38.1).bind fun c38 =>
 if c38 then
  some (Xr [(Vi Ki 0), v31] r38.2)
 else
 (bin .eql bitSize2_1 (Vi Ki 0)).bind fun v41 =>
 (asB v41).bind fun c41 =>
 (if c41 then
  some (Xn [(Vi Ki 64), neg8, v30] r38.2)
  else
  some (Xn [bitSize2_1, neg8, v30] r38.2)).bind fun (r : Res) => r.cont fun vs_1 W2 =>
 let bitSize2_2 := nth vs_1 0
 let neg8_1 := nth vs_1 1
 let un9 := nth vs_1 2
 (bin .sub bitSize2_2 (Vi Ki 1)).bind fun v43 =>
 (Pq Zp (convert 3 154 v43)).bind fun v44 =>
 (Pq Zp (do eqGuard .shl 159 (Oc (Vi Kv 1)) (Ot 44) (Vi Kv 1) v44; binOp .shl 159 (Vi Kv 1) v44)).bind fun v45 =>
 (Pq Zp (Op.unary .not neg8_1)).bind fun v47 =>
 (asB v47).bind fun b48 =>
 (if b48 = true then (bin .geq un9 v45).bind fun v51 =>
  some (v51, W2)
  else some ((Vb false), W2)).bind fun r52 =>
 (asB r52.1).bind fun c52 =>
 if c52 then
  (bin .sub v45 (Vi Kv 1)).bind fun v54 =>
  (Pq Zp (convert 159 2 v54)).bind fun v55 =>
  (Pq Zp (Zm 198 (Vi Ki 1))).bind fun v56 =>
  some (Xr [v55, v56] r52.2)
 else
 (asB neg8_1).bind fun b58 =>
 (if b58 = true then (bin .gtr un9 v45).bind fun v61 =>
  some (v61, r52.2)
  else some ((Vb false), r52.2)).bind fun r62 =>
 (asB r62.1).bind fun c62 =>
 if c62 then
  (Pq Zp (convert 159 2 v45)).bind fun v64 =>
  (Pq Zp (Op.unary .neg v64)).bind fun v65 =>
  (Pq Zp (Zm 198 (Vi Ki 1))).bind fun v66 =>
  some (Xr [v65, v66] r62.2)
 else
 (Pq Zp (convert 159 2 un9)).bind fun v68 =>
 (asB neg8_1).bind fun c69 =>
 (if c69 then
  (Pq Zp (Op.unary .neg v68)).bind fun v71 =>
  some (Xn [v71] r62.2)
  else
  some (Xn [v68] r62.2)).bind fun (r : Res) => r.cont fun vs_2 W3 =>
 let n11 := nth vs_2 0
 some (Xr [n11, Vn] W3)).bind Res.done
def f119.ann : Ann := (.s .z (.s .z .z))
noncomputable def f119 (call : CallF) (fn0 : Value) (str1 : Value) (W0 : World) : Option (Value × World) :=
 (((call 130 #[str1] W0.drew).bind fun r7_1 =>
 some (r7_1.1, r7_1.2)).bind fun r7 =>
 ((Rq Zp (Zl 32 (.pointer (some ⟨5, 0, none⟩))) r7.2).bind fun v8 =>
 some (v8, r7.2)).bind fun r8 =>
 ((Pq Zp (Zb 211 #[(0, fn0), (1, r7.1), (2, r8.1)])).bind fun v9 =>
 some (v9, r8.2)).bind fun r9 =>
 ((Eq_ Zp (Zo 211 r9.1) r9.2).bind fun r10_1 =>
 some (r10_1.1, r10_1.2)).bind fun r10 =>
 chkThen ((((Rq Zp (Zl 32 (.pointer (some ⟨5, 0, none⟩))) W0.drew).bind fun v8_1 => some v8_1) = some r8.1 ∧ ((Rq Zp (Zl 32 (.pointer (some ⟨5, 0, none⟩))) r7.2).bind fun v8_2 => some v8_2) = some r8.1) ∧ True)
 (some (Xr [r10.1] r10.2))).bind Res.done
def f120.ann : Ann := (.s .z (.s .z .z))
noncomputable def f120 (call : CallF) (fn0 : Value) (str1 : Value) (W0 : World) : Option (Value × World) :=
 (((call 130 #[str1] W0.drew).bind fun r7_1 =>
 some (r7_1.1, r7_1.2)).bind fun r7 =>
 ((Rq Zp (Zl 32 (.pointer (some ⟨6, 0, none⟩))) r7.2).bind fun v8 =>
 some (v8, r7.2)).bind fun r8 =>
 ((Pq Zp (Zb 211 #[(0, fn0), (1, r7.1), (2, r8.1)])).bind fun v9 =>
 some (v9, r8.2)).bind fun r9 =>
 ((Eq_ Zp (Zo 211 r9.1) r9.2).bind fun r10_1 =>
 some (r10_1.1, r10_1.2)).bind fun r10 =>
 chkThen ((((Rq Zp (Zl 32 (.pointer (some ⟨6, 0, none⟩))) W0.drew).bind fun v8_1 => some v8_1) = some r8.1 ∧ ((Rq Zp (Zl 32 (.pointer (some ⟨6, 0, none⟩))) r7.2).bind fun v8_2 => some v8_2) = some r8.1) ∧ True)
 (some (Xr [r10.1] r10.2))).bind Res.done
def f123.ann : Ann := (.s .z (.s (.s .z (.s .z (.c (.s .z .z) .z))) (.s .z (.s .z (.s (.b [2, 9, 10, 11, 12] (.s .z (.c (.s .z .z) (.s .z (.c (.s .z .z) (.s .z (.c (.s .z .z) (.s .z (.c (.s .z .z) (.s .z (.c (.s .z .z) .z))))))))))) (.s .z (.s .z .z)))))))
noncomputable def f123 (call : CallF) (x0 : Value) (s1 : Value) (W0 : World) : Option (Value × World) :=
 ((Eq_ Zp (Zo 145 x0) W0).bind fun r2 =>
 (Eq_ Zp (Zo 9 s1) r2.2).bind fun r3 =>
 (Rq Zp (Zl 145 r2.1) r3.2).bind fun v14 =>
 (Rq Zp (Zl 9 r3.1) r3.2).bind fun v15 =>
 (call 132 #[v14, v15] r3.2).bind fun r16 =>
 (bin .geq r16.1 (Vi Ki 0)).bind fun v18 =>
 (asB v18).bind fun c18 =>
 if c18 then
  some (Xr [(Vi Ki 0), r16.1, (Vi Ki 182)] r16.2)
 else
 (callV call (.func (Fn.func 133) #[] #[r3.1]) [(Vi Ki 0)] r16.2).bind fun r22 =>
 (callV call (.func (Fn.func 133) #[] #[r3.1]) [(Vi Ki 3)] r22.2).bind fun r24 =>
 (callV call (.func (Fn.func 133) #[] #[r3.1]) [(Vi Ki 6)] r24.2).bind fun r26 =>
 (callV call (.func (Fn.func 133) #[] #[r3.1]) [(Vi Ki 9)] r26.2).bind fun r28 =>
 ((bin .gtr r22.1 (Vi Ki 23)).bind fun v31 =>
 (asB v31).bind fun c29 =>
 if c29 then
  some (Xr [(Vi Ki 0), (Vi Ki 0), (Vi Ki 184)] r28.2)
 else
 (bin .gtr r24.1 (Vi Ki 59)).bind fun v34 =>
 (asB v34).bind fun c32 =>
 if c32 then
  some (Xr [(Vi Ki 0), (Vi Ki 3), (Vi Ki 182)] r28.2)
 else
 (bin .gtr r26.1 (Vi Ki 59)).bind fun v37 =>
 (asB v37).bind fun c35 =>
 if c35 then
  some (Xr [(Vi Ki 0), (Vi Ki 6), (Vi Ki 182)] r28.2)
 else
 (Pq Zp (Zf 145 r2.1 0)).bind fun v40 =>
 (Rq Zp (Zl 3 v40) r28.2).bind fun v41 =>
 (bin .geq r28.1 v41).bind fun v42 =>
 (asB v42).bind fun c38 =>
 if c38 then
  some (Xr [(Vi Ki 0), (Vi Ki 9), (Vi Ki 182)] r28.2)
 else
 (bin .rem r24.1 (Vi Ki 10)).bind fun v45 =>
 (bin .neq v45 (Vi Ki 0)).bind fun v46 =>
 (asB v46).bind fun b47 =>
 (if b47 = true then (bin .eql r26.1 (Vi Ki 0)).bind fun v49 =>
  some (v49, r28.2)
  else some ((Vb false), r28.2)).bind fun r50 =>
 (asB r50.1).bind fun b51 =>
 (if b51 = true then (Pq Zp (Zf 145 r2.1 3)).bind fun v53 =>
  (Rq Zp (Zl 3 v53) r50.2).bind fun v54 =>
  (bin .lss r28.1 v54).bind fun v55 =>
  some (v55, r50.2)
  else some ((Vb false), r50.2)).bind fun r56 =>
 (asB r56.1).bind fun c43 =>
 if c43 then
  some (Xr [(Vi Ki 0), (Vi Ki 9), (Vi Ki 183)] r56.2)
 else
 some (Xn [r2.1, r22.1, r24.1, r26.1, r28.1] r56.2)).bind fun (r : Res) => (r.unblock 0).cont fun vs W1 =>
 let x2 := nth vs 0
 let hour9 := nth vs 1
 let minute10 := nth vs 2
 let sec11 := nth vs 3
 let frame12 := nth vs 4
 (bin .mul (Vi Ki 60) hour9).bind fun v58 =>
 (bin .add v58 minute10).bind fun v60 =>
 (Pq Zp (Zf 145 x2 0)).bind fun v61 =>
 (Rq Zp (Zl 3 v61) W1).bind fun v62 =>
 (bin .mul (Vi Ki 60) v60).bind fun v64 =>
 (bin .add v64 sec11).bind fun v66 =>
 (bin .mul v62 v66).bind fun v67 =>
 (bin .add v67 frame12).bind fun v69 =>
 (Pq Zp (Zf 145 x2 3)).bind fun v70 =>
 (Rq Zp (Zl 3 v70) W1).bind fun v71 =>
 (bin .quo v60 (Vi Ki 10)).bind fun v74 =>
 (bin .sub v60 v74).bind fun v75 =>
 (bin .mul v71 v75).bind fun v76 =>
 (bin .sub v69 v76).bind fun v77 =>
 some (Xr [v77, (Vi Ki 0), (Vi Ki 0)] W1)).bind Res.done
def f124.ann : Ann := (.s .z (.s .z .z))
noncomputable def f124 (call : CallF) (r0 : Value) (W0 : World) : Option (Value × World) :=
 ((bin .geq r0 (Vi Ki 1)).bind fun v4 =>
 (asB v4).bind fun b5 =>
 (if b5 = true then (bin .leq r0 (Vi Ki 7)).bind fun v7 =>
  some (v7, W0)
  else some ((Vb false), W0)).bind fun r8 =>
 some (Xr [r8.1] r8.2)).bind Res.done
def f125.ann : Ann := (.s .z (.s .z (.s (.s .z (.b [1, 5] (.l [1, 5, 6] (.s (.s .z (.c .z .z)) (.s (.b [1, 5, 6] (.s (.s .z (.c (.s .z .z) .z)) (.s .z (.s .z (.c (.s .z .z) .z))))) .z))))) (.s (.s .z (.c (.s .z .z) .z)) (.s .z .z)))))
noncomputable def f125.l0 (call : CallF) (vs : List Value) (W1 : World) : Option Res :=
 let s1_1 := nth vs 0
 let form5 := nth vs 1
 let i6 := nth vs 2
 (Pq Zp (Yl #[9] 3 #[form5])).bind fun v14 =>
 (bin .lss i6 v14).bind fun v15 =>
 (asB v15).bind fun c15 =>
 if c15 then
  ((Pq Zp (Yl #[9] 3 #[s1_1])).bind fun v20 =>
  (bin .geq i6 v20).bind fun v21 =>
  (asB v21).bind fun c21 =>
  if c21 then
   some (Xr [i6] W1)
  else
  (Pq Zp (Zi 9 s1_1 i6)).bind fun v25 =>
  (bin .geq v25 (Vi Ku 48)).bind fun v26 =>
  (asB v26).bind fun b27 =>
  (if b27 = true then (Pq Zp (Zi 9 s1_1 i6)).bind fun v30 =>
   (bin .leq v30 (Vi Ku 57)).bind fun v31 =>
   some (v31, W1)
   else some ((Vb false), W1)).bind fun r32 =>
  (Pq Zp (Zi 9 form5 i6)).bind fun v35 =>
  (bin .eql v35 (Vi Ku 100)).bind fun v36 =>
  (asB v36).bind fun b37 =>
  (if b37 = true then (Pq Zp (Op.unary .not r32.1)).bind fun v39 =>
   some (v39, r32.2.drew)
   else some ((Vb false), r32.2.drew)).bind fun r40 =>
  (asB r40.1).bind fun b41 =>
  (if b41 = false then (Pq Zp (Zi 9 form5 i6)).bind fun v44 =>
   (bin .neq v44 (Vi Ku 100)).bind fun v45 =>
   (asB v45).bind fun b46 =>
   (if b46 = true then (Pq Zp (Zi 9 s1_1 i6)).bind fun v49 =>
    (Pq Zp (Zi 9 form5 i6)).bind fun v52 =>
    (bin .neq v49 v52).bind fun v53 =>
    some (v53, r40.2)
    else some ((Vb false), r40.2)).bind fun r54 =>
   some (r54.1, r54.2)
   else some ((Vb true), r40.2)).bind fun r55 =>
  (asB r55.1).bind fun c55 =>
  if c55 then
   some (Xr [i6] r55.2)
  else
  some (Xn [s1_1, form5, i6] r55.2)).bind fun (r : Res) => (r.unblock 1).cont fun vs_1 W2 =>
  let s1_2 := nth vs_1 0
  let form5_1 := nth vs_1 1
  let i6_1 := nth vs_1 2
  (bin .add i6_1 (Vi Ki 1)).bind fun v17 =>
  some (Xn [s1_2, form5_1, v17] W2)
 else
 some (Xx 0 [s1_1, form5] W1)
noncomputable def f125 (call : CallF) (r0 : Value) (s1 : Value) (W0 : World) : Option (Value × World) :=
 ((call 88 #[r0] W0).bind fun r9 =>
 (Pq Zp (do eqGuard .add 9 (Oc (Vs { data := #[100, 100, 58, 100, 100, 58, 100, 100] })) (Ot 9) (Vs { data := #[100, 100, 58, 100, 100, 58, 100, 100] }) r9.1; binOp .add 9 (Vs { data := #[100, 100, 58, 100, 100, 58, 100, 100] }) r9.1)).bind fun v10 =>
 (Pq Zp (do eqGuard .add 9 (Ot 10) (Oc (Vs { data := #[100, 100] })) v10 (Vs { data := #[100, 100] }); binOp .add 9 v10 (Vs { data := #[100, 100] }))).bind fun v11 =>
 (iter (f125.l0 call) [s1, v11, (Vi Ki 0)] r9.2).bind fun (r : Res) => (r.unblock 0).cont fun vs_2 W3 =>
 let s1_3 := nth vs_2 0
 let form5_2 := nth vs_2 1
 (Pq Zp (Yl #[9] 3 #[s1_3])).bind fun v58 =>
 (Pq Zp (Yl #[9] 3 #[form5_2])).bind fun v60 =>
 (bin .gtr v58 v60).bind fun v61 =>
 (asB v61).bind fun c61 =>
 if c61 then
  (Pq Zp (Yl #[9] 3 #[form5_2])).bind fun v63 =>
  some (Xr [v63] W3)
 else
 some (Xr [(Vi Ki (-1))] W3)).bind Res.done
def f126.ann : Ann := (.s .z (.s .z .z))
noncomputable def f126 (call : CallF) (s0 : Value) (at1 : Value) (W0 : World) : Option (Value × World) :=
 ((Pq Zp (Zi 9 s0 at1)).bind fun v7 =>
 (bin .sub v7 (Vi Ku 48)).bind fun v8 =>
 (Pq Zp (convert 5 3 v8)).bind fun v9 =>
 (bin .mul (Vi Ki 10) v9).bind fun v10 =>
 (bin .add at1 (Vi Ki 1)).bind fun v13 =>
 (Pq Zp (Zi 9 s0 v13)).bind fun v14 =>
 (bin .sub v14 (Vi Ku 48)).bind fun v15 =>
 (Pq Zp (convert 5 3 v15)).bind fun v16 =>
 (bin .add v10 v16).bind fun v17 =>
 some (Xr [v17] W0.drew)).bind Res.done
def f128.ann : Ann := (.s .z (.s (.s .z (.c (.s (.s .z (.c (.s .z .z) .z)) (.s .z (.s .z (.s (.s .z (.j [0, 5, 6] .z .z)) (.s .z (.s .z (.s (.s .z (.c .z .z)) (.s .z .z)))))))) .z)) (.s .z (.s .z .z))))
noncomputable def f128 (call : CallF) (i0 : Value) (base1 : Value) (W0 : World) : Option (Value × World) :=
 ((bin .eql base1 (Vi Ki 10)).bind fun v11 =>
 (asB v11).bind fun c11 =>
 if c11 then
  (bin .leq (Vi Ki 0) i0).bind fun v13 =>
  (asB v13).bind fun b14 =>
  (if b14 = true then (bin .lss i0 (Vi Ki 100)).bind fun v16 =>
   some (v16, W0)
   else some ((Vb false), W0)).bind fun r17 =>
  (asB r17.1).bind fun c17 =>
  if c17 then
   (call 134 #[i0] r17.2).bind fun r19 =>
   some (Xr [r19.1] r19.2)
  else
  (Eq_ Zp (Za 213 true (.tuple #[])) r17.2).bind fun r5 =>
  (Pq Zp (convert 2 159 i0)).bind fun v21 =>
  (bin .lss i0 (Vi Ki 0)).bind fun v23 =>
  (asB v23).bind fun c23 =>
  (if c23 then
   (Pq Zp (Op.unary .neg v21)).bind fun v25 =>
   some (Xn [i0, r5.1, v25] r5.2)
   else
   some (Xn [i0, r5.1, v21] r5.2)).bind fun (r : Res) => r.cont fun vs W1 =>
  let i0_1 := nth vs 0
  let a5 := nth vs 1
  let u6 := nth vs 2
  (call 135 #[u6] W1).bind fun r27 =>
  (bin .add (Vi Ki 1) r27.1).bind fun v29 =>
  (Pq Zp (Zc 213 a5 (some (Vi Ki 1)) (some v29) none)).bind fun v30 =>
  (call 136 #[v30, u6] r27.2).bind fun r32 =>
  (bin .lss i0_1 (Vi Ki 0)).bind fun v34 =>
  (asB v34).bind fun c34 =>
  if c34 then
   none
  else
  (bin .add (Vi Ki 1) r27.1).bind fun v41 =>
  (Pq Zp (Zc 213 a5 (some (Vi Ki 1)) (some v41) none)).bind fun v42 =>
  (Rq Zp (convert 160 9 v42) r32.2).bind fun v43 =>
  some (Xr [v43] r32.2)
 else
 (Pq Zp (convert 2 159 i0)).bind fun v46 =>
 (bin .lss i0 (Vi Ki 0)).bind fun v49 =>
 (call 137 #[(Vl none 0 0), v46, base1, v49, (Vb false)] W0).bind fun r50 =>
 (Pq Zp (Zx r50.1 0)).bind fun v51 =>
 (Pq Zp (Zx r50.1 1)).bind fun v52 =>
 some (Xr [v52] r50.2)).bind Res.done
def f129.ann : Ann := (.s .z (.s (.s .z (.c (.s .z .z) .z)) (.s .z (.s .z (.s (.b [0, 1, 2, 8, 9] (.s .z (.c .z (.s .z (.c (.s .z (.s .z (.c (.b [0, 1, 2, 8, 9] (.s .z (.c (.s .z .z) (.s .z (.c (.s .z .z) (.s .z (.c (.s .z .z) (.s .z .z)))))))) .z))) (.s .z .z)))))) (.s (.s .z (.j [0, 1, 2, 8, 9] .z (.s .z (.c (.s .z .z) .z)))) (.s .z (.s (.s .z (.b [0, 1, 2, 8, 9, 10] (.s .z (.c .z (.s .z (.c .z .z)))))) (.s .z (.s .z (.s .z (.s (.s .z (.b [9, 12, 13] (.l [1, 8, 9, 10, 11, 12, 13, 99, 100, 101] (.s .z (.s (.c .z .z) (.s (.b [1, 8, 9, 10, 11, 12, 13, 99, 100, 101] (.s .z (.s .z (.s (.b [1, 8, 9, 10, 11, 12, 13, 16, 99, 100, 101] (.s .z (.c (.s .z .z) (.s .z (.c .z (.s .z (.c .z (.s .z .z)))))))) (.s (.s .z (.c (.s .z .z) .z)) (.s (.s .z (.c (.s .z .z) .z)) (.s .z (.s .z (.s (.s .z (.c (.s .z .z) .z)) .z))))))))) .z)))))) (.s (.s .z (.c (.s .z .z) .z)) (.s .z .z))))))))))))))
noncomputable def f129.l0 (call : CallF) (vs_4 : List Value) (W5 : World) : Option Res :=
 let o1_5 := nth vs_4 0
 let v8_4 := nth vs_4 1
 let v9_4 := nth vs_4 2
 let v10_1 := nth vs_4 3
 let v11 := nth vs_4 4
 let v12 := nth vs_4 5
 let v13 := nth vs_4 6
 let v99 := nth vs_4 7
 let v100_1 := nth vs_4 8
 let v101 := nth vs_4 9
 (bin .lss v101 v100_1).bind fun v102 =>
 (asB v102).bind fun c102 =>
 if c102 then
  ((Pq Zp (Zj 160 v99 v101)).bind fun v103 =>
  (Rq Zp (Zl 5 v103) W5).bind fun v104 =>
  ((bin .eql v104 (Vi Ku 95)).bind fun v108 =>
  (asB v108).bind fun b109 =>
  (if b109 = true then some (v8_4, W5)
   else some ((Vb false), W5)).bind fun r111 =>
  (asB r111.1).bind fun c106 =>
  if c106 then
   some (Xx 4 [o1_5, v8_4, v9_4, v10_1, v11, (Vb true), v13, v99, v100_1, v101] r111.2)
  else
  (bin .leq (Vi Ku 48) v104).bind fun v114 =>
  (asB v114).bind fun b115 =>
  (if b115 = true then (bin .leq v104 (Vi Ku 57)).bind fun v117 =>
   some (v117, r111.2)
   else some ((Vb false), r111.2)).bind fun r118 =>
  (asB r118.1).bind fun c112 =>
  if c112 then
   (bin .sub v104 (Vi Ku 48)).bind fun v120 =>
   some (Xn [o1_5, v8_4, v9_4, v10_1, v11, v12, v13, v120, v99, v100_1, v101] r118.2)
  else
  (call 138 #[v104] r118.2).bind fun r123 =>
  (bin .leq (Vi Ku 97) r123.1).bind fun v124 =>
  (asB v124).bind fun b125 =>
  (if b125 = true then (call 138 #[v104] r123.2).bind fun r127 =>
   (bin .leq r127.1 (Vi Ku 122)).bind fun v128 =>
   some (v128, r127.2)
   else some ((Vb false), r123.2)).bind fun r129 =>
  (asB r129.1).bind fun c121 =>
  if c121 then
   (call 138 #[v104] r129.2).bind fun r131 =>
   (bin .sub r131.1 (Vi Ku 97)).bind fun v132 =>
   (bin .add v132 (Vi Ku 10)).bind fun v133 =>
   some (Xn [o1_5, v8_4, v9_4, v10_1, v11, v12, v13, v133, v99, v100_1, v101] r131.2)
  else
  (Pq Zp (Zm 198 (Vi Ki 2))).bind fun v105 =>
  some (Xr [(Vi Kv 0), v105] r129.2)).bind fun (r : Res) => (r.unblock 5).cont fun vs_5 W6 =>
  let o1_6 := nth vs_5 0
  let v8_5 := nth vs_5 1
  let v9_5 := nth vs_5 2
  let v10_2 := nth vs_5 3
  let v11_1 := nth vs_5 4
  let v12_1 := nth vs_5 5
  let v13_1 := nth vs_5 6
  let v16 := nth vs_5 7
  let v99_1 := nth vs_5 8
  let v100_2 := nth vs_5 9
  let v101_1 := nth vs_5 10
  (Pq Zp (convert 3 5 o1_6)).bind fun v136 =>
  (bin .geq v16 v136).bind fun v137 =>
  (asB v137).bind fun c137 =>
  if c137 then
   (Pq Zp (Zm 198 (Vi Ki 2))).bind fun v138 =>
   some (Xr [(Vi Kv 0), v138] W6)
  else
  (bin .geq v13_1 v10_2).bind fun v141 =>
  (asB v141).bind fun c141 =>
  if c141 then
   (Pq Zp (Zm 198 (Vi Ki 1))).bind fun v143 =>
   some (Xr [v11_1, v143] W6)
  else
  (Pq Zp (convert 3 159 o1_6)).bind fun v146 =>
  (bin .mul v13_1 v146).bind fun v147 =>
  (Pq Zp (convert 5 159 v16)).bind fun v150 =>
  (bin .add v147 v150).bind fun v151 =>
  (bin .lss v151 v147).bind fun v154 =>
  (asB v154).bind fun b155 =>
  (if b155 = false then (bin .gtr v151 v11_1).bind fun v158 =>
   some (v158, W6)
   else some ((Vb true), W6)).bind fun r159 =>
  (asB r159.1).bind fun c159 =>
  if c159 then
   (Pq Zp (Zm 198 (Vi Ki 1))).bind fun v161 =>
   some (Xr [v11_1, v161] r159.2)
  else
  some (Xn [o1_6, v8_5, v9_5, v10_2, v11_1, v12_1, v151, v99_1, v100_2, v101_1] r159.2)).bind fun (r : Res) => (r.unblock 4).cont fun vs_6 W7 =>
  let o1_7 := nth vs_6 0
  let v8_6 := nth vs_6 1
  let v9_6 := nth vs_6 2
  let v10_3 := nth vs_6 3
  let v11_2 := nth vs_6 4
  let v12_2 := nth vs_6 5
  let v13_2 := nth vs_6 6
  let v99_2 := nth vs_6 7
  let v100_3 := nth vs_6 8
  let v101_2 := nth vs_6 9
  (bin .add v101_2 (Vi Ki 1)).bind fun v163 =>
  some (Xn [o1_7, v8_6, v9_6, v10_3, v11_2, v12_2, v13_2, v99_2, v100_3, v163] W7)
 else
 some (Xx 3 [v9_4, v12, v13] W5)
noncomputable def f129 (call : CallF) (t0 : Value) (o1 : Value) (A2 : Value) (W0 : World) : Option (Value × World) :=
 ((Pq Zp (do eqGuard .eql 9 (Ot 18) (Oc (Vs { data := #[] })) t0 (Vs { data := #[] }); binOp .eql 9 t0 (Vs { data := #[] }))).bind fun v19 =>
 (asB v19).bind fun c19 =>
 if c19 then
  (Pq Zp (Zm 198 (Vi Ki 2))).bind fun v20 =>
  some (Xr [(Vi Kv 0), v20] W0)
 else
 (bin .eql o1 (Vi Ki 0)).bind fun v22 =>
 ((bin .leq (Vi Ki 2) o1).bind fun v27 =>
 (asB v27).bind fun b28 =>
 (if b28 = true then (bin .leq o1 (Vi Ki 36)).bind fun v30 =>
  some (v30, W0)
  else some ((Vb false), W0)).bind fun r31 =>
 (asB r31.1).bind fun c25 =>
 if c25 then
  some (Xn [t0, o1, A2, v22, t0] r31.2)
 else
 (bin .eql o1 (Vi Ki 0)).bind fun v34 =>
 (asB v34).bind fun c32 =>
 if c32 then
  (Pq Zp (Zi 9 t0 (Vi Ki 0))).bind fun v36 =>
  (bin .eql v36 (Vi Ku 48)).bind fun v37 =>
  (asB v37).bind fun c37 =>
  if c37 then
   ((Pq Zp (Yl #[9] 3 #[t0])).bind fun v42 =>
   (bin .geq v42 (Vi Ki 3)).bind fun v43 =>
   (asB v43).bind fun b44 =>
   (if b44 = true then (Pq Zp (Zi 9 t0 (Vi Ki 1))).bind fun v46 =>
    (call 138 #[v46] r31.2).bind fun r47 =>
    (bin .eql r47.1 (Vi Ku 98)).bind fun v48 =>
    some (v48, r47.2)
    else some ((Vb false), r31.2)).bind fun r49 =>
   (asB r49.1).bind fun c40 =>
   if c40 then
    (Pq Zp (Zc 9 t0 (some (Vi Ki 2)) none none)).bind fun v51 =>
    some (Xn [v51, (Vi Ki 2), A2, v22, t0] r49.2)
   else
   (Pq Zp (Yl #[9] 3 #[t0])).bind fun v54 =>
   (bin .geq v54 (Vi Ki 3)).bind fun v55 =>
   (asB v55).bind fun b56 =>
   (if b56 = true then (Pq Zp (Zi 9 t0 (Vi Ki 1))).bind fun v58 =>
    (call 138 #[v58] r49.2).bind fun r59 =>
    (bin .eql r59.1 (Vi Ku 111)).bind fun v60 =>
    some (v60, r59.2)
    else some ((Vb false), r49.2)).bind fun r61 =>
   (asB r61.1).bind fun c52 =>
   if c52 then
    (Pq Zp (Zc 9 t0 (some (Vi Ki 2)) none none)).bind fun v63 =>
    some (Xn [v63, (Vi Ki 8), A2, v22, t0] r61.2)
   else
   (Pq Zp (Yl #[9] 3 #[t0])).bind fun v66 =>
   (bin .geq v66 (Vi Ki 3)).bind fun v67 =>
   (asB v67).bind fun b68 =>
   (if b68 = true then (Pq Zp (Zi 9 t0 (Vi Ki 1))).bind fun v70 =>
    (call 138 #[v70] r61.2).bind fun r71 =>
    (bin .eql r71.1 (Vi Ku 120)).bind fun v72 =>
    some (v72, r71.2)
    else some ((Vb false), r61.2)).bind fun r73 =>
   (asB r73.1).bind fun c64 =>
   if c64 then
    (Pq Zp (Zc 9 t0 (some (Vi Ki 2)) none none)).bind fun v75 =>
    some (Xn [v75, (Vi Ki 16), A2, v22, t0] r73.2)
   else
   (Pq Zp (Zc 9 t0 (some (Vi Ki 1)) none none)).bind fun v39 =>
   some (Xn [v39, (Vi Ki 8), A2, v22, t0] r73.2)).bind fun (r : Res) => (r.unblock 1).cont fun vs W1 =>
   let t0_1 := nth vs 0
   let o1_1 := nth vs 1
   let A2_1 := nth vs 2
   let v8 := nth vs 3
   let v9 := nth vs 4
   some (Xn [t0_1, o1_1, A2_1, v8, v9] W1)
  else
  some (Xn [t0, (Vi Ki 10), A2, v22, t0] r31.2)
 else
 (Pq Zp (Zm 198 (Vi Ki 3))).bind fun v24 =>
 some (Xr [(Vi Kv 0), v24] r31.2)).bind fun (r : Res) => (r.unblock 0).cont fun vs_1 W2 =>
 let t0_2 := nth vs_1 0
 let o1_2 := nth vs_1 1
 let A2_2 := nth vs_1 2
 let v8_1 := nth vs_1 3
 let v9_1 := nth vs_1 4
 (bin .eql A2_2 (Vi Ki 0)).bind fun v77 =>
 (asB v77).bind fun c77 =>
 (if c77 then
  some (Xn [t0_2, o1_2, (Vi Ki 64), v8_1, v9_1] W2)
  else
  (bin .lss A2_2 (Vi Ki 0)).bind fun v79 =>
  (asB v79).bind fun b80 =>
  (if b80 = false then (bin .gtr A2_2 (Vi Ki 64)).bind fun v82 =>
   some (v82, W2)
   else some ((Vb true), W2)).bind fun r83 =>
  (asB r83.1).bind fun c83 =>
  if c83 then
   (Pq Zp (Zm 198 (Vi Ki 4))).bind fun v84 =>
   some (Xr [(Vi Kv 0), v84] r83.2)
  else
  some (Xn [t0_2, o1_2, A2_2, v8_1, v9_1] r83.2)).bind fun (r : Res) => r.cont fun vs_2 W3 =>
 let t0_3 := nth vs_2 0
 let o1_3 := nth vs_2 1
 let A2_3 := nth vs_2 2
 let v8_2 := nth vs_2 3
 let v9_2 := nth vs_2 4
 ((bin .eql o1_3 (Vi Ki 10)).bind fun v91 =>
 (asB v91).bind fun c90 =>
 if c90 then
  some (Xn [t0_3, o1_3, A2_3, v8_2, v9_2, (Vi Kv 1844674407370955162)] W3)
 else
 (bin .eql o1_3 (Vi Ki 16)).bind fun v93 =>
 (asB v93).bind fun c92 =>
 if c92 then
  some (Xn [t0_3, o1_3, A2_3, v8_2, v9_2, (Vi Kv 1152921504606846976)] W3)
 else
 (Pq Zp (convert 3 159 o1_3)).bind fun v87 =>
 (bin .quo (Vi Kv 18446744073709551615) v87).bind fun v88 =>
 (bin .add v88 (Vi Kv 1)).bind fun v89 =>
 some (Xn [t0_3, o1_3, A2_3, v8_2, v9_2, v89] W3)).bind fun (r : Res) => (r.unblock 2).cont fun vs_3 W4 =>
 let t0_4 := nth vs_3 0
 let o1_4 := nth vs_3 1
 let A2_4 := nth vs_3 2
 let v8_3 := nth vs_3 3
 let v9_3 := nth vs_3 4
 let v10 := nth vs_3 5
 (Pq Zp (convert 3 154 A2_4)).bind fun v95 =>
 (Pq Zp (do eqGuard .shl 159 (Oc (Vi Kv 1)) (Ot 95) (Vi Kv 1) v95; binOp .shl 159 (Vi Kv 1) v95)).bind fun v96 =>
 (bin .sub v96 (Vi Kv 1)).bind fun v97 =>
 (Eq_ Zp (convert 9 160 t0_4) W4).bind fun r99 =>
 (Pq Zp (Yl #[160] 3 #[r99.1])).bind fun v100 =>
 (iter (f129.l0 call) [o1_4, v8_3, v9_3, v10, v97, (Vb false), (Vi Kv 0), r99.1, v100, (Vi Ki 0)] r99.2).bind fun (r : Res) => (r.unblock 3).cont fun vs_7 W8 =>
 let v9_7 := nth vs_7 0
 let v12_3 := nth vs_7 1
 let v13_3 := nth vs_7 2
 (asB v12_3).bind fun b165 =>
 (if b165 = true then (call 139 #[v9_7] W8).bind fun r167 =>
  (Pq Zp (Op.unary .not r167.1)).bind fun v168 =>
  some (v168, r167.2)
  else some ((Vb false), W8)).bind fun r169 =>
 (asB r169.1).bind fun c169 =>
 if c169 then
  (Pq Zp (Zm 198 (Vi Ki 2))).bind fun v170 =>
  some (Xr [(Vi Kv 0), v170] r169.2)
 else
 some (Xr [v13_3, Vn] r169.2)).bind Res.done
def f130.ann : Ann := (.s .z (.s (.s .z (.c (.s .z .z) .z)) (.s .z (.s .z (.s .z .z)))))
noncomputable def f130 (call : CallF) (s0 : Value) (W0 : World) : Option (Value × World) :=
 ((Pq Zp (Yl #[9] 3 #[s0])).bind fun v5 =>
 (bin .eql v5 (Vi Ki 0)).bind fun v6 =>
 (asB v6).bind fun c6 =>
 if c6 then
  some (Xr [(Vs { data := #[] })] W0)
 else
 (Pq Zp (Yl #[9] 3 #[s0])).bind fun v8 =>
 (Eq_ Zp (Instr.makeSlice 160 v8 v8) W0).bind fun r9 =>
 (Eq_ Zp (Builtin.copy_ #[160, 9] 3 #[r9.1, s0]) r9.2).bind fun r12 =>
 (Pq Zp (Zj 160 r9.1 (Vi Ki 0))).bind fun v14 =>
 (Pq Zp (Yl #[160] 3 #[r9.1])).bind fun v16 =>
 (Eq_ Zp (Builtin.unsafeString_ #[219, 3] 9 #[v14, v16]) r12.2).bind fun r17 =>
 some (Xr [r17.1] r17.2)).bind Res.done
def f132.ann : Ann := (.s .z (.s .z (.s (.s .z (.b [1, 5] (.l [1, 2, 5, 9] (.s .z (.s (.c .z .z) (.b [1, 2, 5, 9] (.s .z (.s (.b [1, 2, 5, 9] (.s .z (.c (.s .z .z) (.s .z (.c (.s .z (.c (.s .z .z) .z)) (.s .z (.c (.s .z (.c (.s .z .z) .z)) (.s .z (.c (.s .z .z) .z))))))))) .z)))))))) (.s (.s .z (.c (.s .z .z) .z)) (.s .z .z)))))
noncomputable def f132.l0 (call : CallF) (vs : List Value) (W1 : World) : Option Res :=
 let s1_1 := nth vs 0
 let x2 := nth vs 1
 let at5 := nth vs 2
 let v9 := nth vs 3
 (Eq_ Zp (Instr.next v9 true 0) W1).bind fun r10 =>
 (Pq Zp (Zx r10.1 0)).bind fun v11 =>
 (asB v11).bind fun c11 =>
 if c11 then
  ((Pq Zp (Zx r10.1 1)).bind fun v12 =>
  (Pq Zp (Zx r10.1 2)).bind fun v13 =>
  ((bin .eql at5 (Vi Ki 11)).bind fun v16 =>
  (asB v16).bind fun c14 =>
  if c14 then
   some (Xr [(Vi Ki 11)] r10.2)
  else
  (bin .eql at5 (Vi Ki 8)).bind fun v19 =>
  (asB v19).bind fun c17 =>
  if c17 then
   (Rq Zp (Zl 145 x2) r10.2).bind fun v21 =>
   (call 113 #[v21] r10.2).bind fun r22 =>
   (Pq Zp (convert 5 21 r22.1)).bind fun v23 =>
   (bin .neq v13 v23).bind fun v24 =>
   (asB v24).bind fun c24 =>
   if c24 then
    some (Xr [v12] r22.2)
   else
   some (Xn [s1_1, x2, at5, v9] r22.2)
  else
  (bin .rem at5 (Vi Ki 3)).bind fun v28 =>
  (bin .eql v28 (Vi Ki 2)).bind fun v29 =>
  (asB v29).bind fun c26 =>
  if c26 then
   (bin .neq v13 (Vi Kj 58)).bind fun v31 =>
   (asB v31).bind fun c31 =>
   if c31 then
    some (Xr [v12] r10.2)
   else
   some (Xn [s1_1, x2, at5, v9] r10.2)
  else
  (bin .lss v13 (Vi Kj 48)).bind fun v35 =>
  (asB v35).bind fun b36 =>
  (if b36 = false then (bin .gtr v13 (Vi Kj 57)).bind fun v38 =>
   some (v38, r10.2)
   else some ((Vb true), r10.2)).bind fun r39 =>
  (asB r39.1).bind fun c33 =>
  if c33 then
   some (Xr [v12] r39.2)
  else
  some (Xn [s1_1, x2, at5, v9] r39.2)).bind fun (r : Res) => (r.unblock 2).cont fun vs_1 W2 =>
  let s1_2 := nth vs_1 0
  let x2_1 := nth vs_1 1
  let at5_1 := nth vs_1 2
  let v9_1 := nth vs_1 3
  (bin .add at5_1 (Vi Ki 1)).bind fun v42 =>
  some (Xn [s1_2, x2_1, v42, v9_1] W2)).bind fun (r : Res) => (r.unblock 1).cont fun vs_2 W3 =>
  let s1_3 := nth vs_2 0
  let x2_2 := nth vs_2 1
  let at5_2 := nth vs_2 2
  let v9_2 := nth vs_2 3
  some (Xn [s1_3, x2_2, at5_2, v9_2] W3)
 else
 some (Xx 0 [s1_1, at5] r10.2)
noncomputable def f132 (call : CallF) (x0 : Value) (s1 : Value) (W0 : World) : Option (Value × World) :=
 ((Eq_ Zp (Zo 145 x0) W0).bind fun r2 =>
 (Eq_ Zp (Instr.range 9 s1) r2.2).bind fun r9 =>
 (iter (f132.l0 call) [s1, r2.1, (Vi Ki 0), r9.1] r9.2).bind fun (r : Res) => (r.unblock 0).cont fun vs_3 W4 =>
 let s1_4 := nth vs_3 0
 let at5_3 := nth vs_3 1
 (bin .lss at5_3 (Vi Ki 11)).bind fun v44 =>
 (asB v44).bind fun c44 =>
 if c44 then
  (Pq Zp (Yl #[9] 3 #[s1_4])).bind fun v46 =>
  some (Xr [v46] W4)
 else
 some (Xr [(Vi Ki (-1))] W4)).bind Res.done
def f133.ann : Ann := (.s .z (.s .z .z))
noncomputable def f133 (call : CallF) (at0 : Value) (v1 : Value) (W0 : World) : Option (Value × World) :=
 ((Rq Zp (Zl 9 v1) W0.drew).bind fun v4 =>
 (Pq Zp (Zi 9 v4 at0)).bind fun v6 =>
 (bin .sub v6 (Vi Ku 48)).bind fun v7 =>
 (Pq Zp (convert 5 3 v7)).bind fun v8 =>
 (bin .mul (Vi Ki 10) v8).bind fun v9 =>
 (Rq Zp (Zl 9 v1) W0.drew).bind fun v10 =>
 (bin .add at0 (Vi Ki 1)).bind fun v12 =>
 (Pq Zp (Zi 9 v10 v12)).bind fun v13 =>
 (bin .sub v13 (Vi Ku 48)).bind fun v14 =>
 (Pq Zp (convert 5 3 v14)).bind fun v15 =>
 (bin .add v9 v15).bind fun v16 =>
 some (Xr [v16] W0.drew)).bind Res.done
def f134.ann : Ann := (.s .z (.s (.s .z (.c (.s .z .z) .z)) (.s .z .z)))
noncomputable def f134 (call : CallF) (i0 : Value) (W0 : World) : Option (Value × World) :=
 ((bin .lss i0 (Vi Ki 10)).bind fun v4 =>
 (asB v4).bind fun c4 =>
 if c4 then
  (bin .add i0 (Vi Ki 1)).bind fun v7 =>
  (Pq Zp (Zc 9 (Vs { data := #[48, 49, 50, 51, 52, 53, 54, 55, 56, 57, 97, 98, 99, 100, 101, 102, 103, 104, 105, 106, 107, 108, 109, 110, 111, 112, 113, 114, 115, 116, 117, 118, 119, 120, 121, 122] }) (some i0) (some v7) none)).bind fun v8 =>
  some (Xr [v8] W0)
 else
 (bin .mul i0 (Vi Ki 2)).bind fun v10 =>
 (bin .mul i0 (Vi Ki 2)).bind fun v12 =>
 (bin .add v12 (Vi Ki 2)).bind fun v13 =>
 (Pq Zp (Zc 9 (Vs { data := #[48, 48, 48, 49, 48, 50, 48, 51, 48, 52, 48, 53, 48, 54, 48, 55, 48, 56, 48, 57, 49, 48, 49, 49, 49, 50, 49, 51, 49, 52, 49, 53, 49, 54, 49, 55, 49, 56, 49, 57, 50, 48, 50, 49, 50, 50, 50, 51, 50, 52, 50, 53, 50, 54, 50, 55, 50, 56, 50, 57, 51, 48, 51, 49, 51, 50, 51, 51, 51, 52, 51, 53, 51, 54, 51, 55, 51, 56, 51, 57, 52, 48, 52, 49, 52, 50, 52, 51, 52, 52, 52, 53, 52, 54, 52, 55, 52, 56, 52, 57, 53, 48, 53, 49, 53, 50, 53, 51, 53, 52, 53, 53, 53, 54, 53, 55, 53, 56, 53, 57, 54, 48, 54, 49, 54, 50, 54, 51, 54, 52, 54, 53, 54, 54, 54, 55, 54, 56, 54, 57, 55, 48, 55, 49, 55, 50, 55, 51, 55, 52, 55, 53, 55, 54, 55, 55, 55, 56, 55, 57, 56, 48, 56, 49, 56, 50, 56, 51, 56, 52, 56, 53, 56, 54, 56, 55, 56, 56, 56, 57, 57, 48, 57, 49, 57, 50, 57, 51, 57, 52, 57, 53, 57, 54, 57, 55, 57, 56, 57, 57] }) (some v10) (some v13) none)).bind fun v14 =>
 some (Xr [v14] W0)).bind Res.done
def f135.ann : Ann := (.s .z (.s .z (.s .z .z)))
noncomputable def f135 (call : CallF) (d0 : Value) (W0 : World) : Option (Value × World) :=
 ((call 141 #[d0] W0).bind fun r5 =>
 (call 140 #[r5.1] r5.2).bind fun r6 =>
 (Pq Zp (Zj 224 (.pointer (some ⟨7, 0, none⟩)) r6.1)).bind fun v10 =>
 (Rq Zp (Zl 159 v10) r6.2).bind fun v11 =>
 (bin .geq d0 v11).bind fun v12 =>
 (call 142 #[v12] r6.2).bind fun r13 =>
 (bin .add r6.1 r13.1).bind fun v14 =>
 some (Xr [v14] r13.2)).bind Res.done
def f136.ann : Ann := (.s .z (.s (.b [0, 1, 4] (.l [0, 1, 4] (.s (.s .z (.c .z .z)) .z))) (.s .z (.s (.s .z (.j [0, 4, 12] .z .z)) (.s (.s .z (.j [0, 4, 12] (.s .z (.s .z (.s .z .z))) .z)) (.s .z (.c .z .z)))))))
noncomputable def f136.l0 (call : CallF) (vs : List Value) (W1 : World) : Option Res :=
 let t0_1 := nth vs 0
 let o1_1 := nth vs 1
 let r4 := nth vs 2
 (bin .geq r4 (Vi Ki 8)).bind fun v20 =>
 (asB v20).bind fun c20 =>
 if c20 then
  none
 else
 some (Xx 0 [t0_1, o1_1, r4] W1)
noncomputable def f136 (call : CallF) (t0 : Value) (o1 : Value) (W0 : World) : Option (Value × World) :=
 ((Pq Zp (Yl #[160] 3 #[t0])).bind fun v18 =>
 (iter (f136.l0 call) [t0, o1, v18] W0).bind fun (r : Res) => (r.unblock 0).cont fun vs_1 W2 =>
 let t0_2 := nth vs_1 0
 let o1_2 := nth vs_1 1
 let r4_1 := nth vs_1 2
 (Pq Zp (convert 159 190 o1_2)).bind fun v97 =>
 (bin .geq r4_1 (Vi Ki 4)).bind fun v99 =>
 (asB v99).bind fun c99 =>
 (if c99 then
  none
  else
  some (Xn [t0_2, r4_1, v97] W2)).bind fun (r : Res) => r.cont fun vs_2 W3 =>
 let t0_3 := nth vs_2 0
 let r4_2 := nth vs_2 1
 let v12 := nth vs_2 2
 (bin .geq r4_2 (Vi Ki 2)).bind fun v139 =>
 (asB v139).bind fun c139 =>
 (if c139 then
  (bin .rem v12 (Vi Kw 100)).bind fun v141 =>
  (bin .mul v141 (Vi Kw 2)).bind fun v142 =>
  (bin .quo v12 (Vi Kw 100)).bind fun v144 =>
  ((bin .sub r4_2 (Vi Ki 1)).bind fun v147 =>
  some (v147, W3.drew)).bind fun r147 =>
  ((bin .sub r4_2 (Vi Ki 2)).bind fun v150 =>
  some (v150, r147.2)).bind fun r150 =>
  ((bin .add v142 (Vi Kw 1)).bind fun v152 =>
  some (v152, r150.2)).bind fun r152 =>
  ((Pq Zp (Zi 9 (Vs { data := #[48, 48, 48, 49, 48, 50, 48, 51, 48, 52, 48, 53, 48, 54, 48, 55, 48, 56, 48, 57, 49, 48, 49, 49, 49, 50, 49, 51, 49, 52, 49, 53, 49, 54, 49, 55, 49, 56, 49, 57, 50, 48, 50, 49, 50, 50, 50, 51, 50, 52, 50, 53, 50, 54, 50, 55, 50, 56, 50, 57, 51, 48, 51, 49, 51, 50, 51, 51, 51, 52, 51, 53, 51, 54, 51, 55, 51, 56, 51, 57, 52, 48, 52, 49, 52, 50, 52, 51, 52, 52, 52, 53, 52, 54, 52, 55, 52, 56, 52, 57, 53, 48, 53, 49, 53, 50, 53, 51, 53, 52, 53, 53, 53, 54, 53, 55, 53, 56, 53, 57, 54, 48, 54, 49, 54, 50, 54, 51, 54, 52, 54, 53, 54, 54, 54, 55, 54, 56, 54, 57, 55, 48, 55, 49, 55, 50, 55, 51, 55, 52, 55, 53, 55, 54, 55, 55, 55, 56, 55, 57, 56, 48, 56, 49, 56, 50, 56, 51, 56, 52, 56, 53, 56, 54, 56, 55, 56, 56, 56, 57, 57, 48, 57, 49, 57, 50, 57, 51, 57, 52, 57, 53, 57, 54, 57, 55, 57, 56, 57, 57] }) r152.1)).bind fun v153 =>
  some (v153, r152.2)).bind fun r153 =>
  ((Pq Zp (Zi 9 (Vs { data := #[48, 48, 48, 49, 48, 50, 48, 51, 48, 52, 48, 53, 48, 54, 48, 55, 48, 56, 48, 57, 49, 48, 49, 49, 49, 50, 49, 51, 49, 52, 49, 53, 49, 54, 49, 55, 49, 56, 49, 57, 50, 48, 50, 49, 50, 50, 50, 51, 50, 52, 50, 53, 50, 54, 50, 55, 50, 56, 50, 57, 51, 48, 51, 49, 51, 50, 51, 51, 51, 52, 51, 53, 51, 54, 51, 55, 51, 56, 51, 57, 52, 48, 52, 49, 52, 50, 52, 51, 52, 52, 52, 53, 52, 54, 52, 55, 52, 56, 52, 57, 53, 48, 53, 49, 53, 50, 53, 51, 53, 52, 53, 53, 53, 54, 53, 55, 53, 56, 53, 57, 54, 48, 54, 49, 54, 50, 54, 51, 54, 52, 54, 53, 54, 54, 54, 55, 54, 56, 54, 57, 55, 48, 55, 49, 55, 50, 55, 51, 55, 52, 55, 53, 55, 54, 55, 55, 55, 56, 55, 57, 56, 48, 56, 49, 56, 50, 56, 51, 56, 52, 56, 53, 56, 54, 56, 55, 56, 56, 56, 57, 57, 48, 57, 49, 57, 50, 57, 51, 57, 52, 57, 53, 57, 54, 57, 55, 57, 56, 57, 57] }) v142)).bind fun v155 =>
  some (v155, r153.2)).bind fun r155 =>
  ((Pq Zp (Zj 160 t0_3 r147.1)).bind fun v156 =>
  some (v156, r155.2)).bind fun r156 =>
  ((Eq_ Zp (Zs 5 r156.1 r153.1) r156.2).bind fun r_1 =>
  some (undef, r_1.2)).bind fun r =>
  ((Pq Zp (Zj 160 t0_3 r150.1)).bind fun v157 =>
  some (v157, r.2)).bind fun r157 =>
  ((Eq_ Zp (Zs 5 r157.1 r155.1) r157.2).bind fun r_3 =>
  some (undef, r_3.2)).bind fun r_2 =>
  chkThen (True)
  ((bin .sub r4_2 (Vi Ki 2)).bind fun v159 =>
  some (Xn [t0_3, v159, v144] r_2.2))
  else
  some (Xn [t0_3, r4_2, v12] W3)).bind fun (r : Res) => r.cont fun vs_3 W4 =>
 let t0_4 := nth vs_3 0
 let r4_3 := nth vs_3 1
 let v12_1 := nth vs_3 2
 (bin .gtr r4_3 (Vi Ki 0)).bind fun v161 =>
 (asB v161).bind fun c161 =>
 if c161 then
  (bin .add (Vi Kw 48) v12_1).bind fun v164 =>
  (Pq Zp (convert 190 5 v164)).bind fun v165 =>
  (Pq Zp (Zj 160 t0_4 (Vi Ki 0))).bind fun v166 =>
  (Eq_ Zp (Zs 5 v166 v165) W4).bind fun r_4 =>
  some (Xn [] r_4.2)
 else
 some (Xn [] W4)).bind Res.done
def f138.ann : Ann := (.s .z (.s .z .z))
noncomputable def f138 (call : CallF) (c0 : Value) (W0 : World) : Option (Value × World) :=
 ((Pq Zp (do eqGuard .or 5 (Ot 3) (Oc (Vi Ku 32)) c0 (Vi Ku 32); binOp .or 5 c0 (Vi Ku 32))).bind fun v4 =>
 some (Xr [v4] W0)).bind Res.done
def f140.ann : Ann := (.s .z (.s .z .z))
noncomputable def f140 (call : CallF) (x0 : Value) (W0 : World) : Option (Value × World) :=
 ((bin .mul x0 (Vi Ki 78913)).bind fun v4 =>
 (Pq Zp (do eqGuard .shr 3 (Ot 4) (Oc (Vi Kv 18)) v4 (Vi Kv 18); binOp .shr 3 v4 (Vi Kv 18))).bind fun v5 =>
 some (Xr [v5] W0)).bind Res.done
def f141.ann : Ann := (.s .z (.s (.s .z (.j [0, 2] (.s .z .z) .z)) (.s (.s .z (.j [0, 2] (.s .z .z) .z)) (.s (.s .z (.j [0, 2] (.s .z .z) .z)) (.s .z .z)))))
noncomputable def f141 (call : CallF) (x0 : Value) (W0 : World) : Option (Value × World) :=
 ((bin .geq x0 (Vi Kv 4294967296)).bind fun v4 =>
 (asB v4).bind fun c4 =>
 (if c4 then
  (Pq Zp (do eqGuard .shr 159 (Ot 5) (Oc (Vi Kv 32)) x0 (Vi Kv 32); binOp .shr 159 x0 (Vi Kv 32))).bind fun v6 =>
  some (Xn [v6, (Vi Ki 32)] W0)
  else
  some (Xn [x0, (Vi Ki 0)] W0)).bind fun (r : Res) => r.cont fun vs W1 =>
 let x0_1 := nth vs 0
 let n2 := nth vs 1
 (bin .geq x0_1 (Vi Kv 65536)).bind fun v8 =>
 (asB v8).bind fun c8 =>
 (if c8 then
  (Pq Zp (do eqGuard .shr 159 (Ot 9) (Oc (Vi Kv 16)) x0_1 (Vi Kv 16); binOp .shr 159 x0_1 (Vi Kv 16))).bind fun v10 =>
  (bin .add n2 (Vi Ki 16)).bind fun v12 =>
  some (Xn [v10, v12] W1)
  else
  some (Xn [x0_1, n2] W1)).bind fun (r : Res) => r.cont fun vs_1 W2 =>
 let x0_2 := nth vs_1 0
 let n2_1 := nth vs_1 1
 (bin .geq x0_2 (Vi Kv 256)).bind fun v14 =>
 (asB v14).bind fun c14 =>
 (if c14 then
  (Pq Zp (do eqGuard .shr 159 (Ot 15) (Oc (Vi Kv 8)) x0_2 (Vi Kv 8); binOp .shr 159 x0_2 (Vi Kv 8))).bind fun v16 =>
  (bin .add n2_1 (Vi Ki 8)).bind fun v18 =>
  some (Xn [v16, v18] W2)
  else
  some (Xn [x0_2, n2_1] W2)).bind fun (r : Res) => r.cont fun vs_2 W3 =>
 let x0_3 := nth vs_2 0
 let n2_2 := nth vs_2 1
 (Pq Zp (convert 159 5 x0_3)).bind fun v21 =>
 (Pq Zp (Zi 9 (Vs { data := #[0, 1, 2, 2, 3, 3, 3, 3, 4, 4, 4, 4, 4, 4, 4, 4, 5, 5, 5, 5, 5, 5, 5, 5, 5, 5, 5, 5, 5, 5, 5, 5, 6, 6, 6, 6, 6, 6, 6, 6, 6, 6, 6, 6, 6, 6, 6, 6, 6, 6, 6, 6, 6, 6, 6, 6, 6, 6, 6, 6, 6, 6, 6, 6, 7, 7, 7, 7, 7, 7, 7, 7, 7, 7, 7, 7, 7, 7, 7, 7, 7, 7, 7, 7, 7, 7, 7, 7, 7, 7, 7, 7, 7, 7, 7, 7, 7, 7, 7, 7, 7, 7, 7, 7, 7, 7, 7, 7, 7, 7, 7, 7, 7, 7, 7, 7, 7, 7, 7, 7, 7, 7, 7, 7, 7, 7, 7, 7, 8, 8, 8, 8, 8, 8, 8, 8, 8, 8, 8, 8, 8, 8, 8, 8, 8, 8, 8, 8, 8, 8, 8, 8, 8, 8, 8, 8, 8, 8, 8, 8, 8, 8, 8, 8, 8, 8, 8, 8, 8, 8, 8, 8, 8, 8, 8, 8, 8, 8, 8, 8, 8, 8, 8, 8, 8, 8, 8, 8, 8, 8, 8, 8, 8, 8, 8, 8, 8, 8, 8, 8, 8, 8, 8, 8, 8, 8, 8, 8, 8, 8, 8, 8, 8, 8, 8, 8, 8, 8, 8, 8, 8, 8, 8, 8, 8, 8, 8, 8, 8, 8, 8, 8, 8, 8, 8, 8, 8, 8, 8, 8, 8, 8, 8, 8, 8, 8, 8, 8, 8, 8, 8, 8, 8, 8, 8, 8] }) v21)).bind fun v22 =>
 (Pq Zp (convert 5 3 v22)).bind fun v23 =>
 (bin .add n2_2 v23).bind fun v24 =>
 some (Xr [v24] W3)).bind Res.done
def f142.ann : Ann := (.s .z (.s (.s .z (.c (.s .z .z) .z)) (.s .z .z)))
noncomputable def f142 (call : CallF) (b0 : Value) (W0 : World) : Option (Value × World) :=
 ((asB b0).bind fun c3 =>
 if c3 then
  some (Xr [(Vi Ki 1)] W0)
 else
 some (Xr [(Vi Ki 0)] W0)).bind Res.done
def anns (f : FuncId) : Ann := match f with
 | 8 => f8.ann
 | 9 => f9.ann
 | 11 => f11.ann
 | 12 => f12.ann
 | 13 => f13.ann
 | 14 => f14.ann
 | 15 => f15.ann
 | 18 => f18.ann
 | 22 => f22.ann
 | 23 => f23.ann
 | 24 => f24.ann
 | 25 => f25.ann
 | 26 => f26.ann
 | 27 => f27.ann
 | 28 => f28.ann
 | 29 => f29.ann
 | 30 => f30.ann
 | 31 => f31.ann
 | 33 => f33.ann
 | 34 => f34.ann
 | 35 => f35.ann
 | 36 => f36.ann
 | 37 => f37.ann
 | 38 => f38.ann
 | 39 => f39.ann
 | 40 => f40.ann
 | 42 => f42.ann
 | 46 => f46.ann
 | 49 => f49.ann
 | 54 => f54.ann
 | 55 => f55.ann
 | 56 => f56.ann
 | 57 => f57.ann
 | 58 => f58.ann
 | 59 => f59.ann
 | 60 => f60.ann
 | 61 => f61.ann
 | 62 => f62.ann
 | 63 => f63.ann
 | 64 => f64.ann
 | 65 => f65.ann
 | 66 => f66.ann
 | 67 => f67.ann
 | 68 => f68.ann
 | 69 => f69.ann
 | 70 => f70.ann
 | 71 => f71.ann
 | 72 => f72.ann
 | 73 => f73.ann
 | 74 => f74.ann
 | 75 => f75.ann
 | 80 => f80.ann
 | 81 => f81.ann
 | 82 => f82.ann
 | 83 => f83.ann
 | 87 => f87.ann
 | 88 => f88.ann
 | 89 => f89.ann
 | 91 => f91.ann
 | 92 => f92.ann
 | 94 => f94.ann
 | 95 => f95.ann
 | 96 => f96.ann
 | 97 => f97.ann
 | 98 => f98.ann
 | 99 => f99.ann
 | 100 => f100.ann
 | 101 => f101.ann
 | 102 => f102.ann
 | 103 => f103.ann
 | 106 => f106.ann
 | 108 => f108.ann
 | 109 => f109.ann
 | 113 => f113.ann
 | 114 => f114.ann
 | 115 => f115.ann
 | 118 => f118.ann
 | 119 => f119.ann
 | 120 => f120.ann
 | 123 => f123.ann
 | 124 => f124.ann
 | 125 => f125.ann
 | 126 => f126.ann
 | 128 => f128.ann
 | 129 => f129.ann
 | 130 => f130.ann
 | 132 => f132.ann
 | 133 => f133.ann
 | 134 => f134.ann
 | 135 => f135.ann
 | 136 => f136.ann
 | 138 => f138.ann
 | 140 => f140.ann
 | 141 => f141.ann
 | 142 => f142.ann
 | _ => .z
noncomputable abbrev R (prim : Prim) : CallF := Go.Sh.run Zp anns prim
section
variable {prim : Prim} {w : World} {r : Value × World}
theorem f8.run (hn : prim.call 8 #[] w = none) (h : f8 (R prim)  w = some r) : R prim 8 #[] w = some r := run_body Tryz.func8 (by kernel_rfl) hn (.trans (by kernel_rfl) h)
theorem f9.run {a : Value} (hn : prim.call 9 #[a] w = none) (h : f9 (R prim) a w = some r) : R prim 9 #[a] w = some r := run_body Tryz.func9 (by kernel_rfl) hn (.trans (by kernel_rfl) h)
theorem f11.run {a b : Value} (hn : prim.call 11 #[a, b] w = none) (h : f11 (R prim) a b w = some r) : R prim 11 #[a, b] w = some r := run_body Tryz.func11 (by kernel_rfl) hn (.trans (by kernel_rfl) h)
theorem f12.run {a b c : Value} (hn : prim.call 12 #[a, b, c] w = none) (h : f12 (R prim) a b c w = some r) : R prim 12 #[a, b, c] w = some r := run_body Tryz.func12 (by kernel_rfl) hn (.trans (by kernel_rfl) h)
theorem f13.run {a b : Value} (hn : prim.call 13 #[a, b] w = none) (h : f13 (R prim) a b w = some r) : R prim 13 #[a, b] w = some r := run_body Tryz.func13 (by kernel_rfl) hn (.trans (by kernel_rfl) h)
theorem f14.run {a : Value} (hn : prim.call 14 #[a] w = none) (h : f14 (R prim) a w = some r) : R prim 14 #[a] w = some r := run_body Tryz.func14 (by kernel_rfl) hn (.trans (by kernel_rfl) h)
theorem f15.run {a : Value} (hn : prim.call 15 #[a] w = none) (h : f15 (R prim) a w = some r) : R prim 15 #[a] w = some r := run_body Tryz.func15 (by kernel_rfl) hn (.trans (by kernel_rfl) h)
theorem f18.run {a : Value} (hn : prim.call 18 #[a] w = none) (h : f18 (R prim) a w = some r) : R prim 18 #[a] w = some r := run_body Tryz.func18 (by kernel_rfl) hn (.trans (by kernel_rfl) h)
theorem f22.run {a b : Value} (hn : prim.call 22 #[a, b] w = none) (h : f22 (R prim) a b w = some r) : R prim 22 #[a, b] w = some r := run_body Tryz.func22 (by kernel_rfl) hn (.trans (by kernel_rfl) h)
theorem f23.run {a b : Value} (hn : prim.call 23 #[a, b] w = none) (h : f23 (R prim) a b w = some r) : R prim 23 #[a, b] w = some r := run_body Tryz.func23 (by kernel_rfl) hn (.trans (by kernel_rfl) h)
theorem f24.run {a : Value} (hn : prim.call 24 #[a] w = none) (h : f24 (R prim) a w = some r) : R prim 24 #[a] w = some r := run_body Tryz.func24 (by kernel_rfl) hn (.trans (by kernel_rfl) h)
theorem f25.run {a b : Value} (hn : prim.call 25 #[a, b] w = none) (h : f25 (R prim) a b w = some r) : R prim 25 #[a, b] w = some r := run_body Tryz.func25 (by kernel_rfl) hn (.trans (by kernel_rfl) h)
theorem f26.run {a b c : Value} (hn : prim.call 26 #[a, b, c] w = none) (h : f26 (R prim) a b c w = some r) : R prim 26 #[a, b, c] w = some r := run_body Tryz.func26 (by kernel_rfl) hn (.trans (by kernel_rfl) h)
theorem f27.run {a : Value} (hn : prim.call 27 #[a] w = none) (h : f27 (R prim) a w = some r) : R prim 27 #[a] w = some r := run_body Tryz.func27 (by kernel_rfl) hn (.trans (by kernel_rfl) h)
theorem f28.run {a b : Value} (hn : prim.call 28 #[a, b] w = none) (h : f28 (R prim) a b w = some r) : R prim 28 #[a, b] w = some r := run_body Tryz.func28 (by kernel_rfl) hn (.trans (by kernel_rfl) h)
theorem f29.run {a : Value} (hn : prim.call 29 #[a] w = none) (h : f29 (R prim) a w = some r) : R prim 29 #[a] w = some r := run_body Tryz.func29 (by kernel_rfl) hn (.trans (by kernel_rfl) h)
theorem f30.run {a b : Value} (hn : prim.call 30 #[a, b] w = none) (h : f30 (R prim) a b w = some r) : R prim 30 #[a, b] w = some r := run_body Tryz.func30 (by kernel_rfl) hn (.trans (by kernel_rfl) h)
theorem f31.run {a b : Value} (hn : prim.call 31 #[a, b] w = none) (h : f31 (R prim) a b w = some r) : R prim 31 #[a, b] w = some r := run_body Tryz.func31 (by kernel_rfl) hn (.trans (by kernel_rfl) h)
theorem f33.run {a b : Value} (hn : prim.call 33 #[a, b] w = none) (h : f33 (R prim) a b w = some r) : R prim 33 #[a, b] w = some r := run_body Tryz.func33 (by kernel_rfl) hn (.trans (by kernel_rfl) h)
theorem f34.run {a b : Value} (hn : prim.call 34 #[a, b] w = none) (h : f34 (R prim) a b w = some r) : R prim 34 #[a, b] w = some r := run_body Tryz.func34 (by kernel_rfl) hn (.trans (by kernel_rfl) h)
theorem f35.run {a : Value} (hn : prim.call 35 #[a] w = none) (h : f35 (R prim) a w = some r) : R prim 35 #[a] w = some r := run_body Tryz.func35 (by kernel_rfl) hn (.trans (by kernel_rfl) h)
theorem f36.run {a b : Value} (hn : prim.call 36 #[a, b] w = none) (h : f36 (R prim) a b w = some r) : R prim 36 #[a, b] w = some r := run_body Tryz.func36 (by kernel_rfl) hn (.trans (by kernel_rfl) h)
theorem f37.run {a : Value} (hn : prim.call 37 #[a] w = none) (h : f37 (R prim) a w = some r) : R prim 37 #[a] w = some r := run_body Tryz.func37 (by kernel_rfl) hn (.trans (by kernel_rfl) h)
theorem f38.run {a b : Value} (hn : prim.call 38 #[a, b] w = none) (h : f38 (R prim) a b w = some r) : R prim 38 #[a, b] w = some r := run_body Tryz.func38 (by kernel_rfl) hn (.trans (by kernel_rfl) h)
theorem f39.run {a : Value} (hn : prim.call 39 #[a] w = none) (h : f39 (R prim) a w = some r) : R prim 39 #[a] w = some r := run_body Tryz.func39 (by kernel_rfl) hn (.trans (by kernel_rfl) h)
theorem f40.run {a b c : Value} (hn : prim.call 40 #[a, b, c] w = none) (h : f40 (R prim) a b c w = some r) : R prim 40 #[a, b, c] w = some r := run_body Tryz.func40 (by kernel_rfl) hn (.trans (by kernel_rfl) h)
theorem f42.run {a : Value} (hn : prim.call 42 #[a] w = none) (h : f42 (R prim) a w = some r) : R prim 42 #[a] w = some r := run_body Tryz.func42 (by kernel_rfl) hn (.trans (by kernel_rfl) h)
theorem f46.run {a : Value} (hn : prim.call 46 #[a] w = none) (h : f46 (R prim) a w = some r) : R prim 46 #[a] w = some r := run_body Tryz.func46 (by kernel_rfl) hn (.trans (by kernel_rfl) h)
theorem f49.run {a : Value} (hn : prim.call 49 #[a] w = none) (h : f49 (R prim) a w = some r) : R prim 49 #[a] w = some r := run_body Tryz.func49 (by kernel_rfl) hn (.trans (by kernel_rfl) h)
theorem f54.run {a : Value} (hn : prim.call 54 #[a] w = none) (h : f54 (R prim) a w = some r) : R prim 54 #[a] w = some r := run_body Tryz.func54 (by kernel_rfl) hn (.trans (by kernel_rfl) h)
theorem f55.run {a b : Value} (hn : prim.call 55 #[a, b] w = none) (h : f55 (R prim) a b w = some r) : R prim 55 #[a, b] w = some r := run_body Tryz.func55 (by kernel_rfl) hn (.trans (by kernel_rfl) h)
theorem f56.run {a : Value} (hn : prim.call 56 #[a] w = none) (h : f56 (R prim) a w = some r) : R prim 56 #[a] w = some r := run_body Tryz.func56 (by kernel_rfl) hn (.trans (by kernel_rfl) h)
theorem f57.run {a b : Value} (hn : prim.call 57 #[a, b] w = none) (h : f57 (R prim) a b w = some r) : R prim 57 #[a, b] w = some r := run_body Tryz.func57 (by kernel_rfl) hn (.trans (by kernel_rfl) h)
theorem f58.run {a b : Value} (hn : prim.call 58 #[a, b] w = none) (h : f58 (R prim) a b w = some r) : R prim 58 #[a, b] w = some r := run_body Tryz.func58 (by kernel_rfl) hn (.trans (by kernel_rfl) h)
theorem f59.run {a : Value} (hn : prim.call 59 #[a] w = none) (h : f59 (R prim) a w = some r) : R prim 59 #[a] w = some r := run_body Tryz.func59 (by kernel_rfl) hn (.trans (by kernel_rfl) h)
theorem f60.run {a : Value} (hn : prim.call 60 #[a] w = none) (h : f60 (R prim) a w = some r) : R prim 60 #[a] w = some r := run_body Tryz.func60 (by kernel_rfl) hn (.trans (by kernel_rfl) h)
theorem f61.run {a : Value} (hn : prim.call 61 #[a] w = none) (h : f61 (R prim) a w = some r) : R prim 61 #[a] w = some r := run_body Tryz.func61 (by kernel_rfl) hn (.trans (by kernel_rfl) h)
theorem f62.run {a b : Value} (hn : prim.call 62 #[a, b] w = none) (h : f62 (R prim) a b w = some r) : R prim 62 #[a, b] w = some r := run_body Tryz.func62 (by kernel_rfl) hn (.trans (by kernel_rfl) h)
theorem f63.run {a : Value} (hn : prim.call 63 #[a] w = none) (h : f63 (R prim) a w = some r) : R prim 63 #[a] w = some r := run_body Tryz.func63 (by kernel_rfl) hn (.trans (by kernel_rfl) h)
theorem f64.run {a : Value} (hn : prim.call 64 #[a] w = none) (h : f64 (R prim) a w = some r) : R prim 64 #[a] w = some r := run_body Tryz.func64 (by kernel_rfl) hn (.trans (by kernel_rfl) h)
theorem f65.run {a : Value} (hn : prim.call 65 #[a] w = none) (h : f65 (R prim) a w = some r) : R prim 65 #[a] w = some r := run_body Tryz.func65 (by kernel_rfl) hn (.trans (by kernel_rfl) h)
theorem f66.run {a : Value} (hn : prim.call 66 #[a] w = none) (h : f66 (R prim) a w = some r) : R prim 66 #[a] w = some r := run_body Tryz.func66 (by kernel_rfl) hn (.trans (by kernel_rfl) h)
theorem f67.run {a : Value} (hn : prim.call 67 #[a] w = none) (h : f67 (R prim) a w = some r) : R prim 67 #[a] w = some r := run_body Tryz.func67 (by kernel_rfl) hn (.trans (by kernel_rfl) h)
theorem f68.run {a b : Value} (hn : prim.call 68 #[a, b] w = none) (h : f68 (R prim) a b w = some r) : R prim 68 #[a, b] w = some r := run_body Tryz.func68 (by kernel_rfl) hn (.trans (by kernel_rfl) h)
theorem f69.run {a b : Value} (hn : prim.call 69 #[a, b] w = none) (h : f69 (R prim) a b w = some r) : R prim 69 #[a, b] w = some r := run_body Tryz.func69 (by kernel_rfl) hn (.trans (by kernel_rfl) h)
theorem f70.run {a b : Value} (hn : prim.call 70 #[a, b] w = none) (h : f70 (R prim) a b w = some r) : R prim 70 #[a, b] w = some r := run_body Tryz.func70 (by kernel_rfl) hn (.trans (by kernel_rfl) h)
theorem f71.run {a b c : Value} (hn : prim.call 71 #[a, b, c] w = none) (h : f71 (R prim) a b c w = some r) : R prim 71 #[a, b, c] w = some r := run_body Tryz.func71 (by kernel_rfl) hn (.trans (by kernel_rfl) h)
theorem f72.run {a b c : Value} (hn : prim.call 72 #[a, b, c] w = none) (h : f72 (R prim) a b c w = some r) : R prim 72 #[a, b, c] w = some r := run_body Tryz.func72 (by kernel_rfl) hn (.trans (by kernel_rfl) h)
theorem f73.run {a b : Value} (hn : prim.call 73 #[a, b] w = none) (h : f73 (R prim) a b w = some r) : R prim 73 #[a, b] w = some r := run_body Tryz.func73 (by kernel_rfl) hn (.trans (by kernel_rfl) h)
theorem f74.run {a b : Value} (hn : prim.call 74 #[a, b] w = none) (h : f74 (R prim) a b w = some r) : R prim 74 #[a, b] w = some r := run_body Tryz.func74 (by kernel_rfl) hn (.trans (by kernel_rfl) h)
theorem f75.run {a : Value} (hn : prim.call 75 #[a] w = none) (h : f75 (R prim) a w = some r) : R prim 75 #[a] w = some r := run_body Tryz.func75 (by kernel_rfl) hn (.trans (by kernel_rfl) h)
theorem f80.run {a : Value} (hn : prim.call 80 #[a] w = none) (h : f80 (R prim) a w = some r) : R prim 80 #[a] w = some r := run_body Tryz.func80 (by kernel_rfl) hn (.trans (by kernel_rfl) h)
theorem f81.run {a : Value} (hn : prim.call 81 #[a] w = none) (h : f81 (R prim) a w = some r) : R prim 81 #[a] w = some r := run_body Tryz.func81 (by kernel_rfl) hn (.trans (by kernel_rfl) h)
theorem f82.run {a : Value} (hn : prim.call 82 #[a] w = none) (h : f82 (R prim) a w = some r) : R prim 82 #[a] w = some r := run_body Tryz.func82 (by kernel_rfl) hn (.trans (by kernel_rfl) h)
theorem f83.run {a b : Value} (hn : prim.call 83 #[a, b] w = none) (h : f83 (R prim) a b w = some r) : R prim 83 #[a, b] w = some r := run_body Tryz.func83 (by kernel_rfl) hn (.trans (by kernel_rfl) h)
theorem f87.run {a : Value} (hn : prim.call 87 #[a] w = none) (h : f87 (R prim) a w = some r) : R prim 87 #[a] w = some r := run_body Tryz.func87 (by kernel_rfl) hn (.trans (by kernel_rfl) h)
theorem f88.run {a : Value} (hn : prim.call 88 #[a] w = none) (h : f88 (R prim) a w = some r) : R prim 88 #[a] w = some r := run_body Tryz.func88 (by kernel_rfl) hn (.trans (by kernel_rfl) h)
theorem f89.run {a b : Value} (hn : prim.call 89 #[a, b] w = none) (h : f89 (R prim) a b w = some r) : R prim 89 #[a, b] w = some r := run_body Tryz.func89 (by kernel_rfl) hn (.trans (by kernel_rfl) h)
theorem f91.run {a : Value} (hn : prim.call 91 #[a] w = none) (h : f91 (R prim) a w = some r) : R prim 91 #[a] w = some r := run_body Tryz.func91 (by kernel_rfl) hn (.trans (by kernel_rfl) h)
theorem f92.run {a : Value} (hn : prim.call 92 #[a] w = none) (h : f92 (R prim) a w = some r) : R prim 92 #[a] w = some r := run_body Tryz.func92 (by kernel_rfl) hn (.trans (by kernel_rfl) h)
theorem f94.run {a b : Value} (hn : prim.call 94 #[a, b] w = none) (h : f94 (R prim) a b w = some r) : R prim 94 #[a, b] w = some r := run_body Tryz.func94 (by kernel_rfl) hn (.trans (by kernel_rfl) h)
theorem f95.run {a : Value} (hn : prim.call 95 #[a] w = none) (h : f95 (R prim) a w = some r) : R prim 95 #[a] w = some r := run_body Tryz.func95 (by kernel_rfl) hn (.trans (by kernel_rfl) h)
theorem f96.run {a : Value} (hn : prim.call 96 #[a] w = none) (h : f96 (R prim) a w = some r) : R prim 96 #[a] w = some r := run_body Tryz.func96 (by kernel_rfl) hn (.trans (by kernel_rfl) h)
theorem f97.run {a b : Value} (hn : prim.call 97 #[a, b] w = none) (h : f97 (R prim) a b w = some r) : R prim 97 #[a, b] w = some r := run_body Tryz.func97 (by kernel_rfl) hn (.trans (by kernel_rfl) h)
theorem f98.run {a : Value} (hn : prim.call 98 #[a] w = none) (h : f98 (R prim) a w = some r) : R prim 98 #[a] w = some r := run_body Tryz.func98 (by kernel_rfl) hn (.trans (by kernel_rfl) h)
theorem f99.run {a b c d e : Value} (hn : prim.call 99 #[a, b, c, d, e] w = none) (h : f99 (R prim) a b c d e w = some r) : R prim 99 #[a, b, c, d, e] w = some r := run_body Tryz.func99 (by kernel_rfl) hn (.trans (by kernel_rfl) h)
theorem f100.run {a b : Value} (hn : prim.call 100 #[a, b] w = none) (h : f100 (R prim) a b w = some r) : R prim 100 #[a, b] w = some r := run_body Tryz.func100 (by kernel_rfl) hn (.trans (by kernel_rfl) h)
theorem f101.run {a : Value} (hn : prim.call 101 #[a] w = none) (h : f101 (R prim) a w = some r) : R prim 101 #[a] w = some r := run_body Tryz.func101 (by kernel_rfl) hn (.trans (by kernel_rfl) h)
theorem f102.run {a : Value} (hn : prim.call 102 #[a] w = none) (h : f102 (R prim) a w = some r) : R prim 102 #[a] w = some r := run_body Tryz.func102 (by kernel_rfl) hn (.trans (by kernel_rfl) h)
theorem f103.run {a b : Value} (hn : prim.call 103 #[a, b] w = none) (h : f103 (R prim) a b w = some r) : R prim 103 #[a, b] w = some r := run_body Tryz.func103 (by kernel_rfl) hn (.trans (by kernel_rfl) h)
theorem f106.run {a : Value} (hn : prim.call 106 #[a] w = none) (h : f106 (R prim) a w = some r) : R prim 106 #[a] w = some r := run_body Tryz.func106 (by kernel_rfl) hn (.trans (by kernel_rfl) h)
theorem f108.run {a b : Value} (hn : prim.call 108 #[a, b] w = none) (h : f108 (R prim) a b w = some r) : R prim 108 #[a, b] w = some r := run_body Tryz.func108 (by kernel_rfl) hn (.trans (by kernel_rfl) h)
theorem f109.run {a b : Value} (hn : prim.call 109 #[a, b] w = none) (h : f109 (R prim) a b w = some r) : R prim 109 #[a, b] w = some r := run_body Tryz.func109 (by kernel_rfl) hn (.trans (by kernel_rfl) h)
theorem f113.run {a : Value} (hn : prim.call 113 #[a] w = none) (h : f113 (R prim) a w = some r) : R prim 113 #[a] w = some r := run_body Tryz.func113 (by kernel_rfl) hn (.trans (by kernel_rfl) h)
theorem f114.run {a : Value} (hn : prim.call 114 #[a] w = none) (h : f114 (R prim) a w = some r) : R prim 114 #[a] w = some r := run_body Tryz.func114 (by kernel_rfl) hn (.trans (by kernel_rfl) h)
theorem f115.run {a : Value} (hn : prim.call 115 #[a] w = none) (h : f115 (R prim) a w = some r) : R prim 115 #[a] w = some r := run_body Tryz.func115 (by kernel_rfl) hn (.trans (by kernel_rfl) h)
theorem f118.run {a b c : Value} (hn : prim.call 118 #[a, b, c] w = none) (h : f118 (R prim) a b c w = some r) : R prim 118 #[a, b, c] w = some r := run_body Tryz.func118 (by kernel_rfl) hn (.trans (by kernel_rfl) h)
theorem f119.run {a b : Value} (hn : prim.call 119 #[a, b] w = none) (h : f119 (R prim) a b w = some r) : R prim 119 #[a, b] w = some r := run_body Tryz.func119 (by kernel_rfl) hn (.trans (by kernel_rfl) h)
theorem f120.run {a b : Value} (hn : prim.call 120 #[a, b] w = none) (h : f120 (R prim) a b w = some r) : R prim 120 #[a, b] w = some r := run_body Tryz.func120 (by kernel_rfl) hn (.trans (by kernel_rfl) h)
theorem f123.run {a b : Value} (hn : prim.call 123 #[a, b] w = none) (h : f123 (R prim) a b w = some r) : R prim 123 #[a, b] w = some r := run_body Tryz.func123 (by kernel_rfl) hn (.trans (by kernel_rfl) h)
theorem f124.run {a : Value} (hn : prim.call 124 #[a] w = none) (h : f124 (R prim) a w = some r) : R prim 124 #[a] w = some r := run_body Tryz.func124 (by kernel_rfl) hn (.trans (by kernel_rfl) h)
theorem f125.run {a b : Value} (hn : prim.call 125 #[a, b] w = none) (h : f125 (R prim) a b w = some r) : R prim 125 #[a, b] w = some r := run_body Tryz.func125 (by kernel_rfl) hn (.trans (by kernel_rfl) h)
theorem f126.run {a b : Value} (hn : prim.call 126 #[a, b] w = none) (h : f126 (R prim) a b w = some r) : R prim 126 #[a, b] w = some r := run_body Tryz.func126 (by kernel_rfl) hn (.trans (by kernel_rfl) h)
theorem f128.run {a b : Value} (hn : prim.call 128 #[a, b] w = none) (h : f128 (R prim) a b w = some r) : R prim 128 #[a, b] w = some r := run_body Tryz.func128 (by kernel_rfl) hn (.trans (by kernel_rfl) h)
theorem f129.run {a b c : Value} (hn : prim.call 129 #[a, b, c] w = none) (h : f129 (R prim) a b c w = some r) : R prim 129 #[a, b, c] w = some r := run_body Tryz.func129 (by kernel_rfl) hn (.trans (by kernel_rfl) h)
theorem f130.run {a : Value} (hn : prim.call 130 #[a] w = none) (h : f130 (R prim) a w = some r) : R prim 130 #[a] w = some r := run_body Tryz.func130 (by kernel_rfl) hn (.trans (by kernel_rfl) h)
theorem f132.run {a b : Value} (hn : prim.call 132 #[a, b] w = none) (h : f132 (R prim) a b w = some r) : R prim 132 #[a, b] w = some r := run_body Tryz.func132 (by kernel_rfl) hn (.trans (by kernel_rfl) h)
theorem f133.run {a b : Value} (hn : prim.call 133 #[a, b] w = none) (h : f133 (R prim) a b w = some r) : R prim 133 #[a, b] w = some r := run_body Tryz.func133 (by kernel_rfl) hn (.trans (by kernel_rfl) h)
theorem f134.run {a : Value} (hn : prim.call 134 #[a] w = none) (h : f134 (R prim) a w = some r) : R prim 134 #[a] w = some r := run_body Tryz.func134 (by kernel_rfl) hn (.trans (by kernel_rfl) h)
theorem f135.run {a : Value} (hn : prim.call 135 #[a] w = none) (h : f135 (R prim) a w = some r) : R prim 135 #[a] w = some r := run_body Tryz.func135 (by kernel_rfl) hn (.trans (by kernel_rfl) h)
theorem f136.run {a b : Value} (hn : prim.call 136 #[a, b] w = none) (h : f136 (R prim) a b w = some r) : R prim 136 #[a, b] w = some r := run_body Tryz.func136 (by kernel_rfl) hn (.trans (by kernel_rfl) h)
theorem f138.run {a : Value} (hn : prim.call 138 #[a] w = none) (h : f138 (R prim) a w = some r) : R prim 138 #[a] w = some r := run_body Tryz.func138 (by kernel_rfl) hn (.trans (by kernel_rfl) h)
theorem f140.run {a : Value} (hn : prim.call 140 #[a] w = none) (h : f140 (R prim) a w = some r) : R prim 140 #[a] w = some r := run_body Tryz.func140 (by kernel_rfl) hn (.trans (by kernel_rfl) h)
theorem f141.run {a : Value} (hn : prim.call 141 #[a] w = none) (h : f141 (R prim) a w = some r) : R prim 141 #[a] w = some r := run_body Tryz.func141 (by kernel_rfl) hn (.trans (by kernel_rfl) h)
theorem f142.run {a : Value} (hn : prim.call 142 #[a] w = none) (h : f142 (R prim) a w = some r) : R prim 142 #[a] w = some r := run_body Tryz.func142 (by kernel_rfl) hn (.trans (by kernel_rfl) h)
end
noncomputable def inf (t : Nat) : TypeInfo := (Tryz.prog.info? t).getD default
@[simp] theorem len9 (ty : TypeId) (s : ByteArray) : Pq Zp (Yl #[9] ty #[.string s]) = some (.int .i64 s.size) := len_string Uz ty s
@[simp] theorem len24 (ty : TypeId) (a : Option Addr) (n c : Nat) : Pq Zp (Yl #[24] ty #[.slice a n c]) = some (.int .i64 n) := len_slice Tryz.underlying24 ty a n c
@[simp] theorem len28 (ty : TypeId) (a : Option Addr) (n c : Nat) : Pq Zp (Yl #[28] ty #[.slice a n c]) = some (.int .i64 n) := len_slice Tryz.underlying28 ty a n c
@[simp] theorem len62 (ty : TypeId) (a : Option Addr) (n c : Nat) : Pq Zp (Yl #[62] ty #[.slice a n c]) = some (.int .i64 n) := len_slice Tryz.underlying62 ty a n c
@[simp] theorem len70 (ty : TypeId) (a : Option Addr) (n c : Nat) : Pq Zp (Yl #[70] ty #[.slice a n c]) = some (.int .i64 n) := len_slice Tryz.underlying70 ty a n c
@[simp] theorem len160 (ty : TypeId) (a : Option Addr) (n c : Nat) : Pq Zp (Yl #[160] ty #[.slice a n c]) = some (.int .i64 n) := len_slice Tryz.underlying160 ty a n c
@[simp] theorem ld3 (a : Addr) (w : World) : Rq Zp (Zl 3 (.pointer (some a))) w = w.cell? a := load_one Tryz.underlying3 (by kernel_rfl) a w
@[simp] theorem ld4 (a : Addr) (w : World) : Rq Zp (Zl 4 (.pointer (some a))) w = w.cell? a := load_one Tryz.underlying4 (by kernel_rfl) a w
@[simp] theorem ld5 (a : Addr) (w : World) : Rq Zp (Zl 5 (.pointer (some a))) w = w.cell? a := load_one Tryz.underlying5 (by kernel_rfl) a w
@[simp] theorem ld9 (a : Addr) (w : World) : Rq Zp (Zl 9 (.pointer (some a))) w = w.cell? a := load_one Uz (by kernel_rfl) a w
@[simp] theorem ld24 (a : Addr) (w : World) : Rq Zp (Zl 24 (.pointer (some a))) w = w.cell? a := load_one Tryz.underlying24 (by kernel_rfl) a w
@[simp] theorem ld27 (a : Addr) (w : World) : Rq Zp (Zl 27 (.pointer (some a))) w = w.cell? a := load_one Tryz.underlying27 (by kernel_rfl) a w
@[simp] theorem ld28 (a : Addr) (w : World) : Rq Zp (Zl 28 (.pointer (some a))) w = w.cell? a := load_one Tryz.underlying28 (by kernel_rfl) a w
theorem inf30 : Tryz.prog.info? 30 = some (inf 30) := by kernel_rfl
theorem size30 : (inf 30).size = 3 := by kernel_rfl
theorem ld30 {a : Addr} {w : World} {v0 v1 v2 : Value} (h0 : w.cell? (a.add 0) = some v0) (h1 : w.cell? (a.add 1) = some v1) (h2 : w.cell? (a.add 2) = some v2) : Rq Zp (Zl 30 (.pointer (some a))) w = some (.agg #[v0, v1, v2]) := load_agg (vs := [v0, v1, v2]) inf30 (by kernel_rfl) (by rw [size30]; rfl) ⟨h0, h1, h2, trivial⟩
@[simp] theorem ld32 (a : Addr) (w : World) : Rq Zp (Zl 32 (.pointer (some a))) w = w.cell? a := load_one Tryz.underlying32 (by kernel_rfl) a w
@[simp] theorem ld35 (a : Addr) (w : World) : Rq Zp (Zl 35 (.pointer (some a))) w = w.cell? a := load_one Tryz.underlying35 (by kernel_rfl) a w
theorem inf51 : Tryz.prog.info? 51 = some (inf 51) := by kernel_rfl
theorem size51 : (inf 51).size = 5 := by kernel_rfl
theorem ld51 {a : Addr} {w : World} {v0 v1 v2 v3 v4 : Value} (h0 : w.cell? (a.add 0) = some v0) (h1 : w.cell? (a.add 1) = some v1) (h2 : w.cell? (a.add 2) = some v2) (h3 : w.cell? (a.add 3) = some v3) (h4 : w.cell? (a.add 4) = some v4) : Rq Zp (Zl 51 (.pointer (some a))) w = some (.agg #[v0, v1, v2, v3, v4]) := load_agg (vs := [v0, v1, v2, v3, v4]) inf51 (by kernel_rfl) (by rw [size51]; rfl) ⟨h0, h1, h2, h3, h4, trivial⟩
@[simp] theorem ld62 (a : Addr) (w : World) : Rq Zp (Zl 62 (.pointer (some a))) w = w.cell? a := load_one Tryz.underlying62 (by kernel_rfl) a w
theorem inf74 : Tryz.prog.info? 74 = some (inf 74) := by kernel_rfl
theorem size74 : (inf 74).size = 4 := by kernel_rfl
theorem ld74 {a : Addr} {w : World} {v0 v1 v2 v3 : Value} (h0 : w.cell? (a.add 0) = some v0) (h1 : w.cell? (a.add 1) = some v1) (h2 : w.cell? (a.add 2) = some v2) (h3 : w.cell? (a.add 3) = some v3) : Rq Zp (Zl 74 (.pointer (some a))) w = some (.agg #[v0, v1, v2, v3]) := load_agg (vs := [v0, v1, v2, v3]) inf74 (by kernel_rfl) (by rw [size74]; rfl) ⟨h0, h1, h2, h3, trivial⟩
theorem inf76 : Tryz.prog.info? 76 = some (inf 76) := by kernel_rfl
theorem size76 : (inf 76).size = 2 := by kernel_rfl
theorem ld76 {a : Addr} {w : World} {v0 v1 : Value} (h0 : w.cell? (a.add 0) = some v0) (h1 : w.cell? (a.add 1) = some v1) : Rq Zp (Zl 76 (.pointer (some a))) w = some (.agg #[v0, v1]) := load_agg (vs := [v0, v1]) inf76 (by kernel_rfl) (by rw [size76]; rfl) ⟨h0, h1, trivial⟩
@[simp] theorem ld82 (a : Addr) (w : World) : Rq Zp (Zl 82 (.pointer (some a))) w = w.cell? a := load_one Tryz.underlying82 (by kernel_rfl) a w
@[simp] theorem ld108 (a : Addr) (w : World) : Rq Zp (Zl 108 (.pointer (some a))) w = w.cell? a := load_one Tryz.underlying108 (by kernel_rfl) a w
theorem inf114 : Tryz.prog.info? 114 = some (inf 114) := by kernel_rfl
theorem size114 : (inf 114).size = 4 := by kernel_rfl
theorem ld114 {a : Addr} {w : World} {v0 v1 v2 v3 : Value} (h0 : w.cell? (a.add 0) = some v0) (h1 : w.cell? (a.add 1) = some v1) (h2 : w.cell? (a.add 2) = some v2) (h3 : w.cell? (a.add 3) = some v3) : Rq Zp (Zl 114 (.pointer (some a))) w = some (.agg #[v0, v1, v2, v3]) := load_agg (vs := [v0, v1, v2, v3]) inf114 (by kernel_rfl) (by rw [size114]; rfl) ⟨h0, h1, h2, h3, trivial⟩
theorem inf137 : Tryz.prog.info? 137 = some (inf 137) := by kernel_rfl
theorem size137 : (inf 137).size = 3 := by kernel_rfl
theorem ld137 {a : Addr} {w : World} {v0 v1 v2 : Value} (h0 : w.cell? (a.add 0) = some v0) (h1 : w.cell? (a.add 1) = some v1) (h2 : w.cell? (a.add 2) = some v2) : Rq Zp (Zl 137 (.pointer (some a))) w = some (.agg #[v0, v1, v2]) := load_agg (vs := [v0, v1, v2]) inf137 (by kernel_rfl) (by rw [size137]; rfl) ⟨h0, h1, h2, trivial⟩
theorem inf145 : Tryz.prog.info? 145 = some (inf 145) := by kernel_rfl
theorem size145 : (inf 145).size = 4 := by kernel_rfl
theorem ld145 {a : Addr} {w : World} {v0 v1 v2 v3 : Value} (h0 : w.cell? (a.add 0) = some v0) (h1 : w.cell? (a.add 1) = some v1) (h2 : w.cell? (a.add 2) = some v2) (h3 : w.cell? (a.add 3) = some v3) : Rq Zp (Zl 145 (.pointer (some a))) w = some (.agg #[v0, v1, v2, v3]) := load_agg (vs := [v0, v1, v2, v3]) inf145 (by kernel_rfl) (by rw [size145]; rfl) ⟨h0, h1, h2, h3, trivial⟩
theorem inf152 : Tryz.prog.info? 152 = some (inf 152) := by kernel_rfl
theorem size152 : (inf 152).size = 2 := by kernel_rfl
theorem ld152 {a : Addr} {w : World} {v0 v1 : Value} (h0 : w.cell? (a.add 0) = some v0) (h1 : w.cell? (a.add 1) = some v1) : Rq Zp (Zl 152 (.pointer (some a))) w = some (.agg #[v0, v1]) := load_agg (vs := [v0, v1]) inf152 (by kernel_rfl) (by rw [size152]; rfl) ⟨h0, h1, trivial⟩
@[simp] theorem ld159 (a : Addr) (w : World) : Rq Zp (Zl 159 (.pointer (some a))) w = w.cell? a := load_one Tryz.underlying159 (by kernel_rfl) a w
theorem inf175 : Tryz.prog.info? 175 = some (inf 175) := by kernel_rfl
theorem size175 : (inf 175).size = 256 := by kernel_rfl
theorem inf3 : Tryz.prog.info? 3 = some (inf 3) := by kernel_rfl
theorem size3 : (inf 3).size = 1 := by kernel_rfl
theorem st3 {a : Addr} {w : World} {v u : Value} (hv : v.cells = #[v]) (ho : v.oneCell' = true) (hc : w.cell? a = some u) (hf : w.frozen? a = false) : Eq_ Zp (Zs 3 (.pointer (some a)) v) w = some ((), w.setCell a v) := store_one inf3 size3 hv ho hc hf
theorem inf4 : Tryz.prog.info? 4 = some (inf 4) := by kernel_rfl
theorem size4 : (inf 4).size = 1 := by kernel_rfl
theorem st4 {a : Addr} {w : World} {v u : Value} (hv : v.cells = #[v]) (ho : v.oneCell' = true) (hc : w.cell? a = some u) (hf : w.frozen? a = false) : Eq_ Zp (Zs 4 (.pointer (some a)) v) w = some ((), w.setCell a v) := store_one inf4 size4 hv ho hc hf
theorem inf5 : Tryz.prog.info? 5 = some (inf 5) := by kernel_rfl
theorem size5 : (inf 5).size = 1 := by kernel_rfl
theorem st5 {a : Addr} {w : World} {v u : Value} (hv : v.cells = #[v]) (ho : v.oneCell' = true) (hc : w.cell? a = some u) (hf : w.frozen? a = false) : Eq_ Zp (Zs 5 (.pointer (some a)) v) w = some ((), w.setCell a v) := store_one inf5 size5 hv ho hc hf
theorem inf9 : Tryz.prog.info? 9 = some (inf 9) := by kernel_rfl
theorem size9 : (inf 9).size = 1 := by kernel_rfl
theorem st9 {a : Addr} {w : World} {v u : Value} (hv : v.cells = #[v]) (ho : v.oneCell' = true) (hc : w.cell? a = some u) (hf : w.frozen? a = false) : Eq_ Zp (Zs 9 (.pointer (some a)) v) w = some ((), w.setCell a v) := store_one inf9 size9 hv ho hc hf
theorem inf24 : Tryz.prog.info? 24 = some (inf 24) := by kernel_rfl
theorem size24 : (inf 24).size = 1 := by kernel_rfl
theorem st24 {a : Addr} {w : World} {v u : Value} (hv : v.cells = #[v]) (ho : v.oneCell' = true) (hc : w.cell? a = some u) (hf : w.frozen? a = false) : Eq_ Zp (Zs 24 (.pointer (some a)) v) w = some ((), w.setCell a v) := store_one inf24 size24 hv ho hc hf
theorem inf28 : Tryz.prog.info? 28 = some (inf 28) := by kernel_rfl
theorem size28 : (inf 28).size = 1 := by kernel_rfl
theorem st28 {a : Addr} {w : World} {v u : Value} (hv : v.cells = #[v]) (ho : v.oneCell' = true) (hc : w.cell? a = some u) (hf : w.frozen? a = false) : Eq_ Zp (Zs 28 (.pointer (some a)) v) w = some ((), w.setCell a v) := store_one inf28 size28 hv ho hc hf
theorem inf62 : Tryz.prog.info? 62 = some (inf 62) := by kernel_rfl
theorem size62 : (inf 62).size = 1 := by kernel_rfl
theorem st62 {a : Addr} {w : World} {v u : Value} (hv : v.cells = #[v]) (ho : v.oneCell' = true) (hc : w.cell? a = some u) (hf : w.frozen? a = false) : Eq_ Zp (Zs 62 (.pointer (some a)) v) w = some ((), w.setCell a v) := store_one inf62 size62 hv ho hc hf
theorem inf82 : Tryz.prog.info? 82 = some (inf 82) := by kernel_rfl
theorem size82 : (inf 82).size = 1 := by kernel_rfl
theorem st82 {a : Addr} {w : World} {v u : Value} (hv : v.cells = #[v]) (ho : v.oneCell' = true) (hc : w.cell? a = some u) (hf : w.frozen? a = false) : Eq_ Zp (Zs 82 (.pointer (some a)) v) w = some ((), w.setCell a v) := store_one inf82 size82 hv ho hc hf
@[simp] theorem fa26_0 (a : Addr) : Pq Zp (Zf 26 (.pointer (some a)) 0) = some (.pointer (some (a.add 0))) := id (by kernel_rfl)
@[simp] theorem fa26_1 (a : Addr) : Pq Zp (Zf 26 (.pointer (some a)) 1) = some (.pointer (some (a.add 1))) := id (by kernel_rfl)
@[simp] theorem fa30_0 (a : Addr) : Pq Zp (Zf 30 (.pointer (some a)) 0) = some (.pointer (some (a.add 0))) := id (by kernel_rfl)
@[simp] theorem fa30_1 (a : Addr) : Pq Zp (Zf 30 (.pointer (some a)) 1) = some (.pointer (some (a.add 1))) := id (by kernel_rfl)
@[simp] theorem fa30_2 (a : Addr) : Pq Zp (Zf 30 (.pointer (some a)) 2) = some (.pointer (some (a.add 2))) := id (by kernel_rfl)
@[simp] theorem fa51_0 (a : Addr) : Pq Zp (Zf 51 (.pointer (some a)) 0) = some (.pointer (some (a.add 0))) := id (by kernel_rfl)
@[simp] theorem fa51_1 (a : Addr) : Pq Zp (Zf 51 (.pointer (some a)) 1) = some (.pointer (some (a.add 1))) := id (by kernel_rfl)
@[simp] theorem fa51_2 (a : Addr) : Pq Zp (Zf 51 (.pointer (some a)) 2) = some (.pointer (some (a.add 2))) := id (by kernel_rfl)
@[simp] theorem fa51_3 (a : Addr) : Pq Zp (Zf 51 (.pointer (some a)) 3) = some (.pointer (some (a.add 3))) := id (by kernel_rfl)
@[simp] theorem fa51_4 (a : Addr) : Pq Zp (Zf 51 (.pointer (some a)) 4) = some (.pointer (some (a.add 4))) := id (by kernel_rfl)
@[simp] theorem fa64_0 (a : Addr) : Pq Zp (Zf 64 (.pointer (some a)) 0) = some (.pointer (some (a.add 0))) := id (by kernel_rfl)
@[simp] theorem fa64_1 (a : Addr) : Pq Zp (Zf 64 (.pointer (some a)) 1) = some (.pointer (some (a.add 1))) := id (by kernel_rfl)
@[simp] theorem fa74_0 (a : Addr) : Pq Zp (Zf 74 (.pointer (some a)) 0) = some (.pointer (some (a.add 0))) := id (by kernel_rfl)
@[simp] theorem fa74_1 (a : Addr) : Pq Zp (Zf 74 (.pointer (some a)) 1) = some (.pointer (some (a.add 1))) := id (by kernel_rfl)
@[simp] theorem fa74_2 (a : Addr) : Pq Zp (Zf 74 (.pointer (some a)) 2) = some (.pointer (some (a.add 2))) := id (by kernel_rfl)
@[simp] theorem fa74_3 (a : Addr) : Pq Zp (Zf 74 (.pointer (some a)) 3) = some (.pointer (some (a.add 3))) := id (by kernel_rfl)
@[simp] theorem fa83_0 (a : Addr) : Pq Zp (Zf 83 (.pointer (some a)) 0) = some (.pointer (some (a.add 0))) := id (by kernel_rfl)
@[simp] theorem fa83_1 (a : Addr) : Pq Zp (Zf 83 (.pointer (some a)) 1) = some (.pointer (some (a.add 1))) := id (by kernel_rfl)
@[simp] theorem fa114_0 (a : Addr) : Pq Zp (Zf 114 (.pointer (some a)) 0) = some (.pointer (some (a.add 0))) := id (by kernel_rfl)
@[simp] theorem fa114_1 (a : Addr) : Pq Zp (Zf 114 (.pointer (some a)) 1) = some (.pointer (some (a.add 1))) := id (by kernel_rfl)
@[simp] theorem fa114_2 (a : Addr) : Pq Zp (Zf 114 (.pointer (some a)) 2) = some (.pointer (some (a.add 2))) := id (by kernel_rfl)
@[simp] theorem fa114_3 (a : Addr) : Pq Zp (Zf 114 (.pointer (some a)) 3) = some (.pointer (some (a.add 3))) := id (by kernel_rfl)
@[simp] theorem fa145_0 (a : Addr) : Pq Zp (Zf 145 (.pointer (some a)) 0) = some (.pointer (some (a.add 0))) := id (by kernel_rfl)
@[simp] theorem fa145_3 (a : Addr) : Pq Zp (Zf 145 (.pointer (some a)) 3) = some (.pointer (some (a.add 3))) := id (by kernel_rfl)
@[simp] theorem fa152_0 (a : Addr) : Pq Zp (Zf 152 (.pointer (some a)) 0) = some (.pointer (some (a.add 0))) := id (by kernel_rfl)
@[simp] theorem fa152_1 (a : Addr) : Pq Zp (Zf 152 (.pointer (some a)) 1) = some (.pointer (some (a.add 1))) := id (by kernel_rfl)
theorem ix24 (a : Addr) (n c : Nat) (k : IntKind) (j : Int) (h0 : 0 ≤ j) (h1 : j < n) : Pq Zp (Zj 24 (.slice (some a) n c) (.int k j)) = some (.pointer (some (a.add (j.toNat * 1)))) := by
 have h := index_slice Tryz.underlying24 inf28 a n c k j h0 h1
 rwa [size28] at h
theorem ix28 (a : Addr) (n c : Nat) (k : IntKind) (j : Int) (h0 : 0 ≤ j) (h1 : j < n) : Pq Zp (Zj 28 (.slice (some a) n c) (.int k j)) = some (.pointer (some (a.add (j.toNat * 5)))) := by
 have h := index_slice Tryz.underlying28 inf51 a n c k j h0 h1
 rwa [size51] at h
theorem ix42 (a : Addr) (n c : Nat) (k : IntKind) (j : Int) (h0 : 0 ≤ j) (h1 : j < n) : Pq Zp (Zj 42 (.slice (some a) n c) (.int k j)) = some (.pointer (some (a.add (j.toNat * 1)))) := by
 have h := index_slice Tryz.underlying42 inf3 a n c k j h0 h1
 rwa [size3] at h
theorem ix62 (a : Addr) (n c : Nat) (k : IntKind) (j : Int) (h0 : 0 ≤ j) (h1 : j < n) : Pq Zp (Zj 62 (.slice (some a) n c) (.int k j)) = some (.pointer (some (a.add (j.toNat * 4)))) := by
 have h := index_slice Tryz.underlying62 inf114 a n c k j h0 h1
 rwa [size114] at h
theorem ix70 (a : Addr) (n c : Nat) (k : IntKind) (j : Int) (h0 : 0 ≤ j) (h1 : j < n) : Pq Zp (Zj 70 (.slice (some a) n c) (.int k j)) = some (.pointer (some (a.add (j.toNat * 4)))) := by
 have h := index_slice Tryz.underlying70 inf74 a n c k j h0 h1
 rwa [size74] at h
theorem ix160 (a : Addr) (n c : Nat) (k : IntKind) (j : Int) (h0 : 0 ≤ j) (h1 : j < n) : Pq Zp (Zj 160 (.slice (some a) n c) (.int k j)) = some (.pointer (some (a.add (j.toNat * 1)))) := by
 have h := index_slice Tryz.underlying160 inf5 a n c k j h0 h1
 rwa [size5] at h
theorem sl28 (a : Option Addr) (n c : Nat) (lo hi mx : Option Value) (l h m : Nat) (hb : Pq Zp (Instr.sliceBounds true n c lo hi mx) = some (l, h, m)) : Pq Zp (Zc 28 (.slice a n c) lo hi mx) = some (.slice (if m = l then a else a.map (·.add (l * 5))) (h - l) (m - l)) := by
 have h := slice_at Tryz.underlying28 inf51 a n c lo hi mx l h m hb
 rwa [size51] at h
theorem sl62 (a : Option Addr) (n c : Nat) (lo hi mx : Option Value) (l h m : Nat) (hb : Pq Zp (Instr.sliceBounds true n c lo hi mx) = some (l, h, m)) : Pq Zp (Zc 62 (.slice a n c) lo hi mx) = some (.slice (if m = l then a else a.map (·.add (l * 4))) (h - l) (m - l)) := by
 have h := slice_at Tryz.underlying62 inf114 a n c lo hi mx l h m hb
 rwa [size114] at h
theorem zero28 : (inf 28).zero = some (.slice none 0 0) := by kernel_rfl
theorem bytes28 : (inf 28).bytes = 24 := id (by kernel_rfl)
theorem ap24 {w : World} {base : Nat} {ty : TypeId} {v : Value} {n : Nat} {xs : List Value} (hown : w.ownsRow base 28 1 v n xs) {A : Option Addr} {m c : Nat} {news : List Value} (hl : news.length = m * 1) (hr : Rd w A news) (hnil : A = none → c = 0) (h1 : ∀ u ∈ news, u.oneCell' = true) (h63 : n + m ≤ maxLen) (hbytes : (n + m) * 24 ≤ 140737488355328) (hbase : base ≤ w.heap.size) :
  ∃ v' w', Eq_ Zp (Yb #[24, 24] ty #[v, .slice A m c]) w = some (v', w') ∧ w'.ownsRow base 28 1 v' (n + m) (xs ++ news) ∧ w.grownBy w' v.ownBlock := e_append Tryz.underlying24 inf28 zero28 size28 bytes28 rfl (by decide) hown hl hr hnil h1 h63 hbytes hbase
theorem zero51 : (inf 51).zero = some (.agg #[(.string ⟨#[]⟩), (.int .i64 0), (.int .i64 0), (.int .i64 0), (.string ⟨#[]⟩)]) := by kernel_rfl
theorem bytes51 : (inf 51).bytes = 56 := id (by kernel_rfl)
theorem ap28 {w : World} {base : Nat} {ty : TypeId} {v : Value} {n : Nat} {xs : List Value} (hown : w.ownsRow base 51 5 v n xs) {A : Option Addr} {m c : Nat} {news : List Value} (hl : news.length = m * 5) (hr : Rd w A news) (hnil : A = none → c = 0) (h1 : ∀ u ∈ news, u.oneCell' = true) (h63 : n + m ≤ maxLen) (hbytes : (n + m) * 56 ≤ 140737488355328) (hbase : base ≤ w.heap.size) :
  ∃ v' w', Eq_ Zp (Yb #[28, 28] ty #[v, .slice A m c]) w = some (v', w') ∧ w'.ownsRow base 51 5 v' (n + m) (xs ++ news) ∧ w.grownBy w' v.ownBlock := e_append Tryz.underlying28 inf51 zero51 size51 bytes51 rfl (by decide) hown hl hr hnil h1 h63 hbytes hbase
theorem zero114 : (inf 114).zero = some (.agg #[(.int .i64 0), (.string ⟨#[]⟩), (.bool false), (.bool false)]) := by kernel_rfl
theorem bytes114 : (inf 114).bytes = 32 := id (by kernel_rfl)
theorem ap62 {w : World} {base : Nat} {ty : TypeId} {v : Value} {n : Nat} {xs : List Value} (hown : w.ownsRow base 114 4 v n xs) {A : Option Addr} {m c : Nat} {news : List Value} (hl : news.length = m * 4) (hr : Rd w A news) (hnil : A = none → c = 0) (h1 : ∀ u ∈ news, u.oneCell' = true) (h63 : n + m ≤ maxLen) (hbytes : (n + m) * 32 ≤ 140737488355328) (hbase : base ≤ w.heap.size) :
  ∃ v' w', Eq_ Zp (Yb #[62, 62] ty #[v, .slice A m c]) w = some (v', w') ∧ w'.ownsRow base 114 4 v' (n + m) (xs ++ news) ∧ w.grownBy w' v.ownBlock := e_append Tryz.underlying62 inf114 zero114 size114 bytes114 rfl (by decide) hown hl hr hnil h1 h63 hbytes hbase
theorem zero74 : (inf 74).zero = some (.agg #[(.int .i64 0), (.bool false), (.string ⟨#[]⟩), (.bool false)]) := by kernel_rfl
theorem bytes74 : (inf 74).bytes = 40 := id (by kernel_rfl)
theorem ap70 {w : World} {base : Nat} {ty : TypeId} {v : Value} {n : Nat} {xs : List Value} (hown : w.ownsRow base 74 4 v n xs) {A : Option Addr} {m c : Nat} {news : List Value} (hl : news.length = m * 4) (hr : Rd w A news) (hnil : A = none → c = 0) (h1 : ∀ u ∈ news, u.oneCell' = true) (h63 : n + m ≤ maxLen) (hbytes : (n + m) * 40 ≤ 140737488355328) (hbase : base ≤ w.heap.size) :
  ∃ v' w', Eq_ Zp (Yb #[70, 70] ty #[v, .slice A m c]) w = some (v', w') ∧ w'.ownsRow base 74 4 v' (n + m) (xs ++ news) ∧ w.grownBy w' v.ownBlock := e_append Tryz.underlying70 inf74 zero74 size74 bytes74 rfl (by decide) hown hl hr hnil h1 h63 hbytes hbase
theorem zero5 : (inf 5).zero = some (.int .u8 0) := by kernel_rfl
theorem bytes5 : (inf 5).bytes = 1 := id (by kernel_rfl)
theorem ap160 {w : World} {base : Nat} {ty : TypeId} {v : Value} {n : Nat} {xs : List Value} (hown : w.ownsRow base 5 1 v n xs) {A : Option Addr} {m c : Nat} {news : List Value} (hl : news.length = m * 1) (hr : Rd w A news) (hnil : A = none → c = 0) (h1 : ∀ u ∈ news, u.oneCell' = true) (h63 : n + m ≤ maxLen) (hbytes : (n + m) * 1 ≤ 140737488355328) (hbase : base ≤ w.heap.size) :
  ∃ v' w', Eq_ Zp (Yb #[160, 160] ty #[v, .slice A m c]) w = some (v', w') ∧ w'.ownsRow base 5 1 v' (n + m) (xs ++ news) ∧ w.grownBy w' v.ownBlock := e_append Tryz.underlying160 inf5 zero5 size5 bytes5 rfl (by decide) hown hl hr hnil h1 h63 hbytes hbase
theorem mk160 {w : World} (base : Nat) (n : Nat) (hbytes : 1 * n ≤ 281474976710656) (h63 : n ≤ maxLen) (hbase : base ≤ w.heap.size) :
  ∃ w', Eq_ Zp (Instr.makeSlice 160 (.int .i64 (n : Int)) (.int .i64 (n : Int))) w = some (.slice (some ⟨w.heap.size, 0, none⟩) n n, w') ∧ w'.ownsRow base 5 1 (.slice (some ⟨w.heap.size, 0, none⟩) n n) n (madeCells ((.int .u8 0) : Value).cells (n * 1)).toList ∧ w.grownBy w' none := e_make Tryz.underlying160 inf5 zero5 size5 .i64 .i64 n (by rw [bytes5]; exact hbytes) h63 hbase
@[simp] theorem bs24_0 (w : World) : Eq_ Zp (Instr.buildSlice 24 0 #[]) w = some (.slice (some ⟨w.heap.size, 0, none⟩) 0 0, w.alloc (.cells #[] 28)) := id (by kernel_rfl)
@[simp] theorem bs28_0 (w : World) : Eq_ Zp (Instr.buildSlice 28 0 #[]) w = some (.slice (some ⟨w.heap.size, 0, none⟩) 0 0, w.alloc (.cells #[] 51)) := id (by kernel_rfl)
@[simp] theorem bs62_0 (w : World) : Eq_ Zp (Instr.buildSlice 62 0 #[]) w = some (.slice (some ⟨w.heap.size, 0, none⟩) 0 0, w.alloc (.cells #[] 114)) := id (by kernel_rfl)
@[simp] theorem bs70_0 (w : World) : Eq_ Zp (Instr.buildSlice 70 0 #[]) w = some (.slice (some ⟨w.heap.size, 0, none⟩) 0 0, w.alloc (.cells #[] 74)) := id (by kernel_rfl)
@[simp] theorem bs160_0 (w : World) : Eq_ Zp (Instr.buildSlice 160 0 #[]) w = some (.slice (some ⟨w.heap.size, 0, none⟩) 0 0, w.alloc (.cells #[] 5)) := id (by kernel_rfl)
theorem tx160_9 {w : World} {A : Option Addr} {c : Nat} {l : List UInt8} {n : Nat} (hn : l.length = n) (hr : Rd w A (bv l)) : Rq Zp (convert 160 9 (.slice A n c)) w = some (.string ⟨l.toArray⟩) := e_text Tryz.underlying160 Tryz.underlying5 Uz hn hr
@[simp] theorem eql9_s (x y : Operand) (a b : ByteArray) : Pq Zp (do eqGuard .eql 9 x y (.string a) (.string b); binOp .eql 9 (.string a) (.string b)) = some (.bool (a.toList == b.toList)) := id (by kernel_rfl)
@[simp] theorem eql20_some (x y : Operand) (u : TypeId) (v : Value) (w : World) : Rq Zp (do eqGuard .eql 20 x y (.iface u v) .nilIface; binOp .eql 20 (.iface u v) .nilIface) w = some (.bool false) := id (by kernel_rfl)
@[simp] theorem eql20_none (x : Operand) (c : Value) (w : World) : Rq Zp (do eqGuard .eql 20 x (.const c) .nilIface .nilIface; binOp .eql 20 .nilIface .nilIface) w = some (.bool true) := id (by cases x <;> kernel_rfl)
theorem eqf51 (a0 b0 : ByteArray) (a1 b1 : Int) (a2 b2 : Int) (a3 b3 : Int) (a4 b4 : ByteArray) (w : World) : Rq Zp (Op.eqFields 9999 #[(.string a0), (.int .i64 a1), (.int .i64 a2), (.int .i64 a3), (.string a4)] #[(.string b0), (.int .i64 b1), (.int .i64 b2), (.int .i64 b3), (.string b4)] (Tryz.prog.fieldsOf 51).toList) w = some ((a0.toList == b0.toList) && (a1 == b1 && (a2 == b2 && (a3 == b3 && ((a4.toList == b4.toList) && true))))) := by
 simp only [Program.fieldsOf, Tryz.underlying51]
 exact (rr_eqFields_cons w 9999 _ _ _ _ _ _ _ _ (by decide) (by kernel_rfl) (by kernel_rfl) (rr_equalIn_string w 9998 9 a0 b0 Uz) (rr_eqFields_cons w 9999 _ _ _ _ _ _ _ _ (by decide) (by kernel_rfl) (by kernel_rfl) (rr_equalIn_int w 9998 3 .i64 .i64 a1 b1 Tryz.underlying3) (rr_eqFields_cons w 9999 _ _ _ _ _ _ _ _ (by decide) (by kernel_rfl) (by kernel_rfl) (rr_equalIn_int w 9998 3 .i64 .i64 a2 b2 Tryz.underlying3) (rr_eqFields_cons w 9999 _ _ _ _ _ _ _ _ (by decide) (by kernel_rfl) (by kernel_rfl) (rr_equalIn_int w 9998 3 .i64 .i64 a3 b3 Tryz.underlying3) (rr_eqFields_cons w 9999 _ _ _ _ _ _ _ _ (by decide) (by kernel_rfl) (by kernel_rfl) (rr_equalIn_string w 9998 9 a4 b4 Uz) (rr_eqFields_nil w 9999 _ _))))))
@[simp] theorem eql51_st (x y : Operand) (a0 b0 : ByteArray) (a1 b1 : Int) (a2 b2 : Int) (a3 b3 : Int) (a4 b4 : ByteArray) (w : World) : Rq Zp (do eqGuard .eql 51 x y (.agg #[(.string a0), (.int .i64 a1), (.int .i64 a2), (.int .i64 a3), (.string a4)]) (.agg #[(.string b0), (.int .i64 b1), (.int .i64 b2), (.int .i64 b3), (.string b4)]); binOp .eql 51 (.agg #[(.string a0), (.int .i64 a1), (.int .i64 a2), (.int .i64 a3), (.string a4)]) (.agg #[(.string b0), (.int .i64 b1), (.int .i64 b2), (.int .i64 b3), (.string b4)])) w = some (.bool (((a0.toList == b0.toList) && a1 == b1 && a2 == b2 && a3 == b3 && (a4.toList == b4.toList)))) := by
 have h := rr_eql (P := Zp) w 51 x y #[(.string a0), (.int .i64 a1), (.int .i64 a2), (.int .i64 a3), (.string a4)] #[(.string b0), (.int .i64 b1), (.int .i64 b2), (.int .i64 b3), (.string b4)] _ (by kernel_rfl) (by kernel_rfl) (by kernel_rfl) (eqf51 a0 b0 a1 b1 a2 b2 a3 b3 a4 b4 w)
 simpa only [Bool.and_true, Bool.and_assoc] using h
@[simp] theorem eql82_some (x y : Operand) (a : Addr) (w : World) : Rq Zp (do eqGuard .eql 82 x y (.pointer (some a)) (.pointer none); binOp .eql 82 (.pointer (some a)) (.pointer none)) w = some (.bool false) := id (by kernel_rfl)
@[simp] theorem eql82_none (x y : Operand) (w : World) : Rq Zp (do eqGuard .eql 82 x y (.pointer none) (.pointer none); binOp .eql 82 (.pointer none) (.pointer none)) w = some (.bool true) := id (by kernel_rfl)
@[simp] theorem neq4_b (x y : Operand) (a b : Bool) : Pq Zp (do eqGuard .neq 4 x y (.bool a) (.bool b); binOp .neq 4 (.bool a) (.bool b)) = some (.bool (!(a == b))) := id (by kernel_rfl)
@[simp] theorem neq9_s (x y : Operand) (a b : ByteArray) : Pq Zp (do eqGuard .neq 9 x y (.string a) (.string b); binOp .neq 9 (.string a) (.string b)) = some (.bool !(a.toList == b.toList)) := id (by kernel_rfl)
@[simp] theorem neq51_st (x y : Operand) (a0 b0 : ByteArray) (a1 b1 : Int) (a2 b2 : Int) (a3 b3 : Int) (a4 b4 : ByteArray) (w : World) : Rq Zp (do eqGuard .neq 51 x y (.agg #[(.string a0), (.int .i64 a1), (.int .i64 a2), (.int .i64 a3), (.string a4)]) (.agg #[(.string b0), (.int .i64 b1), (.int .i64 b2), (.int .i64 b3), (.string b4)]); binOp .neq 51 (.agg #[(.string a0), (.int .i64 a1), (.int .i64 a2), (.int .i64 a3), (.string a4)]) (.agg #[(.string b0), (.int .i64 b1), (.int .i64 b2), (.int .i64 b3), (.string b4)])) w = some (.bool (!((a0.toList == b0.toList) && a1 == b1 && a2 == b2 && a3 == b3 && (a4.toList == b4.toList)))) := by
 have h := rr_neq (P := Zp) w 51 x y #[(.string a0), (.int .i64 a1), (.int .i64 a2), (.int .i64 a3), (.string a4)] #[(.string b0), (.int .i64 b1), (.int .i64 b2), (.int .i64 b3), (.string b4)] _ (by kernel_rfl) (by kernel_rfl) (by kernel_rfl) (eqf51 a0 b0 a1 b1 a2 b2 a3 b3 a4 b4 w)
 simpa only [Bool.and_true, Bool.and_assoc] using h
@[simp] theorem mi9 (x : Value) : Pq Zp (Zm 9 x) = some (.iface 9 x) := id (by kernel_rfl)
@[simp] theorem mi35 (x : Value) : Pq Zp (Zm 35 x) = some (.iface 35 x) := id (by kernel_rfl)
@[simp] theorem mi82 (x : Value) : Pq Zp (Zm 82 x) = some (.iface 82 x) := id (by kernel_rfl)
@[simp] theorem mi85 (x : Value) : Pq Zp (Zm 85 x) = some (.iface 85 x) := id (by kernel_rfl)
@[simp] theorem mi99 (x : Value) : Pq Zp (Zm 99 x) = some (.iface 99 x) := id (by kernel_rfl)
@[simp] theorem mi198 (x : Value) : Pq Zp (Zm 198 x) = some (.iface 198 x) := id (by kernel_rfl)
@[simp] theorem mi201 (x : Value) : Pq Zp (Zm 201 x) = some (.iface 201 x) := id (by kernel_rfl)
end Go.Sh.YtkghbcadnbojgaaGreatDoor
