/- reel: what label answers. Conditions: those of each statement. -/
import Derived.KernelRfl
import Derived.RangeFuncOwn
import Derived.Test.YtodkllcibbidoaaDoorRows
import Derived.Test.YtodkllcibbidoaaDoorRQ2
import Derived.Test.YtodkllcibbidoaaDoorRQ3
import Derived.Test.YtodkllcibbidoaaDoorRQ5
import Derived.Test.YtodkllcibbidoaaDoorRQ6
namespace Go.Sh.YtodkllcibbidoaaDoor
open Go Go.Proofs Go.RowKit Go.Lib
set_option linter.unusedVariables false
set_option linter.unusedSimpArgs false
set_option maxRecDepth 100000
/-- a label, as a value -/
def labelV (t : List UInt8) (rb : UInt8) (s : Nat) : Value := .agg #[st t, .int .i64 rb.toNat, .int .i64 s]
section
variable {W : World} {X : Asn W.heap.size}
theorem label_w {w : World} {t : List UInt8} {rb : UInt8} {s : Nat} {Rt : List Value → World → Prop} (ht : t.length ≤ 100) (hs : s < 4294967296) (x : Sat W X w) (hRt : ∀ v w', Sat W (rowA 5 1 v (t.length + 15) (bv (labelB t rb s)) * X) w' → Rt [v] w') : f16.w C Rt (labelV t rb s) w := by
  have x1 := x.newBlk 25 [st t, .int .i64 rb.toNat, .int .i64 s]
  have b1 : erun Tryd.prog (Instr.box 25 (labelV t rb s)) w = some (.pointer (some ⟨w.heap.size, 0, none⟩), w.alloc (.cells #[st t, .int .i64 rb.toNat, .int .i64 s] 25)) := rfl
  obtain ⟨w1, hw1⟩ : ∃ w1, w1 = w.alloc (.cells #[st t, .int .i64 rb.toNat, .int .i64 s] 25) := ⟨_, rfl⟩
  rw [← hw1] at b1
  obtain ⟨b, hb⟩ : ∃ b, b = w.heap.size := ⟨_, rfl⟩
  rw [← hb] at b1
  have x1 : Sat W (blkA b 25 [st t, .int .i64 rb.toNat, .int .i64 s] * X) w1 := by rw [hb, hw1]; exact x1
  have all : True = True ∧ True := ⟨rfl, trivial⟩
  unfold f16.w
  rw [b1]
  show okIf w _ = _
  unfold okIf
  refine if_pos ⟨rfl, ?_⟩
  exact ⟨f16_o0 ht hs x1 hRt, f16_o1 ht hs x1 hRt, f16_o2 ht hs x1 hRt, f16_o3 ht hs x1 hRt, f16_o4 ht hs x1 hRt, f16_o5 ht hs x1 hRt, f16_o6 ht hs x1 hRt, f16_o7 ht hs x1 hRt, f16_o8 ht hs x1 hRt, f16_o9 ht hs x1 hRt, f16_o10 ht hs x1 hRt, f16_o11 ht hs x1 hRt, f16_o12 ht hs x1 hRt, f16_o13 ht hs x1 hRt, f16_o14 ht hs x1 hRt, f16_o15 ht hs x1 hRt, f16_o16 ht hs x1 hRt, f16_o17 ht hs x1 hRt, f16_o18 ht hs x1 hRt, f16_o19 ht hs x1 hRt, f16_o20 ht hs x1 hRt, f16_o21 ht hs x1 hRt, f16_o22 ht hs x1 hRt, f16_o23 ht hs x1 hRt, f16_o24 ht hs x1 hRt, f16_o25 ht hs x1 hRt, f16_o26 ht hs x1 hRt, f16_o27 ht hs x1 hRt, f16_o28 ht hs x1 hRt, f16_o29 ht hs x1 hRt, f16_o30 ht hs x1 hRt, f16_o31 ht hs x1 hRt, f16_o32 ht hs x1 hRt, f16_o33 ht hs x1 hRt, f16_o34 ht hs x1 hRt, f16_o35 ht hs x1 hRt, f16_o36 ht hs x1 hRt, f16_o37 ht hs x1 hRt, f16_o38 ht hs x1 hRt, f16_o39 ht hs x1 hRt, f16_o40 ht hs x1 hRt, f16_o41 ht hs x1 hRt, f16_o42 ht hs x1 hRt, f16_o43 ht hs x1 hRt, f16_o44 ht hs x1 hRt, f16_o45 ht hs x1 hRt, f16_o46 ht hs x1 hRt, f16_o47 ht hs x1 hRt, f16_o48 ht hs x1 hRt, f16_o49 ht hs x1 hRt, f16_o50 ht hs x1 hRt, f16_o51 ht hs x1 hRt, f16_o52 ht hs x1 hRt, f16_o53 ht hs x1 hRt, f16_o54 ht hs x1 hRt, f16_o55 ht hs x1 hRt, f16_o56 ht hs x1 hRt, f16_o57 ht hs x1 hRt, f16_o58 ht hs x1 hRt, f16_o59 ht hs x1 hRt, trivial⟩
theorem enter16 (args : Array Value) (w : World) : (callFunc 16 args).run Tryd.prog w = .ok (.enter 16 args) w := by kernel_rfl
theorem label_calls {w : World} (x : Sat W X w) {t : List UInt8} {rb : UInt8} {s : Nat} (ht : t.length ≤ 100) (hs : s < 4294967296) :
    Calls Tryd.prog 16 #[labelV t rb s] w fun e w' => ∃ v, e = .returned v ∧ Sat W (rowA 5 1 v (t.length + 15) (bv (labelB t rb s)) * X) w' := by
  have key := label_w (Rt := fun vs w' => (fun v w' => Sat W (rowA 5 1 v (t.length + 15) (bv (labelB t rb s)) * X) w') (outcome vs) w') (rb := rb) ht hs x fun v w' h => h
  rw [← f16.weq] at key
  exact calls_of_w (rs := [2]) (ann := anns) (prim := mu) (by kernel_rfl) mu_ok (fn := Tryd.f16) (c := Tryd.f16.body.getD .skip) Tryd.func16 (by kernel_rfl) (by kernel_rfl) (x := f16.wann) (Q := fun v w' => Sat W (rowA 5 1 v (t.length + 15) (bv (labelB t rb s)) * X) w') key
end
end Go.Sh.YtodkllcibbidoaaDoor

namespace Go.Sh.YtodkllcibbidoaaDoor
open Go Go.Proofs Go.RowKit Go.Lib
set_option linter.unusedVariables false
set_option linter.unusedSimpArgs false
set_option maxRecDepth 100000
theorem valid_a (w : World) : ∃ w', C 26 #[st [97]] w = some (.bool true, w') ∧ w.grownBy w' none := by
  have q0 : prun Tryd.prog (Instr.index 9 (st [97]) (.int .i64 0)) = some (.int .u8 97) := id (by kernel_rfl)
  have q1 : prun Tryd.prog (Instr.sliceAt 9 (st [97]) (some (.int .i64 1)) none none) = some (st []) := id (by kernel_rfl)
  have l1 : ∀ t, prun Tryd.prog (Builtin.len_ #[9] t #[st [97]]) = some (.int .i64 1) := fun t => id (by kernel_rfl)
  have l0 : ∀ t, prun Tryd.prog (Builtin.len_ #[9] t #[st []]) = some (.int .i64 0) := fun t => id (by kernel_rfl)
  have a0 : ∀ w, iter (f26.l0 C) [st []] w = some (.exit 2 [st []] w.drew) := fun w => iter_of_rounds (.exit (by simp [f26.l0, l0, wantedV, pickV, chkThen]))
  obtain ⟨w1, hw1⟩ : ∃ w1, f26.l1 C [st [97]] w = some (.norm [st []] w1) ∧ w.grownBy w1 none := by
    exact ⟨w, by simp [f26.l1, q0, q1, l1, l0, a0, wantedV, pickV, chkThen], grown_refl w none⟩
  refine ⟨w1, f26.run rfl ?_, hw1.2⟩
  have it : iter (f26.l1 C) [st [97]] w = some (.exit 0 [] w1) := iter_once hw1.1 (iter_of_rounds (.exit (by simp [f26.l1, l0])))
  simp [f26, it]
/-- the label of the example -/
noncomputable def lab : Value := labelV [97] 2 0
theorem may_ok (w : World) : ∃ w', C 14 #[lab] w = some (.bool true, w') ∧ w.grownBy w' none := by
  have b1 : erun Tryd.prog (Instr.box 25 lab) w = some (.pointer (some ⟨w.heap.size, 0, none⟩), w.alloc (.cells #[st [97], .int .i64 2, .int .i64 0] 25)) := rfl
  have B := Blk.new w 25 [st [97], .int .i64 2, .int .i64 0]
  obtain ⟨w1, hw1⟩ : ∃ w1, w1 = w.alloc (.cells #[st [97], .int .i64 2, .int .i64 0] 25) := ⟨_, rfl⟩
  have g1 : w.grownBy w1 none := hw1 ▸ World.grownBy_alloc w _ none
  have B : Blk w1 w.heap.size 25 [st [97], .int .i64 2, .int .i64 0] := hw1 ▸ B
  rw [← hw1] at b1
  obtain ⟨w2, k2, g2⟩ := valid_a w1
  have B2 := B.grown g2 (by simp)
  have c0 := B.cell_eq 0 (v := st [97]) rfl
  have c1 := B2.cell_eq 1 (v := .int .i64 2) rfl
  have c2 := B2.cell_eq 2 (v := .int .i64 0) rfl
  have l1 : ∀ t, prun Tryd.prog (Builtin.len_ #[9] t #[st [97]]) = some (.int .i64 1) := fun t => id (by kernel_rfl)
  refine ⟨w2, f14.run rfl ?_, grown_step g1 g2⟩
  simp [f14, b1, addL, c0, l1, k2, c1, c2]
end Go.Sh.YtodkllcibbidoaaDoor

namespace Go.Sh.YtodkllcibbidoaaDoor
open Go Go.Proofs
set_option linter.unusedVariables false
set_option maxRecDepth 100000
/-- dailies/reel.Create, as a condition -/
def f6.wann : WAnn := (.s .r (.s (.d [0, 3] (.b [0, 3] (.s .z (.c (.s .z .z) (.s .z (.c (.s .z .z) (.s .z (.c (.s .z .z) .z)))))))) (.s (.s (.q 2) (.d [0] (.s .z (.c (.s .z .z) .z)))) (.d [] (.s .z .z)))))
noncomputable def f6.k1 (call : CallF) (Rt : List Value → World → Prop) (vs_1 : List Value) (W3 : World) : Prop :=
  let m0_2 := nth vs_1 0
  hold ((prun Tryd.prog (Instr.build 48 #[(0, m0_2)])).bind fun v30 =>
  (erun Tryd.prog (Instr.box 48 v30) W3).bind fun r31 =>
  some (Res.ret [r31.1, (Value.int IntKind.i64 0)] r31.2)) (after Rt [] (fun _ _ => False))
noncomputable def f6.k0 (call : CallF) (Rt : List Value → World → Prop) (vs : List Value) (W1 : World) : Prop :=
  let m0_1 := nth vs 0
  let l3 := nth vs 1
  true = true ∧ 2 < 9 ∧ ((rrun Tryd.prog (Instr.loadAt 25 l3) W1).bind fun v21 =>
  okIf W1 (relF Tryd.prog 16 [v21].toArray W1 fun r22 W2 =>
  ((call 15 #[m0_1, r22] W2).bind fun r23 =>
  (prun Tryd.prog (Instr.extract r23.1 0)).bind fun v24 =>
  (prun Tryd.prog (Instr.extract r23.1 1)).bind fun v25 =>
  okIf W1 (hold ((bin .neq v25 (Value.int IntKind.i64 0)).bind fun v27 =>
  (asB v27).bind fun c27 =>
  if c27 then
    some (Res.ret [(Value.pointer none), v25] r23.2)
  else
  some (Res.norm [m0_1] r23.2)) (after Rt [] (f6.k1 call Rt)))) = some (.norm [] W1))) = some (.norm [] W1)
noncomputable def f6.w (call : CallF) (Rt : List Value → World → Prop) (m0 : Value) (l1 : Value) (W0 : World) : Prop :=
  ((erun Tryd.prog (Instr.box 25 l1) W0).bind fun r3 =>
  okIf W0 (hold (((rrun Tryd.prog (do eqGuard .eql 35 (Operand.tmp 9) (Operand.const (Value.pointer none)) m0 (Value.pointer none); binOp .eql 35 m0 (Value.pointer none)) r3.2).bind fun v10 =>
  (asB v10).bind fun c8 =>
  if c8 then
    some (Res.ret [(Value.pointer none), (Value.int IntKind.i64 1)] r3.2)
  else
  (rrun Tryd.prog (Instr.loadAt 25 r3.1) r3.2).bind fun v12 =>
  (call 14 #[v12] r3.2).bind fun r13 =>
  (prun Tryd.prog (Op.unary .not r13.1)).bind fun v14 =>
  (asB v14).bind fun c11 =>
  if c11 then
    some (Res.ret [(Value.pointer none), (Value.int IntKind.i64 161)] r13.2)
  else
  (call 10 #[m0] r13.2).bind fun r17 =>
  (bin .gtr r17.1 (Value.int IntKind.i64 0)).bind fun v18 =>
  (asB v18).bind fun c15 =>
  if c15 then
    some (Res.ret [(Value.pointer none), (Value.int IntKind.i64 162)] r17.2)
  else
  some (Res.norm [m0, r3.1] r17.2)).bind fun (r : Res) => (r.unblock 0).cont fun vs_2 W4 =>
  let m0_3 := nth vs_2 0
  let l3_1 := nth vs_2 1
  some (Res.norm [m0_3, l3_1] W4)) (after Rt [] (f6.k0 call Rt)))) = some (.norm [] W0)
theorem f6.weq (call : CallF) (Rt : List Value → World → Prop) (m0 : Value) (l1 : Value) (W0 : World) : wCode Tryd.prog call [4, 5] Tryd.f6.ntmps Rt (Tryd.f6.body.getD .skip) f6.wann [] (ofArgs #[m0, l1]) W0 (fun e w => hold (gets e [4, 5]) fun vs => Rt vs w) = f6.w call Rt m0 l1 W0 := by kernel_rfl

theorem inf25 : Tryd.prog.info? 25 = some (inf 25) := by kernel_rfl
theorem size25 : (inf 25).size = 3 := by kernel_rfl
theorem ld25 {a : Addr} {w : World} {v0 v1 v2 : Value} (h0 : w.cell? (a.add 0) = some v0) (h1 : w.cell? (a.add 1) = some v1) (h2 : w.cell? (a.add 2) = some v2) : rrun Tryd.prog (Instr.loadAt 25 (.pointer (some a))) w = some (.agg #[v0, v1, v2]) := load_agg (vs := [v0, v1, v2]) inf25 (by kernel_rfl) (by rw [size25]; rfl) ⟨h0, h1, h2, trivial⟩
@[simp] theorem eql35_some (x y : Operand) (a : Addr) (w : World) : rrun Tryd.prog (do eqGuard .eql 35 x y (.pointer (some a)) (.pointer none); binOp .eql 35 (.pointer (some a)) (.pointer none)) w = some (.bool false) := id (by kernel_rfl)
@[simp] theorem eql35_none (x y : Operand) (w : World) : rrun Tryd.prog (do eqGuard .eql 35 x y (.pointer none) (.pointer none); binOp .eql 35 (.pointer none) (.pointer none)) w = some (.bool true) := id (by kernel_rfl)
end Go.Sh.YtodkllcibbidoaaDoor

namespace Go.Sh.YtodkllcibbidoaaDoor
open Go Go.Proofs Go.RowKit Go.Lib
set_option linter.unusedVariables false
set_option linter.unusedSimpArgs false
set_option maxRecDepth 100000
/-- the label's bytes -/
noncomputable def labB : List UInt8 := labelB [97] 2 0
theorem labB_len : labB.length = 16 := by unfold labB labelB; rw [sm_len]; rfl
/-- the medium: empty, with the label, with the end -/
def S0 : Pm := ⟨[], false, 0, 0, []⟩
noncomputable def S1 : Pm := ⟨labB, false, 0, 0, []⟩
theorem S0_app : S0.append labB = (0, 0, S1) := by simp [S0, Pm.append, S1]
theorem S0_fit : S0.fit := ⟨by simp [S0], by simp [S0], by simp [S0], by simp [S0], by simp [S0], by simp [S0]⟩
section
variable {W : World} {X : Asn W.heap.size}
theorem ld_lab {w : World} {b : Nat} (x : Sat W (blkA b 25 [st [97], .int .i64 2, .int .i64 0] * X) w) : rrun Tryd.prog (Instr.loadAt 25 (.pointer (some ⟨b, 0, none⟩))) w = some lab :=
  ld25 (a := ⟨b, 0, none⟩) (by rw [addL]; exact x.cell 0 rfl) (by rw [addL]; exact x.cell 1 rfl) (by rw [addL]; exact x.cell 2 rfl)
theorem create_w {w : World} {M : Nat} {Rt : List Value → World → Prop} (x : Sat W (medA M S0 * X) w) (hRt : ∀ P w', Sat W (blkA P 48 [.pointer (some ⟨M, 0, none⟩), .slice none 0 0, .bool false] * (medA M S1 * X)) w' → Rt [.pointer (some ⟨P, 0, none⟩), .int .i64 0] w') :
    f6.w C Rt (.pointer (some ⟨M, 0, none⟩)) lab w := by
  have x1 := x.newBlk 25 [st [97], .int .i64 2, .int .i64 0]
  have b1 : erun Tryd.prog (Instr.box 25 lab) w = some (.pointer (some ⟨w.heap.size, 0, none⟩), w.alloc (.cells #[st [97], .int .i64 2, .int .i64 0] 25)) := rfl
  obtain ⟨w1, hw1⟩ : ∃ w1, w1 = w.alloc (.cells #[st [97], .int .i64 2, .int .i64 0] 25) := ⟨_, rfl⟩
  rw [← hw1] at b1
  obtain ⟨b, hb⟩ : ∃ b, b = w.heap.size := ⟨_, rfl⟩
  rw [← hb] at b1
  have x1 : Sat W (blkA b 25 [st [97], .int .i64 2, .int .i64 0] * (medA M S0 * X)) w1 := by rw [hb, hw1]; exact x1
  have l1 := ld_lab x1
  obtain ⟨w2, k2, g2⟩ := may_ok w1
  have x2 := x1.grown g2
  obtain ⟨w3, k3, x3⟩ := m_size x2.swap
  have k3 : C 10 #[.pointer (some ⟨M, 0, none⟩)] w2 = some (.int .i64 0, w3) := k3
  have l3 := ld_lab x3.swap
  have hk0 : f6.k0 C Rt [.pointer (some ⟨M, 0, none⟩), .pointer (some ⟨b, 0, none⟩)] w3 := by
    refine ⟨rfl, by decide, ?_⟩
    simp only [nth]
    have lc := label_calls x3.swap (t := [97]) (rb := 2) (s := 0) (by decide) (by decide)
    have rel : relF Tryd.prog 16 #[lab] w3 fun r22 W2 =>
        ((C 15 #[.pointer (some ⟨M, 0, none⟩), r22] W2).bind fun r23 =>
        (prun Tryd.prog (Instr.extract r23.1 0)).bind fun v24 =>
        (prun Tryd.prog (Instr.extract r23.1 1)).bind fun v25 =>
        okIf w3 (hold ((bin .neq v25 (Value.int IntKind.i64 0)).bind fun v27 =>
        (asB v27).bind fun c27 =>
        if c27 then
          some (Res.ret [(Value.pointer none), v25] r23.2)
        else
        some (Res.norm [.pointer (some ⟨M, 0, none⟩)] r23.2)) (after Rt [] (f6.k1 C Rt)))) = some (.norm [] w3) := by
      refine ⟨enter16 _ _, lc.mono ?_⟩
      rintro e w4 ⟨v, rfl, x4⟩
      refine ⟨v, rfl, ?_⟩
      have x4 : Sat W (rowA 5 1 v 16 (bv labB) * (blkA b 25 [st [97], .int .i64 2, .int .i64 0] * (medA M S0 * X))) w4 := x4
      have hrow := x4.row
      obtain ⟨A, c, rfl, hc, _⟩ := own_form hrow
      have hA : A ≠ none := by
        rintro rfl
        rcases hrow.2 with ⟨h, h2⟩ | ⟨g, cap, cur, hv, _⟩
        · omega
        · cases hv
      obtain ⟨w5, k5, x5⟩ := m_append (x4.eq (by ac_rfl : _ = medA M S0 * (rowA 5 1 (.slice A 16 c) 16 (bv labB) * (blkA b 25 [st [97], .int .i64 2, .int .i64 0] * X)))) S0_fit hA (n := 16) (c := c) (by rw [labB_len]; omega) hc (by simp [S0])
      have ht : labB.take 16 = labB := List.take_of_length_le (by rw [labB_len]; omega)
      rw [ht, S0_app] at k5 x5
      have x6 := x5.newBlk 48 [.pointer (some ⟨M, 0, none⟩), .slice none 0 0, .bool false]
      have b6 : erun Tryd.prog (Instr.box 48 (.agg #[.pointer (some ⟨M, 0, none⟩), .slice none 0 0, .bool false])) w5 = some (.pointer (some ⟨w5.heap.size, 0, none⟩), w5.alloc (.cells #[.pointer (some ⟨M, 0, none⟩), .slice none 0 0, .bool false] 48)) := rfl
      have bd : prun Tryd.prog (Instr.build 48 #[(0, .pointer (some ⟨M, 0, none⟩))]) = some (.agg #[.pointer (some ⟨M, 0, none⟩), .slice none 0 0, .bool false]) := id (by kernel_rfl)
      have hR := hRt _ _ (x6.eq (by ac_rfl : _ = (rowA 5 1 (.slice A 16 c) 16 (bv labB) * blkA b 25 [st [97], .int .i64 2, .int .i64 0]) * (blkA w5.heap.size 48 [.pointer (some ⟨M, 0, none⟩), .slice none 0 0, .bool false] * (medA M S1 * X)))).right
      have hR : Rt [.pointer (some ⟨w5.heap.size, 0, none⟩), .int .i64 0] (w5.alloc (.cells #[.pointer (some ⟨M, 0, none⟩), .slice none 0 0, .bool false] 48)) := hR
      simp [k5, after, f6.k1, bd, b6, hR]
    simp [l3, rel]
  unfold f6.w
  simp [b1, l1, k2, k3, after, hk0]
theorem enter6 (args : Array Value) (w : World) : (callFunc 6 args).run Tryd.prog w = .ok (.enter 6 args) w := by kernel_rfl
theorem create_calls {w : World} {M : Nat} (x : Sat W (medA M S0 * X) w) : Calls Tryd.prog 6 #[.pointer (some ⟨M, 0, none⟩), lab] w fun e w' => ∃ v, e = .returned v ∧ ∃ P, v = .tuple #[.pointer (some ⟨P, 0, none⟩), .int .i64 0] ∧ Sat W (blkA P 48 [.pointer (some ⟨M, 0, none⟩), .slice none 0 0, .bool false] * (medA M S1 * X)) w' := by
  have key := create_w (Rt := fun vs w' => (fun v w' => ∃ P, v = Value.tuple #[.pointer (some ⟨P, 0, none⟩), .int .i64 0] ∧ Sat W (blkA P 48 [.pointer (some ⟨M, 0, none⟩), .slice none 0 0, .bool false] * (medA M S1 * X)) w') (outcome vs) w') x fun P w' h => ⟨P, rfl, h⟩
  rw [← f6.weq] at key
  exact calls_of_w (rs := [4, 5]) (ann := anns) (prim := mu) (by kernel_rfl) mu_ok (fn := Tryd.f6) (c := Tryd.f6.body.getD .skip) Tryd.func6 (by kernel_rfl) (by kernel_rfl) (x := f6.wann) (Q := fun v w' => ∃ P, v = Value.tuple #[.pointer (some ⟨P, 0, none⟩), .int .i64 0] ∧ Sat W (blkA P 48 [.pointer (some ⟨M, 0, none⟩), .slice none 0 0, .bool false] * (medA M S1 * X)) w') key
end
end Go.Sh.YtodkllcibbidoaaDoor

namespace Go.Sh.YtodkllcibbidoaaDoor
open Go Go.Proofs
set_option linter.unusedVariables false
set_option maxRecDepth 100000
/-- dailies/reel.readLabel, as a condition -/
def f19.wann : WAnn := (.s .r (.s .r (.s (.d [2, 5] (.s .z (.c (.s .z .z) .z))) (.s .r (.s .r (.s (.d [2, 5, 7, 8] (.s .z (.c (.s .z .z) .z))) (.s (.t 15 [13] [2, 5, 8, 9]) (.s (.s (.g [0, 1, 2, 3, 6, 7, 8, 4, 5, 9, 10, 11] 4 8 7) (.c (.e (.s .z .z)) .r)) (.d [] (.s .z .z))))))))))
noncomputable def f19.k3 (call : CallF) (Rt : List Value → World → Prop) (vs_3 : List Value) (W4 : World) : Prop :=
  let v2_3 := nth vs_3 0
  let size8_2 := nth vs_3 1
  let l9_1 := nth vs_3 2
  let v65 := nth vs_3 3
  hold (asB v65) fun c65 =>
  if c65 = true then (hold ((prun Tryd.prog (Instr.build 25 #[])).bind fun v66 =>
  (erun Tryd.prog (Instr.storeAt 25 v2_3 v66) W4).bind fun r =>
  some (Res.ret [v2_3, (Value.int IntKind.i64 0), (Value.int IntKind.i64 0)] r.2)) (after Rt [] (fun _ _ => False)))
  else (hold ((rrun Tryd.prog (Instr.loadAt 25 l9_1) W4).bind fun v67 =>
  (erun Tryd.prog (Instr.storeAt 25 v2_3 v67) W4).bind fun r_1 =>
  some (Res.ret [v2_3, size8_2, (Value.int IntKind.i64 0)] r_1.2)) (after Rt [] (fun _ _ => False)))
noncomputable def f19.k2 (call : CallF) (Rt : List Value → World → Prop) (vs_2 : List Value) (W3 : World) : Prop :=
  let v2_2 := nth vs_2 0
  let b5_2 := nth vs_2 1
  let size8_1 := nth vs_2 2
  let l9 := nth vs_2 3
  true = true ∧ true = true ∧ 4 ≤ 8 ∧ 8 < 11 ∧ 11 < 12 ∧ some 57 = some 57 ∧ 3 < 4 ∧ true = true ∧ ((rrun Tryd.prog (Instr.loadAt 25 l9) W3.drew).bind fun v54 =>
  (call 14 #[v54] W3.drew).bind fun r55 =>
  (prun Tryd.prog (Op.unary .not r55.1)).bind fun v56 =>
  okIf W3.drew (hold (asB v56) fun b57 => if b57 = false then ((prun Tryd.prog (Instr.sliceAt 44 b5_2 none (some size8_1) none)).bind fun v62 =>
  (rrun Tryd.prog (Instr.loadAt 25 l9) r55.2).bind fun v58 =>
  okIf W3.drew (relF Tryd.prog 16 [v58].toArray r55.2 fun r59 W5 =>
  ((call 23 #[r59, v62] W5).bind fun r63 =>
  (prun Tryd.prog (Op.unary .not r63.1)).bind fun v64 =>
  (pickV v56 (Value.bool true) v64).bind fun v65_1 =>
  okIf W3.drew ((f19.k3 call Rt) [v2_2, size8_1, l9, v65_1] r63.2)) = some (.norm [] W3.drew))) = some (.norm [] W3.drew) else (okIf W3.drew ((f19.k3 call Rt) [v2_2, size8_1, l9, (Value.bool true)] r55.2)) = some (.norm [] W3.drew))) = some (.norm [] W3.drew)
noncomputable def f19.k1 (call : CallF) (Rt : List Value → World → Prop) (vs_1 : List Value) (W2 : World) : Prop :=
  let v2_1 := nth vs_1 0
  let b5_1 := nth vs_1 1
  let title7 := nth vs_1 2
  let size8 := nth vs_1 3
  true = true ∧ ((((erun Tryd.prog (Instr.alloc 25 true (.tuple #[])) W2.drew).bind fun r9_1 =>
  some (r9_1.1, r9_1.2)).bind fun r9 =>
  ((bin .add (Value.int IntKind.i64 7) title7).bind fun v41 =>
  some (v41, r9.2)).bind fun r41 =>
  ((prun Tryd.prog (Instr.sliceAt 44 b5_1 (some (Value.int IntKind.i64 7)) (some r41.1) none)).bind fun v42 =>
  some (v42, r41.2)).bind fun r42 =>
  ((rrun Tryd.prog (convert 44 9 r42.1) r42.2).bind fun v43 =>
  some (v43, r42.2)).bind fun r43 =>
  ((prun Tryd.prog (Instr.indexAt 44 b5_1 (Value.int IntKind.i64 5))).bind fun v45 =>
  some (v45, r43.2)).bind fun r45 =>
  ((rrun Tryd.prog (Instr.loadAt 5 r45.1) r45.2).bind fun v46 =>
  some (v46, r45.2)).bind fun r46 =>
  ((prun Tryd.prog (convert 5 23 r46.1)).bind fun v47 =>
  some (v47, r46.2)).bind fun r47 =>
  ((bin .add (Value.int IntKind.i64 7) title7).bind fun v50 =>
  some (v50, r47.2)).bind fun r50 =>
  ((prun Tryd.prog (Instr.sliceAt 44 b5_1 (some r50.1) none none)).bind fun v51 =>
  some (v51, r50.2)).bind fun r51 =>
  ((call 29 #[r51.1] r51.2).bind fun r52_1 =>
  some (r52_1.1, r52_1.2)).bind fun r52 =>
  ((prun Tryd.prog (Instr.build 25 #[(0, r43.1), (1, r47.1), (2, r52.1)])).bind fun v53 =>
  some (v53, r52.2)).bind fun r53 =>
  ((erun Tryd.prog (Instr.storeAt 25 r9.1 r53.1) r53.2).bind fun r_3 =>
  some (undef, r_3.2)).bind fun r_2 =>
  chkThen ((((rrun Tryd.prog (convert 44 9 r42.1) W2.drew).bind fun v43_3 => some v43_3) = some r43.1 ∧ ((rrun Tryd.prog (convert 44 9 r42.1) r9.2).bind fun v43_4 => some v43_4) = some r43.1) ∧ (((rrun Tryd.prog (convert 44 9 r42.1) r51.2).bind fun v43_1 => some v43_1) = some r43.1 ∧ ((rrun Tryd.prog (convert 44 9 r42.1) r52.2).bind fun v43_2 => some v43_2) = some r43.1) ∧ (((rrun Tryd.prog (Instr.loadAt 5 r45.1) W2.drew).bind fun v46_3 => some v46_3) = some r46.1 ∧ ((rrun Tryd.prog (Instr.loadAt 5 r45.1) r9.2).bind fun v46_4 => some v46_4) = some r46.1) ∧ (((rrun Tryd.prog (Instr.loadAt 5 r45.1) r51.2).bind fun v46_1 => some v46_1) = some r46.1 ∧ ((rrun Tryd.prog (Instr.loadAt 5 r45.1) r52.2).bind fun v46_2 => some v46_2) = some r46.1) ∧ True)
  (okIf W2 ((f19.k2 call Rt) [v2_1, b5_1, size8, r9.1] r_2.2))) = some (.norm [] W2)) ∧
  ((((bin .add (Value.int IntKind.i64 7) title7).bind fun v41_1 =>
  some (v41_1, W2.drew)).bind fun r41_1 =>
  ((prun Tryd.prog (Instr.sliceAt 44 b5_1 (some (Value.int IntKind.i64 7)) (some r41_1.1) none)).bind fun v42_1 =>
  some (v42_1, r41_1.2)).bind fun r42_1 =>
  ((rrun Tryd.prog (convert 44 9 r42_1.1) r42_1.2).bind fun v43_5 =>
  some (v43_5, r42_1.2)).bind fun r43_1 =>
  ((prun Tryd.prog (Instr.indexAt 44 b5_1 (Value.int IntKind.i64 5))).bind fun v45_1 =>
  some (v45_1, r43_1.2)).bind fun r45_1 =>
  ((rrun Tryd.prog (Instr.loadAt 5 r45_1.1) r45_1.2).bind fun v46_5 =>
  some (v46_5, r45_1.2)).bind fun r46_1 =>
  ((prun Tryd.prog (convert 5 23 r46_1.1)).bind fun v47_1 =>
  some (v47_1, r46_1.2)).bind fun r47_1 =>
  ((bin .add (Value.int IntKind.i64 7) title7).bind fun v50_1 =>
  some (v50_1, r47_1.2)).bind fun r50_1 =>
  ((prun Tryd.prog (Instr.sliceAt 44 b5_1 (some r50_1.1) none none)).bind fun v51_1 =>
  some (v51_1, r50_1.2)).bind fun r51_1 =>
  ((call 29 #[r51_1.1] r51_1.2).bind fun r52_3 =>
  some (r52_3.1, r52_3.2)).bind fun r52_2 =>
  ((erun Tryd.prog (Instr.alloc 25 true (.tuple #[])) r52_2.2).bind fun r9_3 =>
  some (r9_3.1, r9_3.2)).bind fun r9_2 =>
  ((prun Tryd.prog (Instr.build 25 #[(0, r43_1.1), (1, r47_1.1), (2, r52_2.1)])).bind fun v53_1 =>
  some (v53_1, r9_2.2)).bind fun r53_1 =>
  ((erun Tryd.prog (Instr.storeAt 25 r9_2.1 r53_1.1) r53_1.2).bind fun r_5 =>
  some (undef, r_5.2)).bind fun r_4 =>
  chkThen ((((rrun Tryd.prog (convert 44 9 r42_1.1) r51_1.2).bind fun v43_8 => some v43_8) = some r43_1.1 ∧ ((rrun Tryd.prog (convert 44 9 r42_1.1) r52_2.2).bind fun v43_9 => some v43_9) = some r43_1.1) ∧ (((rrun Tryd.prog (convert 44 9 r42_1.1) r52_2.2).bind fun v43_6 => some v43_6) = some r43_1.1 ∧ ((rrun Tryd.prog (convert 44 9 r42_1.1) r9_2.2).bind fun v43_7 => some v43_7) = some r43_1.1) ∧ (((rrun Tryd.prog (Instr.loadAt 5 r45_1.1) r51_1.2).bind fun v46_8 => some v46_8) = some r46_1.1 ∧ ((rrun Tryd.prog (Instr.loadAt 5 r45_1.1) r52_2.2).bind fun v46_9 => some v46_9) = some r46_1.1) ∧ (((rrun Tryd.prog (Instr.loadAt 5 r45_1.1) r52_2.2).bind fun v46_6 => some v46_6) = some r46_1.1 ∧ ((rrun Tryd.prog (Instr.loadAt 5 r45_1.1) r9_2.2).bind fun v46_7 => some v46_7) = some r46_1.1) ∧ True)
  (okIf W2 ((f19.k2 call Rt) [v2_1, b5_1, size8, r9_2.1] r_4.2))) = some (.norm [] W2)) ∧ True
noncomputable def f19.k0 (call : CallF) (Rt : List Value → World → Prop) (vs : List Value) (W1 : World) : Prop :=
  let v2 := nth vs 0
  let b5 := nth vs 1
  ((prun Tryd.prog (Instr.indexAt 44 b5 (Value.int IntKind.i64 6))).bind fun v28 =>
  (rrun Tryd.prog (Instr.loadAt 5 v28) W1).bind fun v29 =>
  (prun Tryd.prog (convert 5 3 v29)).bind fun v30 =>
  okIf W1 (((bin .add (Value.int IntKind.i64 7) v30).bind fun v32 =>
  (bin .add v32 (Value.int IntKind.i64 8)).bind fun v33 =>
  okIf W1 (hold ((prun Tryd.prog (Builtin.len_ #[44] 3 #[b5])).bind fun v35 =>
  (bin .lss v35 v33).bind fun v37 =>
  (asB v37).bind fun c37 =>
  if c37 then
    (prun Tryd.prog (Instr.build 25 #[])).bind fun v38 =>
    (erun Tryd.prog (Instr.storeAt 25 v2 v38) W1).bind fun r_6 =>
    some (Res.ret [v2, (Value.int IntKind.i64 0), (Value.int IntKind.i64 0)] r_6.2)
  else
  some (Res.norm [v2, b5, v30, v33] W1)) (after Rt [] (f19.k1 call Rt)))) = some (.norm [] W1))) = some (.norm [] W1)
noncomputable def f19.w (call : CallF) (Rt : List Value → World → Prop) (m0 : Value) (W0 : World) : Prop :=
  ((erun Tryd.prog (Instr.alloc 25 true (.tuple #[])) W0).bind fun r2 =>
  okIf W0 (((call 10 #[m0] r2.2).bind fun r13 =>
  (prun Tryd.prog (Builtin.min_ #[3, 3] 3 #[(Value.int IntKind.i64 115), r13.1])).bind fun v14 =>
  (call 22 #[m0, (Value.int IntKind.i64 0), v14] r13.2).bind fun r15 =>
  (prun Tryd.prog (Instr.extract r15.1 0)).bind fun v16 =>
  (prun Tryd.prog (Instr.extract r15.1 1)).bind fun v17 =>
  okIf r2.2 (hold ((bin .neq v17 (Value.int IntKind.i64 0)).bind fun v19 =>
  (asB v19).bind fun b20 =>
  (if b20 = false then (prun Tryd.prog (Builtin.len_ #[44] 3 #[v16])).bind fun v22 =>
    (bin .lss v22 (Value.int IntKind.i64 7)).bind fun v23 =>
    some (v23, r15.2)
   else some ((Value.bool true), r15.2)).bind fun r24 =>
  (asB r24.1).bind fun c24 =>
  if c24 then
    (prun Tryd.prog (Instr.build 25 #[])).bind fun v25 =>
    (erun Tryd.prog (Instr.storeAt 25 r2.1 v25) r24.2).bind fun r_7 =>
    some (Res.ret [r2.1, (Value.int IntKind.i64 0), v17] r_7.2)
  else
  some (Res.norm [r2.1, v16] r24.2)) (after Rt [] (f19.k0 call Rt)))) = some (.norm [] r2.2))) = some (.norm [] W0)
theorem f19.weq (call : CallF) (Rt : List Value → World → Prop) (m0 : Value) (W0 : World) : wCode Tryd.prog call [2, 3, 4] Tryd.f19.ntmps Rt (Tryd.f19.body.getD .skip) f19.wann [] (ofArgs #[m0]) W0 (fun e w => hold (gets e [2, 3, 4]) fun vs => Rt vs w) = f19.w call Rt m0 W0 := by kernel_rfl

end Go.Sh.YtodkllcibbidoaaDoor

namespace Go.Sh.YtodkllcibbidoaaDoor
open Go Go.Proofs
set_option linter.unusedVariables false
set_option maxRecDepth 100000
/-- dailies/reel.Open, as a condition -/
def f8.wx : List WAnn := [.r, (.d [0] (.b [0] (.s .z (.c (.s .z .z) (.s .z (.c (.s .z .z) .z)))))), (.q 1), (.d [0, 4, 5, 6] (.s .z (.c (.s .z .z) .z))), (.d [0, 4, 5, 6] (.s .z (.c (.s .z .z) .z))), .r]
def f8.wz : WAnn := .r
def f8.wy : WAnn := (.d [] (.s (.s .z (.c (.s .z .z) .z)) (.s .z (.s (.s .z (.j [7] (.s .z (.s (.s .z (.c (.s .z .z) .z)) .z)) .z)) (.s .z .z)))))
noncomputable def f8.k3 (call : CallF) (Rt : List Value → World → Prop) (vs_3 : List Value) (W5 : World) : Prop :=
  let m0_4 := nth vs_3 0
  let e6_2 := nth vs_3 1
  let r7_1 := nth vs_3 2
  hold ((rrun Tryd.prog (Instr.loadAt 27 e6_2) W5).bind fun v47 =>
  (bin .neq v47 (Value.int IntKind.i64 0)).bind fun v48 =>
  (asB v48).bind fun c48 =>
  if c48 then
    (rrun Tryd.prog (Instr.loadAt 27 e6_2) W5.drew).bind fun v49 =>
    some (Res.ret [(Value.pointer none), v49] W5.drew)
  else
  (rrun Tryd.prog (Instr.loadAt 31 r7_1) W5.drew).bind fun v50 =>
  (nilV Tryd.prog v50).bind fun v51 =>
  (prun Tryd.prog (Instr.fieldAt 50 v51 2)).bind fun v52 =>
  (rrun Tryd.prog (Instr.loadAt 46 v52) W5.drew).bind fun v53 =>
  (rrun Tryd.prog (Instr.loadAt 31 r7_1) W5.drew).bind fun v54 =>
  (nilV Tryd.prog v54).bind fun v55 =>
  (prun Tryd.prog (Instr.fieldAt 50 v55 4)).bind fun v56 =>
  (rrun Tryd.prog (Instr.loadAt 3 v56) W5.drew).bind fun v57 =>
  (call 21 #[v53, v57] W5.drew).bind fun r58 =>
  ((call 10 #[m0_4] r58.2.drew).bind fun r60_1 =>
  some (r60_1.1, r60_1.2)).bind fun r60 =>
  ((rrun Tryd.prog (Instr.loadAt 31 r7_1) r60.2).bind fun v61 =>
  some (v61, r60.2)).bind fun r61 =>
  ((nilV Tryd.prog r61.1).bind fun v62 =>
  some (v62, r61.2)).bind fun r62 =>
  ((prun Tryd.prog (Instr.fieldAt 50 r62.1 4)).bind fun v63 =>
  some (v63, r62.2)).bind fun r63 =>
  ((rrun Tryd.prog (Instr.loadAt 3 r63.1) r63.2).bind fun v64 =>
  some (v64, r63.2)).bind fun r64 =>
  ((bin .sub r60.1 r64.1).bind fun v65 =>
  some (v65, r64.2)).bind fun r65 =>
  ((prun Tryd.prog (Builtin.len_ #[44] 3 #[r58.1])).bind fun v67 =>
  some (v67, r65.2)).bind fun r67 =>
  ((bin .eql r65.1 r67.1).bind fun v68 =>
  some (v68, r67.2)).bind fun r68 =>
  chkThen ((((rrun Tryd.prog (Instr.loadAt 31 r7_1) r58.2.drew).bind fun v61_1 => some v61_1) = some r61.1 ∧ ((rrun Tryd.prog (Instr.loadAt 31 r7_1) r60.2).bind fun v61_2 => some v61_2) = some r61.1) ∧ (((rrun Tryd.prog (Instr.loadAt 3 r63.1) r58.2.drew).bind fun v64_1 => some v64_1) = some r64.1 ∧ ((rrun Tryd.prog (Instr.loadAt 3 r63.1) r60.2).bind fun v64_2 => some v64_2) = some r64.1) ∧ True)
  ((asB r68.1).bind fun c68 =>
  (if c68 then
    (rrun Tryd.prog (Instr.loadAt 31 r7_1) r68.2).bind fun v71 =>
    (nilV Tryd.prog v71).bind fun v72 =>
    (prun Tryd.prog (Instr.fieldAt 50 v72 4)).bind fun v73 =>
    (rrun Tryd.prog (Instr.loadAt 3 v73) r68.2).bind fun v74 =>
    (prun Tryd.prog (Builtin.len_ #[44] 3 #[r58.1])).bind fun v76 =>
    (call 22 #[m0_4, v74, v76] r68.2).bind fun r77 =>
    (prun Tryd.prog (Instr.extract r77.1 0)).bind fun v78 =>
    (prun Tryd.prog (Instr.extract r77.1 1)).bind fun v79 =>
    (bin .neq v79 (Value.int IntKind.i64 0)).bind fun v81 =>
    (asB v81).bind fun c81 =>
    if c81 then
      some (Res.ret [(Value.pointer none), v79] r77.2)
    else
    ((rrun Tryd.prog (Instr.loadAt 31 r7_1) r77.2.drew).bind fun v83 =>
    some (v83, r77.2.drew)).bind fun r83 =>
    ((call 23 #[v78, r58.1] r83.2).bind fun r86_1 =>
    some (r86_1.1, r86_1.2)).bind fun r86 =>
    ((nilV Tryd.prog r83.1).bind fun v87 =>
    some (v87, r86.2)).bind fun r87 =>
    ((prun Tryd.prog (Instr.fieldAt 50 r87.1 3)).bind fun v88 =>
    some (v88, r87.2)).bind fun r88 =>
    ((erun Tryd.prog (Instr.storeAt 4 r88.1 r86.1) r88.2).bind fun r_4 =>
    some (undef, r_4.2)).bind fun r_3 =>
    chkThen ((((rrun Tryd.prog (Instr.loadAt 31 r7_1) r83.2).bind fun v83_1 => some v83_1) = some r83.1 ∧ ((rrun Tryd.prog (Instr.loadAt 31 r7_1) r86.2).bind fun v83_2 => some v83_2) = some r83.1) ∧ True)
    (some (Res.norm [r7_1] r_3.2))
   else
    some (Res.norm [r7_1] r68.2)).bind fun (r : Res) => r.cont fun vs_4 W6 =>
  let r7_2 := nth vs_4 0
  (rrun Tryd.prog (Instr.loadAt 31 r7_2) W6).bind fun v89 =>
  some (Res.ret [v89, (Value.int IntKind.i64 0)] W6))) (after Rt [] (fun _ _ => False))
noncomputable def f8.k2 (call : CallF) (Rt : List Value → World → Prop) (vs_2 : List Value) (W4 : World) : Prop :=
  let m0_3 := nth vs_2 0
  let l4_1 := nth vs_2 1
  let size5_1 := nth vs_2 2
  let e6_1 := nth vs_2 3
  ((rrun Tryd.prog (Instr.loadAt 25 l4_1) W4).bind fun v30 =>
  (prun Tryd.prog (Instr.build 50 #[(0, m0_3), (1, v30)])).bind fun v31 =>
  (erun Tryd.prog (Instr.box 50 v31) W4).bind fun r32 =>
  (erun Tryd.prog (Instr.alloc 31 true (.tuple #[])) r32.2).bind fun r7 =>
  (erun Tryd.prog (Instr.storeAt 31 r7.1 r32.1) r7.2).bind fun r_2 =>
  okIf W4 (((rrun Tryd.prog (Instr.loadAt 31 r7.1) r_2.2).bind fun v33 =>
  (call 20 #[v33, size5_1, e6_1] r_2.2).bind fun r35 =>
  okIf r_2.2 (rangeGo Tryd.prog call r35.1 r35.2 fun W7 => (f8.k3 call (unmark r35.2 Rt)) [m0_3, e6_1, r7.1] W7)) = some (.norm [] r_2.2))) = some (.norm [] W4)
noncomputable def f8.k1 (call : CallF) (Rt : List Value → World → Prop) (vs_1 : List Value) (W3 : World) : Prop :=
  let m0_2 := nth vs_1 0
  let l4 := nth vs_1 1
  let size5 := nth vs_1 2
  let e6 := nth vs_1 3
  hold ((bin .eql size5 (Value.int IntKind.i64 0)).bind fun v28 =>
  (asB v28).bind fun c28 =>
  if c28 then
    some (Res.ret [(Value.pointer none), (Value.int IntKind.i64 165)] W3)
  else
  some (Res.norm [m0_2, l4, size5, e6] W3)) (after Rt [] (f8.k2 call Rt))
noncomputable def f8.k0 (call : CallF) (Rt : List Value → World → Prop) (vs : List Value) (W1 : World) : Prop :=
  let m0_1 := nth vs 0
  true = true ∧ 1 < 11 ∧ (okIf W1 (relF Tryd.prog 19 [m0_1].toArray W1 fun r20 W2 =>
  ((prun Tryd.prog (Instr.extract r20 0)).bind fun v21 =>
  (prun Tryd.prog (Instr.extract r20 1)).bind fun v22 =>
  (prun Tryd.prog (Instr.extract r20 2)).bind fun v23 =>
  (erun Tryd.prog (Instr.alloc 25 true (.tuple #[])) W2).bind fun r4 =>
  (erun Tryd.prog (Instr.alloc 27 true (.tuple #[])) r4.2).bind fun r6 =>
  (erun Tryd.prog (Instr.storeAt 25 r4.1 v21) r6.2).bind fun r =>
  (erun Tryd.prog (Instr.storeAt 27 r6.1 v23) r.2).bind fun r_1 =>
  okIf W1 (hold ((rrun Tryd.prog (Instr.loadAt 27 r6.1) r_1.2).bind fun v24 =>
  (bin .neq v24 (Value.int IntKind.i64 0)).bind fun v25 =>
  (asB v25).bind fun c25 =>
  if c25 then
    (rrun Tryd.prog (Instr.loadAt 27 r6.1) r_1.2.drew).bind fun v26 =>
    some (Res.ret [(Value.pointer none), v26] r_1.2.drew)
  else
  some (Res.norm [m0_1, r4.1, v22, r6.1] r_1.2)) (after Rt [] (f8.k1 call Rt)))) = some (.norm [] W1))) = some (.norm [] W1)
noncomputable def f8.w (call : CallF) (Rt : List Value → World → Prop) (m0 : Value) (W0 : World) : Prop :=
  (okIf W0 (hold (((rrun Tryd.prog (do eqGuard .eql 35 (Operand.tmp 13) (Operand.const (Value.pointer none)) m0 (Value.pointer none); binOp .eql 35 m0 (Value.pointer none)) W0).bind fun v14 =>
  (asB v14).bind fun c12 =>
  if c12 then
    some (Res.ret [(Value.pointer none), (Value.int IntKind.i64 1)] W0)
  else
  (call 18 #[m0] W0).bind fun r17 =>
  (asB r17.1).bind fun c15 =>
  if c15 then
    some (Res.ret [(Value.pointer none), (Value.int IntKind.i64 152)] r17.2)
  else
  some (Res.norm [m0] r17.2)).bind fun (r : Res) => (r.unblock 0).cont fun vs_5 W8 =>
  let m0_5 := nth vs_5 0
  some (Res.norm [m0_5] W8)) (after Rt [] (f8.k0 call Rt)))) = some (.norm [] W0)
theorem f8.weq (call : CallF) (Rt : List Value → World → Prop) (m0 : Value) (W0 : World) : wHead Tryd.prog call [2, 3] Tryd.f8.ntmps Rt (Tryd.f8.body.getD .skip) f8.wx (ofArgs #[m0]) W0 (wRange Tryd.prog call [2, 3] Tryd.f8.ntmps Rt f8.wz f8.wy) = f8.w call Rt m0 W0 := by kernel_rfl

@[simp] theorem ld27 (a : Addr) (w : World) : rrun Tryd.prog (Instr.loadAt 27 (.pointer (some a))) w = w.cell? a := load_one Tryd.underlying27 (by kernel_rfl) a w
theorem inf31 : Tryd.prog.info? 31 = some (inf 31) := by kernel_rfl
theorem size31 : (inf 31).size = 1 := by kernel_rfl
theorem st31 {a : Addr} {w : World} {v u : Value} (hv : v.cells = #[v]) (ho : v.oneCell' = true) (hc : w.cell? a = some u) (hf : w.frozen? a = false) : erun Tryd.prog (Instr.storeAt 31 (.pointer (some a)) v) w = some ((), w.setCell a v) := store_one inf31 size31 hv ho hc hf
@[simp] theorem bs46_0 (w : World) : erun Tryd.prog (Instr.buildSlice 46 0 #[]) w = some (.slice (some ⟨w.heap.size, 0, none⟩) 0 0, w.alloc (.cells #[] 39)) := id (by kernel_rfl)
end Go.Sh.YtodkllcibbidoaaDoor

namespace Go.Sh.YtodkllcibbidoaaDoor
open Go Go.Proofs
set_option linter.unusedVariables false
set_option maxRecDepth 100000
/-- dailies/dailieslaw16.alive, as a condition -/
def f5.wann : WAnn := (.s .r (.s .r (.s (.d [1] (.s .z (.c (.s .z .z) .z))) (.s (.q 2) (.s (.d [1, 2] (.s .z (.c (.s .z .z) .z))) (.s .r (.s (.q 1) (.d [] (.s .z .z)))))))))
noncomputable def f5.k1 (call : CallF) (Rt : List Value → World → Prop) (vs_1 : List Value) (W3 : World) : Prop :=
  let m1_1 := nth vs_1 0
  let w2 := nth vs_1 1
  ((call 11 #[w2] W3).bind fun r30 =>
  (prun Tryd.prog (Instr.extract r30.1 0)).bind fun v31 =>
  (prun Tryd.prog (Instr.extract r30.1 1)).bind fun v32 =>
  (erun Tryd.prog (Instr.alloc 39 true (.tuple #[])) r30.2).bind fun r4 =>
  (erun Tryd.prog (Instr.storeAt 39 r4.1 v31) r4.2).bind fun r =>
  okIf W3 (true = true ∧ 1 < 7 ∧ (okIf r.2 (relF Tryd.prog 8 [m1_1].toArray r.2 fun r35 W4 =>
  ((prun Tryd.prog (Instr.extract r35 0)).bind fun v36 =>
  (prun Tryd.prog (Instr.extract r35 1)).bind fun v37 =>
  okIf r.2 (hold ((bin .eql v32 (Value.int IntKind.i64 0)).bind fun v39 =>
  (asB v39).bind fun b40 =>
  (if b40 = true then (rrun Tryd.prog (Instr.loadAt 39 r4.1) W4).bind fun v41 =>
    (prun Tryd.prog (Instr.build 39 #[(1, (Value.int IntKind.i64 16)), (2, (Value.int IntKind.i64 24))])).bind fun v42 =>
    (rrun Tryd.prog (do eqGuard .eql 39 (Operand.tmp 41) (Operand.tmp 42) v41 v42; binOp .eql 39 v41 v42) W4).bind fun v43 =>
    some (v43, W4)
   else some ((Value.bool false), W4)).bind fun r44 =>
  (asB r44.1).bind fun b45 =>
  (if b45 = true then (bin .eql v37 (Value.int IntKind.i64 0)).bind fun v47 =>
    some (v47, r44.2)
   else some ((Value.bool false), r44.2)).bind fun r48 =>
  (asB r48.1).bind fun b49 =>
  (if b49 = true then (rrun Tryd.prog (do eqGuard .neq 31 (Operand.tmp 50) (Operand.const (Value.pointer none)) v36 (Value.pointer none); binOp .neq 31 v36 (Value.pointer none)) r48.2).bind fun v51 =>
    some (v51, r48.2)
   else some ((Value.bool false), r48.2)).bind fun r52 =>
  (asB r52.1).bind fun b53 =>
  (if b53 = true then (call 12 #[v36] r52.2).bind fun r55 =>
    some (r55.1, r55.2)
   else some ((Value.bool false), r52.2)).bind fun r56 =>
  (asB r56.1).bind fun b57 =>
  (if b57 = true then (call 13 #[v36] r56.2).bind fun r59 =>
    (bin .eql r59.1 (Value.int IntKind.i64 0)).bind fun v60 =>
    some (v60, r59.2)
   else some ((Value.bool false), r56.2)).bind fun r61 =>
  some (Res.ret [r61.1] r61.2)) (after Rt [] (fun _ _ => False)))) = some (.norm [] r.2))) = some (.norm [] r.2))) = some (.norm [] W3)
noncomputable def f5.k0 (call : CallF) (Rt : List Value → World → Prop) (vs : List Value) (W1 : World) : Prop :=
  let m1 := nth vs 0
  true = true ∧ 2 < 8 ∧ ((prun Tryd.prog (Instr.build 25 #[(0, (Value.string { data := #[97] })), (1, (Value.int IntKind.i64 2))])).bind fun v13 =>
  okIf W1 (relF Tryd.prog 6 [m1, v13].toArray W1 fun r14 W2 =>
  ((prun Tryd.prog (Instr.extract r14 0)).bind fun v15 =>
  (prun Tryd.prog (Instr.extract r14 1)).bind fun v16 =>
  okIf W1 (hold ((bin .neq v16 (Value.int IntKind.i64 0)).bind fun v18 =>
  (asB v18).bind fun b19 =>
  (if b19 = false then (rrun Tryd.prog (do eqGuard .eql 26 (Operand.tmp 20) (Operand.const (Value.pointer none)) v15 (Value.pointer none); binOp .eql 26 v15 (Value.pointer none)) W2).bind fun v21 =>
    some (v21, W2)
   else some ((Value.bool true), W2)).bind fun r22 =>
  (asB r22.1).bind fun b23 =>
  (if b23 = false then (call 10 #[m1] r22.2).bind fun r25 =>
    (bin .neq r25.1 (Value.int IntKind.i64 16)).bind fun v26 =>
    some (v26, r25.2)
   else some ((Value.bool true), r22.2)).bind fun r27 =>
  (asB r27.1).bind fun c27 =>
  if c27 then
    some (Res.ret [(Value.bool false)] r27.2)
  else
  some (Res.norm [m1, v15] r27.2)) (after Rt [] (f5.k1 call Rt)))) = some (.norm [] W1))) = some (.norm [] W1)
noncomputable def f5.w (call : CallF) (Rt : List Value → World → Prop)  (W0 : World) : Prop :=
  (okIf W0 (((call 9 #[] W0).bind fun r8 =>
  okIf W0 (hold ((rrun Tryd.prog (do eqGuard .eql 35 (Operand.tmp 9) (Operand.const (Value.pointer none)) r8.1 (Value.pointer none); binOp .eql 35 r8.1 (Value.pointer none)) r8.2).bind fun v10 =>
  (asB v10).bind fun c10 =>
  if c10 then
    some (Res.ret [(Value.bool false)] r8.2)
  else
  some (Res.norm [r8.1] r8.2)) (after Rt [] (f5.k0 call Rt)))) = some (.norm [] W0))) = some (.norm [] W0)
theorem f5.weq (call : CallF) (Rt : List Value → World → Prop)  (W0 : World) : wCode Tryd.prog call [0] Tryd.f5.ntmps Rt (Tryd.f5.body.getD .skip) f5.wann [] (ofArgs #[]) W0 (fun e w => hold (gets e [0]) fun vs => Rt vs w) = f5.w call Rt  W0 := by kernel_rfl

/-- dailies/dailieslaw16.ReelNames, as a condition -/
def f3.wann : WAnn := (.s .r (.s (.q 0) (.d [] (.s .z (.s .z .z)))))
noncomputable def f3.w (call : CallF) (Rt : List Value → World → Prop)  (W0 : World) : Prop :=
  (okIf W0 (true = true ∧ 0 < 2 ∧ (okIf W0 (relF Tryd.prog 5 [].toArray W0 fun r3 W1 =>
  (okIf W0 (hold ((asB r3).bind fun b5 =>
  (if b5 = true then some ((Value.bool true), W1)
   else some ((Value.bool false), W1)).bind fun r7 =>
  (pickV r7.1 (Value.bool true) (Value.bool false)).bind fun v9 =>
  (pickV v9 (Value.bool true) (Value.bool false)).bind fun v11 =>
  (pickV v11 (Value.bool true) (Value.bool false)).bind fun v13 =>
  some (Res.ret [v13] r7.2)) (after Rt [] (fun _ _ => False)))) = some (.norm [] W0))) = some (.norm [] W0))) = some (.norm [] W0)
theorem f3.weq (call : CallF) (Rt : List Value → World → Prop)  (W0 : World) : wCode Tryd.prog call [0] Tryd.f3.ntmps Rt (Tryd.f3.body.getD .skip) f3.wann [] (ofArgs #[]) W0 (fun e w => hold (gets e [0]) fun vs => Rt vs w) = f3.w call Rt  W0 := by kernel_rfl

/-- dailies/dailieslaw16.ReelNil, as a condition -/
def f4.wann : WAnn := (.s .r (.s (.q 0) (.s (.q 1) (.s (.q 0) (.s (.q 0) (.d [] (.s .z .z)))))))
noncomputable def f4.w (call : CallF) (Rt : List Value → World → Prop) (l0 : Value) (W0 : World) : Prop :=
  ((erun Tryd.prog (Instr.box 25 l0) W0).bind fun r1 =>
  okIf W0 (true = true ∧ 0 < 2 ∧ (okIf r1.2 (relF Tryd.prog 5 [].toArray r1.2 fun r10 W1 =>
  (okIf r1.2 (true = true ∧ 1 < 7 ∧ ((rrun Tryd.prog (Instr.loadAt 25 r1.1) W1).bind fun v12 =>
  okIf W1 (relF Tryd.prog 6 [(Value.pointer none), v12].toArray W1 fun r13 W2 =>
  ((prun Tryd.prog (Instr.extract r13 0)).bind fun v14 =>
  (prun Tryd.prog (Instr.extract r13 1)).bind fun v15 =>
  okIf W1 (true = true ∧ 0 < 6 ∧ (okIf W2 (relF Tryd.prog 7 [(Value.pointer none)].toArray W2 fun r17 W3 =>
  ((prun Tryd.prog (Instr.extract r17 0)).bind fun v18 =>
  (prun Tryd.prog (Instr.extract r17 1)).bind fun v19 =>
  okIf W2 (true = true ∧ 0 < 6 ∧ (okIf W3 (relF Tryd.prog 8 [(Value.pointer none)].toArray W3 fun r21 W4 =>
  ((prun Tryd.prog (Instr.extract r21 0)).bind fun v22 =>
  (prun Tryd.prog (Instr.extract r21 1)).bind fun v23 =>
  okIf W3 (hold ((asB r10).bind fun b25 =>
  (if b25 = true then (rrun Tryd.prog (do eqGuard .eql 26 (Operand.tmp 26) (Operand.const (Value.pointer none)) v14 (Value.pointer none); binOp .eql 26 v14 (Value.pointer none)) W4).bind fun v27 =>
    some (v27, W4)
   else some ((Value.bool false), W4)).bind fun r28 =>
  (asB r28.1).bind fun b29 =>
  (if b29 = true then (rrun Tryd.prog (do eqGuard .eql 26 (Operand.tmp 30) (Operand.const (Value.pointer none)) v18 (Value.pointer none); binOp .eql 26 v18 (Value.pointer none)) r28.2).bind fun v31 =>
    some (v31, r28.2)
   else some ((Value.bool false), r28.2)).bind fun r32 =>
  (asB r32.1).bind fun b33 =>
  (if b33 = true then (rrun Tryd.prog (do eqGuard .eql 31 (Operand.tmp 34) (Operand.const (Value.pointer none)) v22 (Value.pointer none); binOp .eql 31 v22 (Value.pointer none)) r32.2).bind fun v35 =>
    some (v35, r32.2)
   else some ((Value.bool false), r32.2)).bind fun r36 =>
  (asB r36.1).bind fun b37 =>
  (if b37 = true then (bin .eql v15 (Value.int IntKind.i64 1)).bind fun v39 =>
    some (v39, r36.2)
   else some ((Value.bool false), r36.2)).bind fun r40 =>
  (asB r40.1).bind fun b41 =>
  (if b41 = true then (bin .eql v19 (Value.int IntKind.i64 1)).bind fun v43 =>
    some (v43, r40.2)
   else some ((Value.bool false), r40.2)).bind fun r44 =>
  (asB r44.1).bind fun b45 =>
  (if b45 = true then (bin .eql v23 (Value.int IntKind.i64 1)).bind fun v47 =>
    some (v47, r44.2)
   else some ((Value.bool false), r44.2)).bind fun r48 =>
  some (Res.ret [r48.1] r48.2)) (after Rt [] (fun _ _ => False)))) = some (.norm [] W3))) = some (.norm [] W3))) = some (.norm [] W2))) = some (.norm [] W2))) = some (.norm [] W1))) = some (.norm [] W1))) = some (.norm [] r1.2))) = some (.norm [] r1.2))) = some (.norm [] W0)
theorem f4.weq (call : CallF) (Rt : List Value → World → Prop) (l0 : Value) (W0 : World) : wCode Tryd.prog call [2] Tryd.f4.ntmps Rt (Tryd.f4.body.getD .skip) f4.wann [] (ofArgs #[l0]) W0 (fun e w => hold (gets e [2]) fun vs => Rt vs w) = f4.w call Rt l0 W0 := by kernel_rfl

/-- dailies/reel.Continue, as a condition -/
def f7.wann : WAnn := (.s .r (.s (.q 1) (.d [] (.s (.b [0, 4] (.s .z (.c (.s .z .z) (.s .z (.c (.s .z .z) .z))))) (.s (.s .z (.j [0, 4] (.s .z (.s .z (.c (.s .z .z) .z))) .z)) (.s .z .z))))))
noncomputable def f7.w (call : CallF) (Rt : List Value → World → Prop) (m0 : Value) (W0 : World) : Prop :=
  (okIf W0 (true = true ∧ 1 < 7 ∧ (okIf W0 (relF Tryd.prog 8 [m0].toArray W0 fun r9 W1 =>
  ((prun Tryd.prog (Instr.extract r9 0)).bind fun v10 =>
  (prun Tryd.prog (Instr.extract r9 1)).bind fun v11 =>
  okIf W0 (hold (((bin .neq v11 (Value.int IntKind.i64 0)).bind fun v14 =>
  (asB v14).bind fun c12 =>
  if c12 then
    some (Res.ret [(Value.pointer none), v11] W1)
  else
  (nilV Tryd.prog v10).bind fun v18 =>
  (prun Tryd.prog (Instr.fieldAt 50 v18 3)).bind fun v19 =>
  (rrun Tryd.prog (Instr.loadAt 4 v19) W1).bind fun v20 =>
  (asB v20).bind fun c16 =>
  if c16 then
    some (Res.ret [(Value.pointer none), (Value.int IntKind.i64 164)] W1)
  else
  some (Res.norm [m0, v10] W1)).bind fun (r : Res) => (r.unblock 0).cont fun vs W2 =>
  let m0_1 := nth vs 0
  let r4 := nth vs 1
  ((call 10 #[m0_1] W2.drew).bind fun r22_1 =>
  some (r22_1.1, r22_1.2)).bind fun r22 =>
  ((nilV Tryd.prog r4).bind fun v24 =>
  some (v24, r22.2)).bind fun r24 =>
  ((prun Tryd.prog (Instr.fieldAt 50 r24.1 4)).bind fun v25 =>
  some (v25, r24.2)).bind fun r25 =>
  ((rrun Tryd.prog (Instr.loadAt 3 r25.1) r25.2).bind fun v26 =>
  some (v26, r25.2)).bind fun r26 =>
  ((bin .gtr r22.1 r26.1).bind fun v27 =>
  some (v27, r26.2)).bind fun r27 =>
  chkThen ((((rrun Tryd.prog (Instr.loadAt 3 r25.1) W2.drew).bind fun v26_1 => some v26_1) = some r26.1 ∧ ((rrun Tryd.prog (Instr.loadAt 3 r25.1) r22.2).bind fun v26_2 => some v26_2) = some r26.1) ∧ True)
  ((asB r27.1).bind fun c27 =>
  (if c27 then
    (nilV Tryd.prog r4).bind fun v30 =>
    (prun Tryd.prog (Instr.fieldAt 50 v30 4)).bind fun v31 =>
    (rrun Tryd.prog (Instr.loadAt 3 v31) r27.2).bind fun v32 =>
    (call 17 #[m0_1, v32] r27.2).bind fun r33 =>
    (bin .neq r33.1 (Value.int IntKind.i64 0)).bind fun v35 =>
    (asB v35).bind fun c35 =>
    if c35 then
      some (Res.ret [(Value.pointer none), r33.1] r33.2)
    else
    some (Res.norm [m0_1, r4] r33.2)
   else
    some (Res.norm [m0_1, r4] r27.2)).bind fun (r : Res) => r.cont fun vs_1 W3 =>
  let m0_2 := nth vs_1 0
  let r4_1 := nth vs_1 1
  (nilV Tryd.prog r4_1).bind fun v39 =>
  (prun Tryd.prog (Instr.fieldAt 50 v39 2)).bind fun v40 =>
  (rrun Tryd.prog (Instr.loadAt 46 v40) W3).bind fun v41 =>
  (prun Tryd.prog (Instr.build 48 #[(0, m0_2), (1, v41)])).bind fun v42 =>
  (erun Tryd.prog (Instr.box 48 v42) W3).bind fun r43 =>
  some (Res.ret [r43.1, (Value.int IntKind.i64 0)] r43.2))) (after Rt [] (fun _ _ => False)))) = some (.norm [] W0))) = some (.norm [] W0))) = some (.norm [] W0)
theorem f7.weq (call : CallF) (Rt : List Value → World → Prop) (m0 : Value) (W0 : World) : wCode Tryd.prog call [2, 3] Tryd.f7.ntmps Rt (Tryd.f7.body.getD .skip) f7.wann [] (ofArgs #[m0]) W0 (fun e w => hold (gets e [2, 3]) fun vs => Rt vs w) = f7.w call Rt m0 W0 := by kernel_rfl

@[simp] theorem eql26_some (x y : Operand) (a : Addr) (w : World) : rrun Tryd.prog (do eqGuard .eql 26 x y (.pointer (some a)) (.pointer none); binOp .eql 26 (.pointer (some a)) (.pointer none)) w = some (.bool false) := id (by kernel_rfl)
@[simp] theorem eql26_none (x y : Operand) (w : World) : rrun Tryd.prog (do eqGuard .eql 26 x y (.pointer none) (.pointer none); binOp .eql 26 (.pointer none) (.pointer none)) w = some (.bool true) := id (by kernel_rfl)
@[simp] theorem eql31_some (x y : Operand) (a : Addr) (w : World) : rrun Tryd.prog (do eqGuard .eql 31 x y (.pointer (some a)) (.pointer none); binOp .eql 31 (.pointer (some a)) (.pointer none)) w = some (.bool false) := id (by kernel_rfl)
@[simp] theorem eql31_none (x y : Operand) (w : World) : rrun Tryd.prog (do eqGuard .eql 31 x y (.pointer none) (.pointer none); binOp .eql 31 (.pointer none) (.pointer none)) w = some (.bool true) := id (by kernel_rfl)
theorem eqf39 (a0 b0 : Int) (a1 b1 : Int) (a2 b2 : Int) (w : World) : rrun Tryd.prog (Op.eqFields 9999 #[(.int .i64 a0), (.int .i64 a1), (.int .i64 a2)] #[(.int .i64 b0), (.int .i64 b1), (.int .i64 b2)] (Tryd.prog.fieldsOf 39).toList) w = some (a0 == b0 && (a1 == b1 && (a2 == b2 && true))) := by
  simp only [Program.fieldsOf, Tryd.underlying39]
  exact (rr_eqFields_cons w 9999 _ _ _ _ _ _ _ _ (by decide) (by kernel_rfl) (by kernel_rfl) (rr_equalIn_int w 9998 3 .i64 .i64 a0 b0 Tryd.underlying3) (rr_eqFields_cons w 9999 _ _ _ _ _ _ _ _ (by decide) (by kernel_rfl) (by kernel_rfl) (rr_equalIn_int w 9998 3 .i64 .i64 a1 b1 Tryd.underlying3) (rr_eqFields_cons w 9999 _ _ _ _ _ _ _ _ (by decide) (by kernel_rfl) (by kernel_rfl) (rr_equalIn_int w 9998 3 .i64 .i64 a2 b2 Tryd.underlying3) (rr_eqFields_nil w 9999 _ _))))
@[simp] theorem eql39_st (x y : Operand) (a0 b0 : Int) (a1 b1 : Int) (a2 b2 : Int) (w : World) : rrun Tryd.prog (do eqGuard .eql 39 x y (.agg #[(.int .i64 a0), (.int .i64 a1), (.int .i64 a2)]) (.agg #[(.int .i64 b0), (.int .i64 b1), (.int .i64 b2)]); binOp .eql 39 (.agg #[(.int .i64 a0), (.int .i64 a1), (.int .i64 a2)]) (.agg #[(.int .i64 b0), (.int .i64 b1), (.int .i64 b2)])) w = some (.bool ((a0 == b0 && a1 == b1 && a2 == b2))) := by
  have h := rr_eql (P := Tryd.prog) w 39 x y #[(.int .i64 a0), (.int .i64 a1), (.int .i64 a2)] #[(.int .i64 b0), (.int .i64 b1), (.int .i64 b2)] _ (by kernel_rfl) (by kernel_rfl) (by kernel_rfl) (eqf39 a0 b0 a1 b1 a2 b2 w)
  simpa only [Bool.and_true, Bool.and_assoc] using h
@[simp] theorem neq31_some (x y : Operand) (a : Addr) (w : World) : rrun Tryd.prog (do eqGuard .neq 31 x y (.pointer (some a)) (.pointer none); binOp .neq 31 (.pointer (some a)) (.pointer none)) w = some (.bool true) := id (by kernel_rfl)
@[simp] theorem neq31_none (x y : Operand) (w : World) : rrun Tryd.prog (do eqGuard .neq 31 x y (.pointer none) (.pointer none); binOp .neq 31 (.pointer none) (.pointer none)) w = some (.bool false) := id (by kernel_rfl)
end Go.Sh.YtodkllcibbidoaaDoor

namespace Go.Sh
open Go
theorem Sat.storeAll {P : Program} {W w : World} {R : Asn W.heap.size} {b : Nat} {e : TypeId} {cs : List Value} (s : Sat W (blkA b e cs * R) w) {t : TypeId} {i : TypeInfo} (hi : P.info? t = some i) {o : Nat} {v : Value} {vs : List Value} (hv : v.cells = vs.toArray) (hs : vs.length = i.size) (hfit : o + vs.length ≤ cs.length) (ho : ∀ u ∈ vs, u.oneCell' = true)
    {cs' : List Value} (hcs : cs.take o ++ vs ++ cs.drop (o + vs.length) = cs') : ∃ w', erun P (Instr.storeAt t (.pointer (some ⟨b, o, none⟩)) v) w = some ((), w') ∧ Sat W (blkA b e cs' * R) w' := by
  obtain ⟨w', h1, h2, h3⟩ := s.blk.storeAll hi hv hs hfit ho hcs
  obtain ⟨g, S, A, B, d, q, ⟨p, hb, hA⟩, r⟩ := s
  subst hA
  have hg : Grew (fun k => k = b) w w' := grew_of h3 fun k hk => by cases hk; exact .inl rfl
  exact ⟨w', h1, g.trans hg fun k hk => .inr (hk ▸ hb), fun k => k = b ∨ B k, fun k => k = b, B, d, rfl, ⟨h2, hb, rfl⟩, R.frame r hg fun k hB hk => d k hk hB⟩
end Go.Sh
namespace Go.Sh.YtodkllcibbidoaaDoor
open Go Go.Proofs Go.RowKit Go.Lib
set_option linter.unusedVariables false
set_option linter.unusedSimpArgs false
set_option maxRecDepth 100000
noncomputable def endA : List UInt8 := endB 16
theorem endA_len : endA.length = 24 := by unfold endA endB; rw [List.length_append, sm_len, sm_len]; simp [be4_len]
noncomputable def S2 : Pm := ⟨labB ++ endA, false, 0, 0, []⟩
theorem S1_app : S1.append endA = (16, 0, S2) := by simp [S1, Pm.append, S2, labB_len]
theorem S1_fit : S1.fit := ⟨by have := labB_len; simp [S1]; omega, by simp [S1], by simp [S1], by simp [S1], by simp [S1], by simp [S1]⟩
section
variable {W : World} {X : Asn W.heap.size}
theorem al39 (w : World) : erun Tryd.prog (Instr.alloc 39 true (.tuple #[])) w = some (.pointer (some ⟨w.heap.size, 0, none⟩), w.alloc (.cells #[.int .i64 0, .int .i64 0, .int .i64 0] 39)) := id (by kernel_rfl)
theorem finish_ok {w : World} {M P : Nat} (x : Sat W (blkA P 48 [.pointer (some ⟨M, 0, none⟩), .slice none 0 0, .bool false] * (medA M S1 * X)) w) :
    ∃ w', C 11 #[.pointer (some ⟨P, 0, none⟩)] w = some (.tuple #[.agg #[.int .i64 0, .int .i64 16, .int .i64 24], .int .i64 0], w') ∧ Sat W (medA M S2 * X) w' := by
  have x1 := x.newBlk 39 [.int .i64 0, .int .i64 0, .int .i64 0]
  have k1 := al39 w
  obtain ⟨w1, hw1⟩ : ∃ w1, w1 = w.alloc (.cells #[.int .i64 0, .int .i64 0, .int .i64 0] 39) := ⟨_, rfl⟩
  obtain ⟨b, hb⟩ : ∃ b, b = w.heap.size := ⟨_, rfl⟩
  rw [← hw1, ← hb] at k1
  have x1 : Sat W (blkA b 39 [.int .i64 0, .int .i64 0, .int .i64 0] * (blkA P 48 [.pointer (some ⟨M, 0, none⟩), .slice none 0 0, .bool false] * (medA M S1 * X))) w1 := by rw [hb, hw1]; exact x1
  have c0 := x1.swap.cell 2 (v := .bool false) rfl
  have s0 := st4 (a := ⟨P, 2, none⟩) (v := .bool true) rfl rfl c0 (x1.swap.frozen 2)
  have x2 := x1.swap.store (cs' := [.pointer (some ⟨M, 0, none⟩), .slice none 0 0, .bool true]) 2 (.bool true) rfl
  obtain ⟨w2, hw2⟩ : ∃ w2, w2 = w1.setCell ⟨P, 2, none⟩ (.bool true) := ⟨_, rfl⟩
  rw [← hw2] at s0 x2
  have x2 := x2.drew
  have c1 : w2.cell? ⟨P, 1, none⟩ = some (.slice none 0 0) := x2.cell 1 rfl
  have c2 : w2.cell? ⟨P, 0, none⟩ = some (.pointer (some ⟨M, 0, none⟩)) := x2.cell 0 rfl
  obtain ⟨w3, k3, x3⟩ := m_size (x2.eq (by ac_rfl : _ = medA M S1 * (blkA P 48 [.pointer (some ⟨M, 0, none⟩), .slice none 0 0, .bool true] * (blkA b 39 [.int .i64 0, .int .i64 0, .int .i64 0] * X))))
  have k3 : C 10 #[.pointer (some ⟨M, 0, none⟩)] w2.drew = some (.int .i64 16, w3) := by
    rw [k3]
    simp [S1, labB_len]
  have c3 := x3.swap.cell 1 (v := .slice none 0 0) rfl
  obtain ⟨v4, w4, k4, x4⟩ := end_ok x3 (at_ := 16) (by omega)
  have k4 : C 21 #[.slice none 0 0, .int .i64 16] w3 = some (v4, w4) := k4
  have c4 := (x4.eq (by ac_rfl : _ = blkA P 48 [.pointer (some ⟨M, 0, none⟩), .slice none 0 0, .bool true] * (rowA 5 1 v4 24 (bv (endB 16)) * (medA M S1 * (blkA b 39 [.int .i64 0, .int .i64 0, .int .i64 0] * X))))).cell 0 (v := .pointer (some ⟨M, 0, none⟩)) rfl
  have x4 : Sat W (rowA 5 1 v4 24 (bv endA) * (medA M S1 * (blkA P 48 [.pointer (some ⟨M, 0, none⟩), .slice none 0 0, .bool true] * (blkA b 39 [.int .i64 0, .int .i64 0, .int .i64 0] * X)))) w4 := x4
  have hrow := x4.row
  obtain ⟨A, c, rfl, hc, _⟩ := own_form hrow
  have hA : A ≠ none := by
    rintro rfl
    rcases hrow.2 with ⟨h, h2⟩ | ⟨g, cap, cur, hv, _⟩
    · omega
    · cases hv
  obtain ⟨w5, k5, x5⟩ := m_append (x4.swap) S1_fit hA (n := 24) (c := c) (by rw [endA_len]; omega) hc (by simp [S1, labB_len])
  have ht : endA.take 24 = endA := List.take_of_length_le (by rw [endA_len]; omega)
  rw [ht, S1_app] at k5 x5
  have k5 : C 15 #[.pointer (some ⟨M, 0, none⟩), .slice A 24 c] w4 = some (.tuple #[.int .i64 16, .int .i64 0], w5) := k5
  have x5 := x5.eq (by ac_rfl : _ = blkA b 39 [.int .i64 0, .int .i64 0, .int .i64 0] * (blkA P 48 [.pointer (some ⟨M, 0, none⟩), .slice none 0 0, .bool true] * (medA M S2 * (rowA 5 1 (.slice A 24 c) 24 (bv endA) * X))))
  have c5 := x5.swap.cell 1 (v := .slice none 0 0) rfl
  obtain ⟨w6, k6, x6⟩ := x5.storeAll (P := Tryd.prog) inf39 (o := 0) (v := .agg #[.int .i64 0, .int .i64 16, .int .i64 24]) (vs := [.int .i64 0, .int .i64 16, .int .i64 24]) (cs' := [.int .i64 0, .int .i64 16, .int .i64 24]) rfl (by rw [size39]; rfl) (by simp) (by simp [Value.oneCell']) (by simp)
  have l6 := ld39 (a := ⟨b, 0, none⟩) (by rw [addL]; exact x6.cell 0 rfl) (by rw [addL]; exact x6.cell 1 rfl) (by rw [addL]; exact x6.cell 2 rfl)
  have b6 : prun Tryd.prog (Instr.build 39 #[(0, .int .i64 0), (1, .int .i64 16), (2, .int .i64 24)]) = some (.agg #[.int .i64 0, .int .i64 16, .int .i64 24]) := id (by kernel_rfl)
  refine ⟨w6, f11.run rfl ?_, ?_⟩
  · simp [f11, k1, addL, c0, s0, c1, c2, k3, c3, k4, c4, k5, c5, b6, k6, l6]
  · exact (x6.eq (by ac_rfl : _ = (blkA b 39 [.int .i64 0, .int .i64 16, .int .i64 24] * (blkA P 48 [.pointer (some ⟨M, 0, none⟩), .slice none 0 0, .bool true] * rowA 5 1 (.slice A 24 c) 24 (bv endA))) * (medA M S2 * X))).right
end
end Go.Sh.YtodkllcibbidoaaDoor

namespace Go.Sh.YtodkllcibbidoaaDoor
open Go Go.Proofs Go.RowKit Go.Lib
set_option linter.unusedVariables false
set_option linter.unusedSimpArgs false
set_option maxRecDepth 100000
noncomputable def LB : List UInt8 := labB ++ endA
/-- the finished reel, of which some was read -/
noncomputable def Sg (g : List (Int × Int)) : Pm := ⟨LB, false, 0, 0, g⟩
theorem LB_len : LB.length = 40 := by unfold LB; rw [List.length_append, labB_len, endA_len]
theorem LB_eq : ∃ T : List UInt8, LB = 82 :: 69 :: 69 :: 76 :: 1 :: 2 :: 1 :: 97 :: 0 :: 0 :: 0 :: 0 :: T := ⟨be4 (csum (reelB ++ ([1, 2, UInt8.ofNat [(97 : UInt8)].length] ++ ([97] ++ be4 0)))).toNat ++ endA, rfl⟩
theorem LB_lab : LB.take 16 = labB := by
  unfold LB
  rw [List.take_append_of_le_length (by rw [labB_len]; omega)]
  exact List.take_of_length_le (by rw [labB_len]; omega)
theorem LB_end : LB.drop 16 = endA := by
  unfold LB
  rw [List.drop_append_of_le_length (by rw [labB_len]; omega), List.drop_of_length_le (by rw [labB_len]; omega)]
  rfl
theorem Sg_fit {g : List (Int × Int)} (h : g.length ≤ 1000) : (Sg g).fit := by
  have := LB_len
  constructor <;> simp [Sg] <;> omega
section
variable {W : World} {X : Asn W.heap.size}
theorem clip_rd {w : World} {A : Option Addr} {n : Nat} {xs : List Value} (x : Sat W (clipA 5 1 (.slice A n n) n xs * X) w) : Rd w A xs := by
  obtain ⟨A', c, e, _, o⟩ := x.clip
  cases e
  exact Rd.owned o
theorem reads {w : World} {M : Nat} {s : Pm} (x : Sat W (medA M s * X) w) (hf : s.fit) (hd : s.dead = false) {a k : Nat} (h : a + k ≤ s.l.length) :
    ∃ A w', C 22 #[.pointer (some ⟨M, 0, none⟩), .int .i64 a, .int .i64 k] w = some (.tuple #[.slice A k k, .int .i64 0], w') ∧
      Sat W (clipA 5 1 (.slice A k k) k (bv ((s.l.drop a).take k)) * (medA M { s with g := s.g ++ [((a : Int), (k : Int))] } * X)) w' := by
  obtain ⟨v, w', k1, x1⟩ := m_read x hf a k
  have hr : s.read a k = ((s.l.drop a).take k, 0, { s with g := s.g ++ [((a : Int), (k : Int))] }) := by
    have hi : inr (a : Int) k s.l.length := ⟨by omega, by omega, by omega, by omega⟩
    simp [Pm.read, hd, hi]
  rw [hr] at k1 x1
  have hl : ((s.l.drop a).take k).length = k := by simp; omega
  rw [hl] at x1
  obtain ⟨A, c, e, _, _⟩ := x1.clip
  subst e
  exact ⟨A, w', f22.run rfl (by simp [f22, k1]), x1⟩
theorem LB_rd {w : World} {a : Addr} (hr : Rd w (some a) (bv LB)) : w.cell? (a.add 5) = some (.int .u8 2) ∧ w.cell? (a.add 6) = some (.int .u8 1) ∧ Rd w (some (a.add 7)) (bv [97]) ∧ Rd w (some (a.add 8)) (bv (LB.drop 8)) ∧ Rd w (some a) (bv labB) := by
  obtain ⟨T, e⟩ := LB_eq
  refine ⟨hr 5 _ (by rw [e]; rfl), hr 6 _ (by rw [e]; rfl), ?_, ?_, ?_⟩
  · have := hr.part 7 1
    rwa [← bv_drop, ← bv_take, e] at this
  · have := hr.part 8 32
    rw [← bv_drop, ← bv_take, List.take_of_length_le (by rw [List.length_drop, LB_len]; omega)] at this
    exact this
  · have := hr.take 16
    rwa [← bv_take, LB_lab] at this
theorem al25 (w : World) : erun Tryd.prog (Instr.alloc 25 true (.tuple #[])) w = some (.pointer (some ⟨w.heap.size, 0, none⟩), w.alloc (.cells #[st [], .int .i64 0, .int .i64 0] 25)) := id (by kernel_rfl)
def c25 : List Value := [st [97], .int .i64 2, .int .i64 0]
def z25 : List Value := [st [], .int .i64 0, .int .i64 0]
theorem ld_lab' {w : World} {b : Nat} (x : Sat W (blkA b 25 c25 * X) w) : rrun Tryd.prog (Instr.loadAt 25 (.pointer (some ⟨b, 0, none⟩))) w = some lab := ld_lab x
theorem st_lab {w : World} {b : Nat} (x : Sat W (blkA b 25 z25 * X) w) : ∃ w', erun Tryd.prog (Instr.storeAt 25 (.pointer (some ⟨b, 0, none⟩)) lab) w = some ((), w') ∧ Sat W (blkA b 25 c25 * X) w' :=
  x.storeAll (P := Tryd.prog) inf25 (o := 0) (v := lab) (vs := c25) (cs' := c25) rfl (by rw [size25]; rfl) (by simp [c25, z25]) (by simp [c25, Value.oneCell']) (by simp [c25, z25])
theorem lab_k3 {w : World} {V b : Nat} {Rt : List Value → World → Prop} (x : Sat W (blkA V 25 z25 * (blkA b 25 c25 * X)) w) (hRt : ∀ w', Sat W (blkA V 25 c25 * (blkA b 25 c25 * X)) w' → Rt [.pointer (some ⟨V, 0, none⟩), .int .i64 16, .int .i64 0] w') :
    f19.k3 C Rt [.pointer (some ⟨V, 0, none⟩), .int .i64 16, .pointer (some ⟨b, 0, none⟩), .bool false] w := by
  have l1 := ld_lab' x.swap
  obtain ⟨w2, k2, x2⟩ := st_lab x
  have hR := hRt w2 x2
  unfold f19.k3
  simp [l1, k2, after, hR]
theorem lab_k2 {w : World} {V b : Nat} {a : Addr} {Rt : List Value → World → Prop} (x : Sat W (blkA V 25 z25 * (blkA b 25 c25 * (clipA 5 1 (.slice (some a) 40 40) 40 (bv LB) * X))) w) (hRt : ∀ w', Sat W (blkA V 25 c25 * X) w' → Rt [.pointer (some ⟨V, 0, none⟩), .int .i64 16, .int .i64 0] w') :
    f19.k2 C Rt [.pointer (some ⟨V, 0, none⟩), .slice (some a) 40 40, .int .i64 16, .pointer (some ⟨b, 0, none⟩)] w := by
  have x := x.drew
  obtain ⟨wd, hwd⟩ : ∃ wd, wd = w.drew := ⟨_, rfl⟩
  have l1 := ld_lab' x.swap
  obtain ⟨w2, k2, g2⟩ := may_ok w.drew
  have x2 := x.grown g2
  have l2 := ld_lab' x2.swap
  have s2 : prun Tryd.prog (Instr.sliceAt 44 (.slice (some a) 40 40) none (some (.int .i64 16)) none) = some (.slice (some a) 16 40) := by
    have := sl44 (some a) 40 40 none (some (.int .i64 16)) none 0 16 40 (bounds_hi 40 40 .i64 16 (by decide) (by decide))
    simpa [addL] using this
  have lc := label_calls x2 (t := [97]) (rb := 2) (s := 0) (by decide) (by decide)
  unfold f19.k2
  refine ⟨rfl, rfl, by decide, by decide, by decide, rfl, by decide, rfl, ?_⟩
  simp only [nth]
  show Option.bind (rrun Tryd.prog (Instr.loadAt 25 (.pointer (some ⟨b, 0, none⟩))) w.drew) _ = _
  rw [l1]
  show Option.bind (C 14 #[lab] w.drew) _ = _
  rw [k2]
  show okIf w.drew _ = _
  rw [okIf_iff]
  show Option.bind _ _ = _
  rw [s2]
  show Option.bind _ _ = _
  rw [l2]
  show okIf w.drew _ = _
  rw [okIf_iff]
  refine ⟨enter16 _ _, lc.mono ?_⟩
  rintro e w4 ⟨v, rfl, x4⟩
  refine ⟨v, rfl, ?_⟩
  have x4 : Sat W (rowA 5 1 v 16 (bv labB) * (blkA V 25 z25 * (blkA b 25 c25 * (clipA 5 1 (.slice (some a) 40 40) 40 (bv LB) * X)))) w4 := x4
  have hrow := x4.row
  obtain ⟨A, c, rfl, hc, _⟩ := own_form hrow
  have r1 : Rd w4 A (bv labB) := Rd.owned hrow
  have r2 := (LB_rd (clip_rd (x4.eq (by ac_rfl : _ = clipA 5 1 (.slice (some a) 40 40) 40 (bv LB) * (rowA 5 1 (.slice A 16 c) 16 (bv labB) * (blkA V 25 z25 * (blkA b 25 c25 * X))))))).2.2.2.2
  have k4 := equal_ok (c := c) (d := 40) r1 labB_len r2 labB_len
  rw [beq_self_eq_true] at k4
  have hk3 := lab_k3 (Rt := Rt) x4.right fun w' x' => hRt w' (x'.eq (by ac_rfl : _ = (blkA b 25 c25 * clipA 5 1 (.slice (some a) 40 40) 40 (bv LB)) * (blkA V 25 c25 * X))).right
  simp [k4, hk3]
theorem lab_k1 {w : World} {V : Nat} {a : Addr} {Rt : List Value → World → Prop} (x : Sat W (blkA V 25 z25 * (clipA 5 1 (.slice (some a) 40 40) 40 (bv LB) * X)) w) (hRt : ∀ w', Sat W (blkA V 25 c25 * X) w' → Rt [.pointer (some ⟨V, 0, none⟩), .int .i64 16, .int .i64 0] w') :
    f19.k1 C Rt [.pointer (some ⟨V, 0, none⟩), .slice (some a) 40 40, .int .i64 1, .int .i64 16] w := by
  have x := x.drew
  have x1 := x.newBlk 25 z25
  have a1 := al25 w.drew
  obtain ⟨w1, hw1⟩ : ∃ w1, w1 = w.drew.alloc (.cells #[st [], .int .i64 0, .int .i64 0] 25) := ⟨_, rfl⟩
  obtain ⟨b, hb⟩ : ∃ b, b = w.drew.heap.size := ⟨_, rfl⟩
  rw [← hw1, ← hb] at a1
  have x1 : Sat W (blkA b 25 z25 * (blkA V 25 z25 * (clipA 5 1 (.slice (some a) 40 40) 40 (bv LB) * X))) w1 := by rw [hb, hw1]; exact x1
  obtain ⟨c5, c6, r7, r8, r0⟩ := LB_rd (clip_rd x.swap)
  obtain ⟨d5, d6, s7, s8, s0⟩ := LB_rd (clip_rd (x1.eq (by ac_rfl : _ = clipA 5 1 (.slice (some a) 40 40) 40 (bv LB) * (blkA b 25 z25 * (blkA V 25 z25 * X)))))
  have sl1 : prun Tryd.prog (Instr.sliceAt 44 (.slice (some a) 40 40) (some (.int .i64 7)) (some (.int .i64 8)) none) = some (.slice (some (a.add 7)) 1 33) := by
    have := sl44 (some a) 40 40 (some (.int .i64 7)) (some (.int .i64 8)) none 7 8 40 (bounds_lohi 40 40 .i64 .i64 7 8 (by decide) (by decide) (by decide))
    simpa using this
  have sl2 : prun Tryd.prog (Instr.sliceAt 44 (.slice (some a) 40 40) (some (.int .i64 8)) none none) = some (.slice (some (a.add 8)) 32 32) := by
    have := sl44 (some a) 40 40 (some (.int .i64 8)) none none 8 40 40 (bounds_lo 40 40 .i64 8 (by decide) (by decide))
    simpa using this
  have i5 : prun Tryd.prog (Instr.indexAt 44 (.slice (some a) 40 40) (.int .i64 5)) = some (.pointer (some (a.add 5))) := by
    have := ix44 a 40 40 .i64 5 (by decide) (by decide)
    simpa using this
  have t1 := tx44_9 (A := some (a.add 7)) (c := 33) (l := [97]) (n := 1) rfl r7
  have t2 := tx44_9 (A := some (a.add 7)) (c := 33) (l := [97]) (n := 1) rfl s7
  have hn : num ((LB.drop 8).take 4) = 0 := by
    obtain ⟨T, e⟩ := LB_eq
    rw [e]; rfl
  have n1 := number_ok (c := 32) r8 (n := 32) (by rw [List.length_drop, LB_len]; omega) (by rw [List.length_drop, LB_len]) (by omega) (by decide)
  have n2 := number_ok (c := 32) s8 (n := 32) (by rw [List.length_drop, LB_len]; omega) (by rw [List.length_drop, LB_len]) (by omega) (by decide)
  rw [hn] at n1 n2
  have n1 : C 29 #[.slice (some (a.add 8)) 32 32] w.drew = some (.int .i64 0, w.drew) := n1
  have n2 : C 29 #[.slice (some (a.add 8)) 32 32] w1 = some (.int .i64 0, w1) := n2
  have cv : prun Tryd.prog (convert 5 23 (.int .u8 2)) = some (.int .i64 2) := id (by kernel_rfl)
  have bd : prun Tryd.prog (Instr.build 25 #[(0, st [97]), (1, .int .i64 2), (2, .int .i64 0)]) = some lab := id (by kernel_rfl)
  obtain ⟨w2, k2, x2⟩ := st_lab x1
  have hk2 := lab_k2 (Rt := Rt) x2.swap fun w' x' => hRt w' x'
  have e97 : (Value.string ⟨([97] : List UInt8).toArray⟩) = st [97] := rfl
  rw [e97] at t1 t2
  have c5 : w.cell? (a.add 5) = some (.int .u8 2) := c5
  have w8 : IntKind.i64.wrap 8 = 8 := by decide
  unfold f19.k1
  refine ⟨rfl, ?_, ?_, trivial⟩
  · simp [w8, a1, sl1, sl2, i5, t1, t2, n1, n2, cv, bd, k2, c5, d5, hk2]
  · simp [w8, a1, sl1, sl2, i5, t1, t2, n1, n2, cv, bd, k2, c5, d5, hk2]
theorem lab_k0 {w : World} {V : Nat} {a : Addr} {Rt : List Value → World → Prop} (x : Sat W (blkA V 25 z25 * (clipA 5 1 (.slice (some a) 40 40) 40 (bv LB) * X)) w) (hRt : ∀ w', Sat W (blkA V 25 c25 * X) w' → Rt [.pointer (some ⟨V, 0, none⟩), .int .i64 16, .int .i64 0] w') :
    f19.k0 C Rt [.pointer (some ⟨V, 0, none⟩), .slice (some a) 40 40] w := by
  obtain ⟨c5, c6, r7, r8, r0⟩ := LB_rd (clip_rd x.swap)
  have i6 : prun Tryd.prog (Instr.indexAt 44 (.slice (some a) 40 40) (.int .i64 6)) = some (.pointer (some (a.add 6))) := by
    have := ix44 a 40 40 .i64 6 (by decide) (by decide)
    simpa using this
  have cv : prun Tryd.prog (convert 5 3 (.int .u8 1)) = some (.int .i64 1) := id (by kernel_rfl)
  have w8 : IntKind.i64.wrap 8 = 8 := by decide
  have w16 : IntKind.i64.wrap 16 = 16 := by decide
  have hk1 := lab_k1 (Rt := Rt) x hRt
  unfold f19.k0
  simp [i6, c6, cv, w8, w16, after, hk1]
theorem label_read {w : World} {M : Nat} {g : List (Int × Int)} (hg : g.length ≤ 1000) {Rt : List Value → World → Prop} (x : Sat W (medA M (Sg g) * X) w) (hRt : ∀ V w', Sat W (blkA V 25 c25 * (medA M (Sg (g ++ [(0, 40)])) * X)) w' → Rt [.pointer (some ⟨V, 0, none⟩), .int .i64 16, .int .i64 0] w') :
    f19.w C Rt (.pointer (some ⟨M, 0, none⟩)) w := by
  have x1 := x.newBlk 25 z25
  have a1 := al25 w
  obtain ⟨w1, hw1⟩ : ∃ w1, w1 = w.alloc (.cells #[st [], .int .i64 0, .int .i64 0] 25) := ⟨_, rfl⟩
  obtain ⟨V, hV⟩ : ∃ b, b = w.heap.size := ⟨_, rfl⟩
  rw [← hw1, ← hV] at a1
  have x1 : Sat W (blkA V 25 z25 * (medA M (Sg g) * X)) w1 := by rw [hV, hw1]; exact x1
  obtain ⟨w2, k2, x2⟩ := m_size x1.swap
  have k2 : C 10 #[.pointer (some ⟨M, 0, none⟩)] w1 = some (.int .i64 40, w2) := by
    rw [k2]
    simp [Sg, LB_len]
  obtain ⟨A, w3, k3, x3⟩ := reads x2 (Sg_fit hg) rfl (a := 0) (k := 40) (by simp [Sg, LB_len])
  have k3 : C 22 #[.pointer (some ⟨M, 0, none⟩), .int .i64 0, .int .i64 40] w2 = some (.tuple #[.slice A 40 40, .int .i64 0], w3) := k3
  have x3 : Sat W (clipA 5 1 (.slice A 40 40) 40 (bv LB) * (medA M (Sg (g ++ [(0, 40)])) * (blkA V 25 z25 * X))) w3 := by
    have e : ((Sg g).l.drop 0).take 40 = LB := List.take_of_length_le (by simp [Sg, LB_len])
    rw [e] at x3
    exact x3
  have mn : prun Tryd.prog (Builtin.min_ #[3, 3] 3 #[.int .i64 115, .int .i64 40]) = some (.int .i64 40) := id (by kernel_rfl)
  cases A with
  | none =>
    have := clip_rd x3
    have h : bv LB = [] := this
    have h2 := congrArg List.length h
    rw [bv_length, LB_len] at h2
    cases h2
  | some a =>
    have hk0 := lab_k0 (Rt := Rt) (x3.eq (by ac_rfl : _ = blkA V 25 z25 * (clipA 5 1 (.slice (some a) 40 40) 40 (bv LB) * (medA M (Sg (g ++ [(0, 40)])) * X)))) fun w' x' => hRt V w' x'
    unfold f19.w
    simp [a1, k2, mn, k3, after, hk0]
theorem enter19 (args : Array Value) (w : World) : (callFunc 19 args).run Tryd.prog w = .ok (.enter 19 args) w := by kernel_rfl
theorem readLabel_calls {w : World} {M : Nat} {g : List (Int × Int)} (hg : g.length ≤ 1000) (x : Sat W (medA M (Sg g) * X) w) : Calls Tryd.prog 19 #[.pointer (some ⟨M, 0, none⟩)] w fun e w' => ∃ v, e = .returned v ∧ v = .tuple #[lab, .int .i64 16, .int .i64 0] ∧ Sat W (medA M (Sg (g ++ [(0, 40)])) * X) w' := by
  have key := label_read (Rt := fun vs w' => hold (Res.doneR Tryd.prog [.cell 2 25, .tmp 3, .tmp 4] (.ret vs w')) fun r => (fun v w' => v = Value.tuple #[lab, .int .i64 16, .int .i64 0] ∧ Sat W (medA M (Sg (g ++ [(0, 40)])) * X) w') r.1 r.2) hg x fun V w' h => by
    have l := ld_lab' h
    simp [l]
    exact h.right
  rw [← f19.weq] at key
  exact calls_of_wR' (rs := [2, 3, 4]) (ann := anns) (prim := mu) (by kernel_rfl) mu_ok (fn := Tryd.f19) (c := Tryd.f19.body.getD .skip) (vars := [.cell 2 25, .tmp 3, .tmp 4]) Tryd.func19 (by kernel_rfl) (by kernel_rfl) (by kernel_rfl) (x := f19.wann) (Q := fun v w' => v = Value.tuple #[lab, .int .i64 16, .int .i64 0] ∧ Sat W (medA M (Sg (g ++ [(0, 40)])) * X) w') key
end
end Go.Sh.YtodkllcibbidoaaDoor

namespace Go.Sh
open Go
/-- an object of the heap, of any kind -/
def objA {base : Nat} (k : Nat) (o : Obj) : Asn base := ⟨fun S w => w.heap[k]? = some o ∧ base ≤ k ∧ S = fun j => j = k,
  fun ⟨h, hb, h3⟩ hg hs => ⟨by rw [hg.block k ((Array.getElem?_eq_some_iff.mp h).1) (hs _ (by rw [h3]))]; exact h, hb, h3⟩,
  fun ⟨h, hb, h3⟩ k hk => by rw [h3] at hk; subst hk; exact ⟨hb, (Array.getElem?_eq_some_iff.mp h).1⟩⟩
section
variable {W w : World} {X : Asn W.heap.size}
theorem Sat.newObj (x : Sat W X w) (o : Obj) : Sat W (objA w.heap.size o * X) (w.alloc o) := by
  have hg : w.grownBy (w.alloc o) none := World.grownBy_alloc w o none
  obtain ⟨g, S, x⟩ := x
  refine ⟨g.step (grew_new hg), fun k => k = w.heap.size ∨ S k, fun k => k = w.heap.size, S, fun k hk hs => by have := (X.rng x k hs).2; omega, rfl, ⟨by show (w.heap.push o)[w.heap.size]? = _; simp, g.size, rfl⟩, X.frame x (grew_new (S := fun _ => False) hg) fun k _ h => h⟩
theorem Sat.obj {k : Nat} {o : Obj} (x : Sat W (objA k o * X) w) : w.heap[k]? = some o := by
  obtain ⟨_, S, h, _⟩ := x.left
  exact h
theorem Sat.putObj {k : Nat} {o : Obj} (x : Sat W (objA k o * X) w) (o' : Obj) : Sat W (objA k o' * X) (w.putObj k o') := by
  obtain ⟨g, S, A, B, d, e, ⟨p, hb, hA⟩, q⟩ := x
  subst hA
  have hg : Grew (fun j => j = k) w (w.putObj k o') := grew_of (grownBy_putObj' w k o') fun j hj => by cases hj; exact .inl rfl
  refine ⟨g.trans hg fun j hk => .inr (by subst hk; exact hb), fun j => j = k ∨ B j, fun j => j = k, B, d, rfl, ⟨World.putObj_heap_same (Array.getElem?_eq_some_iff.mp p).1, hb, rfl⟩, X.frame q hg fun j hB hk => d j hk hB⟩
end
end Go.Sh
namespace Go.Sh.YtodkllcibbidoaaDoor
open Go Go.Proofs Go.RowKit Go.Lib
set_option linter.unusedVariables false
set_option linter.unusedSimpArgs false
set_option maxRecDepth 100000
section
variable {W : World} {X : Asn W.heap.size}
/-- a reel, as cells -/
def reelC (M : Nat) (fin : Bool) (beh : Int) : List Value := [.pointer (some ⟨M, 0, none⟩), st [97], .int .i64 2, .int .i64 0, .slice none 0 0, .bool fin, .int .i64 beh]
theorem box31 (v : Addr) (w : World) : erun Tryd.prog (Instr.box 31 (.pointer (some v))) w = some (.pointer (some ⟨w.heap.size, 0, none⟩), w.alloc (.cells #[.pointer (some v)] 31)) := id (by kernel_rfl)
theorem box57 (v : Addr) (w : World) : erun Tryd.prog (Instr.box 57 (.pointer (some v))) w = some (.pointer (some ⟨w.heap.size, 0, none⟩), w.alloc (.cells #[.pointer (some v)] 57)) := id (by kernel_rfl)
theorem box3 (i : Int) (w : World) : erun Tryd.prog (Instr.box 3 (.int .i64 i)) w = some (.pointer (some ⟨w.heap.size, 0, none⟩), w.alloc (.cells #[.int .i64 i] 3)) := id (by kernel_rfl)
theorem chain_ok {w : World} (x : Sat W X w) (B E : Addr) (i : Int) : ∃ c3 c4 c5 w', C 20 #[.pointer (some B), .int .i64 i, .pointer (some E)] w = some (.func (.func 30) #[] #[.pointer (some ⟨c4, 0, none⟩), .pointer (some ⟨c3, 0, none⟩), .pointer (some ⟨c5, 0, none⟩)], w') ∧
    Sat W (blkA c5 57 [.pointer (some E)] * (blkA c4 3 [.int .i64 i] * (blkA c3 31 [.pointer (some B)] * X))) w' := by
  have x1 := x.newBlk 31 [.pointer (some B)]
  have x2 := x1.newBlk 3 [.int .i64 i]
  have x3 := x2.newBlk 57 [.pointer (some E)]
  exact ⟨_, _, _, _, f20.run rfl (by simp [f20, box31, box3, box57]), x3⟩
theorem endA_head : ∃ T, endA.take 16 = 73 :: T := ⟨_, rfl⟩
theorem chain1_ok {w : World} {M B c3 c4 c5 : Nat} {E : Addr} {g : List (Int × Int)} (hg : g.length ≤ 1000) (n : Nat) (x : Sat W (blkA c5 57 [.pointer (some E)] * (blkA c4 3 [.int .i64 16] * (blkA c3 31 [.pointer (some ⟨B, 0, none⟩)] * (blkA B 50 (reelC M false 0) * (medA M (Sg g) * X))))) w) :
    ∃ w', C 30 #[.func (.yield n) #[] #[], .pointer (some ⟨c4, 0, none⟩), .pointer (some ⟨c3, 0, none⟩), .pointer (some ⟨c5, 0, none⟩)] w = some (.tuple #[], w') ∧ Sat W (blkA B 50 (reelC M false 16) * (medA M (Sg (g ++ [(16, 16)])) * X)) w' := by
  have a1 := x.swap3.cell 0 (v := .pointer (some ⟨B, 0, none⟩)) rfl
  have a2 := x.swap.cell 0 (v := .int .i64 16) rfl
  have x0 := x.eq (by ac_rfl : _ = blkA B 50 (reelC M false 0) * (blkA c5 57 [.pointer (some E)] * (blkA c4 3 [.int .i64 16] * (blkA c3 31 [.pointer (some ⟨B, 0, none⟩)] * (medA M (Sg g) * X)))))
  have a3 := st3 (a := ⟨B, 6, none⟩) (v := .int .i64 16) rfl rfl (x0.cell 6 (v := .int .i64 0) rfl) (x0.frozen 6)
  have x1 := x0.store (cs' := reelC M false 16) 6 (.int .i64 16) rfl
  obtain ⟨w1, hw1⟩ : ∃ w1, w1 = w.setCell ⟨B, 6, none⟩ (.int .i64 16) := ⟨_, rfl⟩
  rw [← hw1] at a3 x1
  have x1 := x1.drew
  have b1 : w1.cell? ⟨c3, 0, none⟩ = some (.pointer (some ⟨B, 0, none⟩)) := (x1.eq (by ac_rfl : _ = blkA c3 31 [.pointer (some ⟨B, 0, none⟩)] * (blkA B 50 (reelC M false 16) * (blkA c5 57 [.pointer (some E)] * (blkA c4 3 [.int .i64 16] * (medA M (Sg g) * X)))))).cell 0 rfl
  have b2 : w1.cell? ⟨B, 0, none⟩ = some (.pointer (some ⟨M, 0, none⟩)) := x1.cell 0 rfl
  have b3 : w1.cell? ⟨c4, 0, none⟩ = some (.int .i64 16) := (x1.eq (by ac_rfl : _ = blkA c4 3 [.int .i64 16] * (blkA B 50 (reelC M false 16) * (blkA c5 57 [.pointer (some E)] * (blkA c3 31 [.pointer (some ⟨B, 0, none⟩)] * (medA M (Sg g) * X)))))).cell 0 rfl
  obtain ⟨A, w2, k2, x2⟩ := reads (x1.eq (by ac_rfl : _ = medA M (Sg g) * (blkA c3 31 [.pointer (some ⟨B, 0, none⟩)] * (blkA B 50 (reelC M false 16) * (blkA c5 57 [.pointer (some E)] * (blkA c4 3 [.int .i64 16] * X)))))) (Sg_fit hg) rfl (a := 16) (k := 16) (by simp [Sg, LB_len])
  have e : ((Sg g).l.drop 16).take 16 = endA.take 16 := by show (LB.drop 16).take 16 = _; rw [LB_end]
  rw [e] at x2
  have k2 : C 22 #[.pointer (some ⟨M, 0, none⟩), .int .i64 16, .int .i64 16] w1.drew = some (.tuple #[.slice A 16 16, .int .i64 0], w2) := k2
  have hl : (endA.take 16).length = 16 := by rw [List.length_take, endA_len]; rfl
  have r2 := clip_rd x2
  cases A with
  | none =>
    have h : bv (endA.take 16) = [] := r2
    have h2 := congrArg List.length h
    rw [bv_length, hl] at h2
    cases h2
  | some a =>
    have sl2 : prun Tryd.prog (Instr.sliceAt 44 (.slice (some a) 16 16) (some (.int .i64 8)) none none) = some (.slice (some (a.add 8)) 8 8) := by
      have := sl44 (some a) 16 16 (some (.int .i64 8)) none none 8 16 16 (bounds_lo 16 16 .i64 8 (by decide) (by decide))
      simpa using this
    have r8 : Rd w2 (some (a.add 8)) (bv ((endA.take 16).drop 8)) := by
      have := r2.part 8 8
      rw [← bv_drop, ← bv_take, List.take_of_length_le (by rw [List.length_drop, hl]; omega)] at this
      exact this
    have k3 := number_ok (c := 8) r8 (n := 8) (by rw [List.length_drop, hl]; omega) (by rw [List.length_drop, hl]) (by omega) (by decide)
    obtain ⟨N, hN⟩ : ∃ N, N = num (((endA.take 16).drop 8).take 4) := ⟨_, rfl⟩
    rw [← hN] at k3
    have hNl : N < 4294967296 := by
      have := num_lt (((endA.take 16).drop 8).take 4)
      rw [← hN, show (((endA.take 16).drop 8).take 4).length = 4 by rw [List.length_take, List.length_drop, hl]; rfl] at this
      exact this
    obtain ⟨v4, w4, k4, x4⟩ := link_ok x2.drew (i := 0) (n := N) (by omega) hNl
    have k4 : C 31 #[.int .i64 0, .int .i64 N] w2.drew = some (v4, w4) := k4
    have hrow := x4.row
    obtain ⟨A4, c4', rfl, hc4, _⟩ := own_form hrow
    have r4 : Rd w4 A4 (bv (linkB 0 N)) := Rd.owned hrow
    have r5 := clip_rd x4.swap
    have hll : (linkB 0 N).length = 16 := by unfold linkB; rw [sm_len]; simp [be4_len]
    have k5 := equal_ok (c := 16) (d := c4') r5 hl r4 hll
    have hne : (endA.take 16 == linkB 0 N) = false := by
      obtain ⟨T, e⟩ := endA_head
      rw [e]
      rfl
    rw [hne] at k5
    refine ⟨w4, f30.run rfl ?_, ?_⟩
    · simp [f30, addL, a1, a2, a3, b1, b2, b3, k2, sl2, k3, k4, k5, wantedV]
    · exact (x4.eq (by ac_rfl : _ = (rowA 5 1 (.slice A4 16 c4') 16 (bv (linkB 0 N)) * (clipA 5 1 (.slice (some a) 16 16) 16 (bv (endA.take 16)) * (blkA c3 31 [.pointer (some ⟨B, 0, none⟩)] * (blkA c5 57 [.pointer (some E)] * blkA c4 3 [.int .i64 16])))) * (blkA B 50 (reelC M false 16) * (medA M (Sg (g ++ [(16, 16)])) * X)))).right
end
end Go.Sh.YtodkllcibbidoaaDoor

namespace Go.Sh.YtodkllcibbidoaaDoor
open Go Go.Proofs Go.RowKit Go.Lib
set_option linter.unusedVariables false
set_option linter.unusedSimpArgs false
set_option maxRecDepth 100000
section
variable {W : World} {X : Asn W.heap.size}
theorem al27 (w : World) : erun Tryd.prog (Instr.alloc 27 true (.tuple #[])) w = some (.pointer (some ⟨w.heap.size, 0, none⟩), w.alloc (.cells #[.int .i64 0] 27)) := id (by kernel_rfl)
theorem al31 (w : World) : erun Tryd.prog (Instr.alloc 31 true (.tuple #[])) w = some (.pointer (some ⟨w.heap.size, 0, none⟩), w.alloc (.cells #[.pointer none] 31)) := id (by kernel_rfl)
theorem bx50 (M : Nat) (w : World) : erun Tryd.prog (Instr.box 50 (.agg (reelC M false 0).toArray)) w = some (.pointer (some ⟨w.heap.size, 0, none⟩), w.alloc (.cells (reelC M false 0).toArray 50)) := id (by kernel_rfl)
theorem bd50 (M : Nat) : prun Tryd.prog (Instr.build 50 #[(0, .pointer (some ⟨M, 0, none⟩)), (1, lab)]) = some (.agg (reelC M false 0).toArray) := id (by kernel_rfl)
theorem open_k3 {w : World} {M B R E : Nat} {g : List (Int × Int)} (hg : g.length ≤ 1000) {Rt : List Value → World → Prop} (x : Sat W (blkA R 31 [.pointer (some ⟨B, 0, none⟩)] * (blkA E 27 [.int .i64 0] * (blkA B 50 (reelC M false 16) * (medA M (Sg g) * X)))) w)
    (hRt : ∀ w', Sat W (blkA B 50 (reelC M true 16) * X) w' → Rt [.pointer (some ⟨B, 0, none⟩), .int .i64 0] w') :
    f8.k3 C Rt [.pointer (some ⟨M, 0, none⟩), .pointer (some ⟨E, 0, none⟩), .pointer (some ⟨R, 0, none⟩)] w := by
  have x := x.drew
  have a1 : w.cell? ⟨E, 0, none⟩ = some (.int .i64 0) := x.swap.cell 0 rfl
  have a2 : w.cell? ⟨R, 0, none⟩ = some (.pointer (some ⟨B, 0, none⟩)) := x.cell 0 rfl
  have a3 : w.cell? ⟨B, 4, none⟩ = some (.slice none 0 0) := x.swap3.cell 4 rfl
  have a4 : w.cell? ⟨B, 6, none⟩ = some (.int .i64 16) := x.swap3.cell 6 rfl
  obtain ⟨v1, w1, k1, x1⟩ := end_ok x (at_ := 16) (by omega)
  have k1 : C 21 #[.slice none 0 0, .int .i64 16] w.drew = some (v1, w1) := k1
  have hrow := x1.row
  obtain ⟨A, c, rfl, hc, _⟩ := own_form hrow
  obtain ⟨w2, k2, x2⟩ := m_size (x1.drew.eq (by ac_rfl : _ = medA M (Sg g) * (rowA 5 1 (.slice A 24 c) 24 (bv (endB 16)) * (blkA R 31 [.pointer (some ⟨B, 0, none⟩)] * (blkA E 27 [.int .i64 0] * (blkA B 50 (reelC M false 16) * X))))))
  have k2 : C 10 #[.pointer (some ⟨M, 0, none⟩)] w1.drew = some (.int .i64 40, w2) := by
    rw [k2]
    simp [Sg, LB_len]
  have x1' := x1.eq (by ac_rfl : _ = blkA R 31 [.pointer (some ⟨B, 0, none⟩)] * (blkA B 50 (reelC M false 16) * (rowA 5 1 (.slice A 24 c) 24 (bv (endB 16)) * (medA M (Sg g) * (blkA E 27 [.int .i64 0] * X)))))
  have b1 : w1.cell? ⟨R, 0, none⟩ = some (.pointer (some ⟨B, 0, none⟩)) := x1'.cell 0 rfl
  have b2 : w1.cell? ⟨B, 6, none⟩ = some (.int .i64 16) := x1'.swap.cell 6 rfl
  have x2' := x2.eq (by ac_rfl : _ = blkA R 31 [.pointer (some ⟨B, 0, none⟩)] * (blkA B 50 (reelC M false 16) * (rowA 5 1 (.slice A 24 c) 24 (bv (endB 16)) * (medA M (Sg g) * (blkA E 27 [.int .i64 0] * X)))))
  have c1 : w2.cell? ⟨R, 0, none⟩ = some (.pointer (some ⟨B, 0, none⟩)) := x2'.cell 0 rfl
  have c2 : w2.cell? ⟨B, 6, none⟩ = some (.int .i64 16) := x2'.swap.cell 6 rfl
  have w24 : IntKind.i64.wrap 24 = 24 := by decide
  obtain ⟨A3, w3, k3, x3⟩ := reads x2 (Sg_fit hg) rfl (a := 16) (k := 24) (by simp [Sg, LB_len])
  have k3 : C 22 #[.pointer (some ⟨M, 0, none⟩), .int .i64 16, .int .i64 24] w2 = some (.tuple #[.slice A3 24 24, .int .i64 0], w3) := k3
  have e : ((Sg g).l.drop 16).take 24 = endB 16 := by
    show (LB.drop 16).take 24 = endA
    rw [LB_end]
    exact List.take_of_length_le (by rw [endA_len]; omega)
  rw [e] at x3
  have x3' := x3.eq (by ac_rfl : _ = blkA R 31 [.pointer (some ⟨B, 0, none⟩)] * (blkA B 50 (reelC M false 16) * (rowA 5 1 (.slice A 24 c) 24 (bv (endB 16)) * (clipA 5 1 (.slice A3 24 24) 24 (bv (endB 16)) * (medA M { Sg g with g := (Sg g).g ++ [((16 : Int), (24 : Int))] } * (blkA E 27 [.int .i64 0] * X))))))
  have d1 : w3.cell? ⟨R, 0, none⟩ = some (.pointer (some ⟨B, 0, none⟩)) := x3'.cell 0 rfl
  have r1 : Rd w3.drew A3 (bv (endB 16)) := clip_rd x3.drew
  have r2 : Rd w3.drew A (bv (endB 16)) := Rd.owned x3'.swap3.drew.row
  have el : (endB 16).length = 24 := endA_len
  have k4 := equal_ok (c := 24) (d := c) r1 el r2 el
  rw [beq_self_eq_true] at k4
  have d5 : w3.cell? ⟨B, 5, none⟩ = some (.bool false) := x3'.swap.cell 5 rfl
  have s5 := st4 (w := w3.drew) (a := ⟨B, 5, none⟩) (v := .bool true) rfl rfl d5 (x3'.drew.swap.frozen 5)
  have x5 := x3'.drew.swap.store (cs' := reelC M true 16) 5 (.bool true) rfl
  obtain ⟨w5, hw5⟩ : ∃ w5, w5 = w3.drew.setCell ⟨B, 5, none⟩ (.bool true) := ⟨_, rfl⟩
  rw [← hw5] at s5 x5
  have f1 : w5.cell? ⟨R, 0, none⟩ = some (.pointer (some ⟨B, 0, none⟩)) := x5.swap.cell 0 rfl
  have hR := hRt w5 (x5.eq (by ac_rfl : _ = (blkA R 31 [.pointer (some ⟨B, 0, none⟩)] * (rowA 5 1 (.slice A 24 c) 24 (bv (endB 16)) * (clipA 5 1 (.slice A3 24 24) 24 (bv (endB 16)) * (medA M { Sg g with g := (Sg g).g ++ [((16 : Int), (24 : Int))] } * blkA E 27 [.int .i64 0])))) * (blkA B 50 (reelC M true 16) * X))).right
  unfold f8.k3
  simp [addL, a1, a2, a3, a4, k1, k2, b1, b2, c1, c2, w24, k3, d1, k4, s5, f1, after, hR]
theorem enter30 (args : Array Value) (w : World) : (callFunc 30 args).run Tryd.prog w = .ok (.enter 30 args) w := by kernel_rfl
theorem range_func {P : Program} {call : CallF} {gf : FuncId} {lb args : Array Value} {w : World} {K : World → Prop} (h : ∀ args w, (callFunc gf args).run P w = .ok (.enter gf args) w) (ha : #[.func (.yield (w.heap.size + 1)) #[] #[]] ++ lb = args)
    (hk : ∀ r : Loop, hold (call gf args (rangeW w r)) fun p => p.2.heap[w.heap.size + 1]? = some (.loop r) ∧ K (p.2.putObj (w.heap.size + 1) (.loop { r with state := .exhausted }))) : rangeGo P call (.func (.func gf) #[] lb) w K := by
  unfold rangeGo
  refine ⟨rfl, h, fun r _ _ _ => ?_⟩
  rw [ha]
  exact hk r
theorem open_go {w4 : World} {M L E B R c3 c4 c5 : Nat} {g : List (Int × Int)} (hg : g.length ≤ 900) {Rt : List Value → World → Prop} (x4 : Sat W (blkA c5 57 [.pointer (some ⟨E, 0, none⟩)] * (blkA c4 3 [.int .i64 16] * (blkA c3 31 [.pointer (some ⟨B, 0, none⟩)] * (blkA R 31 [.pointer (some ⟨B, 0, none⟩)] * (blkA B 50 (reelC M false 0) * (blkA L 25 c25 * (blkA E 27 [.int .i64 0] * (medA M (Sg g) * X)))))))) w4)
    (hRt : ∀ B w', Sat W (blkA B 50 (reelC M true 16) * X) w' → Rt [.pointer (some ⟨B, 0, none⟩), .int .i64 0] w') :
    rangeGo Tryd.prog C (.func (.func 30) #[] #[.pointer (some ⟨c4, 0, none⟩), .pointer (some ⟨c3, 0, none⟩), .pointer (some ⟨c5, 0, none⟩)]) w4 fun W7 => (f8.k3 C (unmark w4 Rt)) [.pointer (some ⟨M, 0, none⟩), .pointer (some ⟨E, 0, none⟩), .pointer (some ⟨R, 0, none⟩)] W7 := by
  obtain ⟨D, hD⟩ : ∃ D, D = w4.heap.size := ⟨_, rfl⟩
  refine range_func (args := #[.func (.yield (w4.heap.size + 1)) #[] #[], .pointer (some ⟨c4, 0, none⟩), .pointer (some ⟨c3, 0, none⟩), .pointer (some ⟨c5, 0, none⟩)]) enter30 rfl fun r => ?_
  have x5 := x4.newObj (.deferred (some []))
  have x6 := x5.newObj (.loop r)
  have hs : (w4.alloc (.deferred (some []))).heap.size = w4.heap.size + 1 := by show (w4.heap.push _).size = _; simp
  obtain ⟨w6, hw6⟩ : ∃ w6, w6 = rangeW w4 r := ⟨_, rfl⟩
  have x6 : Sat W (objA (w4.heap.size + 1) (.loop r) * (objA w4.heap.size (.deferred (some [])) * (blkA c5 57 [.pointer (some ⟨E, 0, none⟩)] * (blkA c4 3 [.int .i64 16] * (blkA c3 31 [.pointer (some ⟨B, 0, none⟩)] * (blkA R 31 [.pointer (some ⟨B, 0, none⟩)] * (blkA B 50 (reelC M false 0) * (blkA L 25 c25 * (blkA E 27 [.int .i64 0] * (medA M (Sg g) * X)))))))))) w6 := by
    rw [hw6, ← hs]
    exact x6
  rw [← hw6]
  rw [← hD] at x6 ⊢
  obtain ⟨w7, k7, x7⟩ := chain1_ok (E := ⟨E, 0, none⟩) (by omega) (D + 1) (x6.eq (by ac_rfl : _ = blkA c5 57 [.pointer (some ⟨E, 0, none⟩)] * (blkA c4 3 [.int .i64 16] * (blkA c3 31 [.pointer (some ⟨B, 0, none⟩)] * (blkA B 50 (reelC M false 0) * (medA M (Sg g) * (objA (D + 1) (.loop r) * (objA D (.deferred (some [])) * (blkA R 31 [.pointer (some ⟨B, 0, none⟩)] * (blkA L 25 c25 * (blkA E 27 [.int .i64 0] * X)))))))))))
  rw [k7]
  have x7 := x7.eq (by ac_rfl : _ = objA (D + 1) (.loop r) * (objA D (.deferred (some [])) * (blkA R 31 [.pointer (some ⟨B, 0, none⟩)] * (blkA E 27 [.int .i64 0] * (blkA B 50 (reelC M false 16) * (medA M (Sg (g ++ [(16, 16)])) * (blkA L 25 c25 * X)))))))
  refine ⟨x7.obj, ?_⟩
  have x8 := x7.putObj (.loop { r with state := .exhausted })
  refine open_k3 (by simp; omega) (x8.eq (by ac_rfl : _ = blkA R 31 [.pointer (some ⟨B, 0, none⟩)] * (blkA E 27 [.int .i64 0] * (blkA B 50 (reelC M false 16) * (medA M (Sg (g ++ [(16, 16)])) * (objA D (.deferred (some [])) * (objA (D + 1) (.loop { r with state := .exhausted }) * (blkA L 25 c25 * X)))))))) fun w9 x9 => ?_
  have x9 := x9.eq (by ac_rfl : _ = objA D (.deferred (some [])) * (blkA B 50 (reelC M true 16) * (objA (D + 1) (.loop { r with state := .exhausted }) * (blkA L 25 c25 * X))))
  unfold unmark
  rw [← hD]
  refine ⟨x9.obj, hRt B _ ?_⟩
  exact ((x9.putObj (.deferred none)).eq (by ac_rfl : _ = (objA D (.deferred none) * (objA (D + 1) (.loop { r with state := .exhausted }) * blkA L 25 c25)) * (blkA B 50 (reelC M true 16) * X))).right
theorem open_k2 {w : World} {M L E : Nat} {g : List (Int × Int)} (hg : g.length ≤ 900) {Rt : List Value → World → Prop} (x : Sat W (blkA L 25 c25 * (blkA E 27 [.int .i64 0] * (medA M (Sg g) * X))) w)
    (hRt : ∀ B w', Sat W (blkA B 50 (reelC M true 16) * X) w' → Rt [.pointer (some ⟨B, 0, none⟩), .int .i64 0] w') :
    f8.k2 C Rt [.pointer (some ⟨M, 0, none⟩), .pointer (some ⟨L, 0, none⟩), .int .i64 16, .pointer (some ⟨E, 0, none⟩)] w := by
  have l1 := ld_lab' x
  have x1 := x.newBlk 50 (reelC M false 0)
  have k1 := bx50 M w
  obtain ⟨w1, hw1⟩ : ∃ w1, w1 = w.alloc (.cells (reelC M false 0).toArray 50) := ⟨_, rfl⟩
  obtain ⟨B, hB⟩ : ∃ b, b = w.heap.size := ⟨_, rfl⟩
  rw [← hw1, ← hB] at k1
  have x1 : Sat W (blkA B 50 (reelC M false 0) * (blkA L 25 c25 * (blkA E 27 [.int .i64 0] * (medA M (Sg g) * X)))) w1 := by rw [hB, hw1]; exact x1
  have x2 := x1.newBlk 31 [.pointer none]
  have k2 := al31 w1
  obtain ⟨w2, hw2⟩ : ∃ w2, w2 = w1.alloc (.cells #[.pointer none] 31) := ⟨_, rfl⟩
  obtain ⟨R, hR⟩ : ∃ b, b = w1.heap.size := ⟨_, rfl⟩
  rw [← hw2, ← hR] at k2
  have x2 : Sat W (blkA R 31 [.pointer none] * (blkA B 50 (reelC M false 0) * (blkA L 25 c25 * (blkA E 27 [.int .i64 0] * (medA M (Sg g) * X))))) w2 := by rw [hR, hw2]; exact x2
  have k3 := st31 (a := ⟨R, 0, none⟩) (v := .pointer (some ⟨B, 0, none⟩)) rfl rfl (x2.cell 0 (v := .pointer none) rfl) (x2.frozen 0)
  have x3 := x2.store (cs' := [.pointer (some ⟨B, 0, none⟩)]) 0 (.pointer (some ⟨B, 0, none⟩)) rfl
  obtain ⟨w3, hw3⟩ : ∃ w3, w3 = w2.setCell ⟨R, 0, none⟩ (.pointer (some ⟨B, 0, none⟩)) := ⟨_, rfl⟩
  rw [← hw3] at k3 x3
  have a3 := x3.cell 0 (v := .pointer (some ⟨B, 0, none⟩)) rfl
  obtain ⟨c3, c4, c5, w4, k4, x4⟩ := chain_ok x3 ⟨B, 0, none⟩ ⟨E, 0, none⟩ 16
  unfold f8.k2
  simp only [nth]
  rw [l1, Option.bind_some, bd50, Option.bind_some, k1, Option.bind_some, k2, Option.bind_some, k3, Option.bind_some, okIf_iff, ld31, a3, Option.bind_some, k4, Option.bind_some, okIf_iff]
  exact open_go hg x4 hRt
theorem open_w {w : World} {M : Nat} {g : List (Int × Int)} (hg : g.length ≤ 800) {Rt : List Value → World → Prop} (x : Sat W (medA M (Sg g) * X) w)
    (hRt : ∀ B w', Sat W (blkA B 50 (reelC M true 16) * X) w' → Rt [.pointer (some ⟨B, 0, none⟩), .int .i64 0] w') :
    f8.w C Rt (.pointer (some ⟨M, 0, none⟩)) w := by
  obtain ⟨w1, k1, x1⟩ := m_dead x
  have k1 : C 18 #[.pointer (some ⟨M, 0, none⟩)] w = some (.bool false, w1) := k1
  have hk0 : f8.k0 C Rt [.pointer (some ⟨M, 0, none⟩)] w1 := by
    refine ⟨rfl, by decide, ?_⟩
    rw [okIf_iff]
    simp only [nth]
    refine ⟨enter19 _ _, (readLabel_calls (by omega) x1).mono ?_⟩
    rintro e w2 ⟨v, rfl, rfl, x2⟩
    refine ⟨_, rfl, ?_⟩
    have x3 := x2.newBlk 25 z25
    have k3 := al25 w2
    obtain ⟨w3, hw3⟩ : ∃ w1, w1 = w2.alloc (.cells #[st [], .int .i64 0, .int .i64 0] 25) := ⟨_, rfl⟩
    obtain ⟨L, hL⟩ : ∃ b, b = w2.heap.size := ⟨_, rfl⟩
    rw [← hw3, ← hL] at k3
    have x3 : Sat W (blkA L 25 z25 * (medA M (Sg (g ++ [(0, 40)])) * X)) w3 := by rw [hL, hw3]; exact x3
    have x4 := x3.newBlk 27 [.int .i64 0]
    have k4 := al27 w3
    obtain ⟨w4, hw4⟩ : ∃ w1, w1 = w3.alloc (.cells #[.int .i64 0] 27) := ⟨_, rfl⟩
    obtain ⟨E, hE⟩ : ∃ b, b = w3.heap.size := ⟨_, rfl⟩
    rw [← hw4, ← hE] at k4
    have x4 : Sat W (blkA E 27 [.int .i64 0] * (blkA L 25 z25 * (medA M (Sg (g ++ [(0, 40)])) * X))) w4 := by rw [hE, hw4]; exact x4
    obtain ⟨w5, k5, x5⟩ := st_lab x4.swap
    have k6 := st27 (w := w5) (a := ⟨E, 0, none⟩) (v := .int .i64 0) rfl rfl (x5.swap.cell 0 (v := .int .i64 0) rfl) (x5.swap.frozen 0)
    have x6 := x5.swap.store (cs' := [.int .i64 0]) 0 (.int .i64 0) rfl
    obtain ⟨w6, hw6⟩ : ∃ w6, w6 = w5.setCell ⟨E, 0, none⟩ (.int .i64 0) := ⟨_, rfl⟩
    rw [← hw6] at k6 x6
    have c6 := x6.cell 0 (v := .int .i64 0) rfl
    have hk2 := open_k2 (L := L) (E := E) (g := g ++ [(0, 40)]) (by simp; omega) (Rt := Rt) x6.swap hRt
    have hk1 : f8.k1 C Rt [.pointer (some ⟨M, 0, none⟩), .pointer (some ⟨L, 0, none⟩), .int .i64 16, .pointer (some ⟨E, 0, none⟩)] w6 := by
      unfold f8.k1
      simp [after, hk2]
    simp [k3, k4, k5, k6, c6, after, hk1]
  unfold f8.w
  simp [k1, after, hk0]
theorem enter8 (args : Array Value) (w : World) : (callFunc 8 args).run Tryd.prog w = .ok (.enter 8 args) w := by kernel_rfl
theorem open_calls {w : World} {M : Nat} {g : List (Int × Int)} (hg : g.length ≤ 800) (x : Sat W (medA M (Sg g) * X) w) : Calls Tryd.prog 8 #[.pointer (some ⟨M, 0, none⟩)] w fun e w' => ∃ v, e = .returned v ∧ ∃ B, v = .tuple #[.pointer (some ⟨B, 0, none⟩), .int .i64 0] ∧ Sat W (blkA B 50 (reelC M true 16) * X) w' := by
  have key := open_w (Rt := fun vs w' => (fun v w' => ∃ B, v = Value.tuple #[.pointer (some ⟨B, 0, none⟩), .int .i64 0] ∧ Sat W (blkA B 50 (reelC M true 16) * X) w') (outcome vs) w') hg x fun B w' h => ⟨B, rfl, h⟩
  rw [← f8.weq] at key
  exact calls_of_range (rs := [2, 3]) (ann := anns) (prim := mu) (by kernel_rfl) mu_ok (fn := Tryd.f8) (c := Tryd.f8.body.getD .skip) Tryd.func8 (by kernel_rfl) (by kernel_rfl) (xs := f8.wx) (x := f8.wz) (y := f8.wy) (Q := fun v w' => ∃ B, v = Value.tuple #[.pointer (some ⟨B, 0, none⟩), .int .i64 0] ∧ Sat W (blkA B 50 (reelC M true 16) * X) w') key
/-- no medium -/
theorem open_none (w : World) : Calls Tryd.prog 8 #[.pointer none] w fun e w' => ∃ v, e = .returned v ∧ v = .tuple #[.pointer none, .int .i64 1] ∧ w' = w := by
  have key : f8.w C (fun vs w' => (fun v w' => v = Value.tuple #[.pointer none, .int .i64 1] ∧ w' = w) (outcome vs) w') (.pointer none) w := by
    unfold f8.w
    simp [after]
  rw [← f8.weq] at key
  exact calls_of_range (rs := [2, 3]) (ann := anns) (prim := mu) (by kernel_rfl) mu_ok (fn := Tryd.f8) (c := Tryd.f8.body.getD .skip) Tryd.func8 (by kernel_rfl) (by kernel_rfl) (xs := f8.wx) (x := f8.wz) (y := f8.wy) (Q := fun v w' => v = Value.tuple #[.pointer none, .int .i64 1] ∧ w' = w) key
end
end Go.Sh.YtodkllcibbidoaaDoor

namespace Go.Sh.YtodkllcibbidoaaDoor
open Go Go.Proofs Go.RowKit Go.Lib
set_option linter.unusedVariables false
set_option linter.unusedSimpArgs false
set_option maxRecDepth 100000
section
variable {W : World} {X : Asn W.heap.size}
theorem finished_ok {w : World} {M B : Nat} (x : Sat W (blkA B 50 (reelC M true 16) * X) w) : C 12 #[.pointer (some ⟨B, 0, none⟩)] w = some (.bool true, w) := by
  have c := x.cell 5 (v := .bool true) rfl
  exact f12.run rfl (by simp [f12, addL, c])
theorem count_ok {w : World} {M B : Nat} (x : Sat W (blkA B 50 (reelC M true 16) * X) w) : C 13 #[.pointer (some ⟨B, 0, none⟩)] w = some (.int .i64 0, w) := by
  have c := x.cell 4 (v := .slice none 0 0) rfl
  exact f13.run rfl (by simp [f13, addL, c])
theorem alive_w {w : World} {Rt : List Value → World → Prop} (x : Sat W X w) (hRt : ∀ w', Sat W X w' → Rt [.bool true] w') : f5.w C Rt w := by
  obtain ⟨M, w1, k1, x1⟩ := m_new x
  have bd : prun Tryd.prog (Instr.build 25 #[(0, .string { data := #[97] }), (1, .int .i64 2)]) = some lab := id (by kernel_rfl)
  have hk0 : f5.k0 C Rt [.pointer (some ⟨M, 0, none⟩)] w1 := by
    refine ⟨rfl, by decide, ?_⟩
    rw [bd, Option.bind_some, okIf_iff]
    simp only [nth]
    refine ⟨enter6 _ _, (create_calls (x1 : Sat W (medA M S0 * X) w1)).mono ?_⟩
    rintro e w2 ⟨v, rfl, P, rfl, x2⟩
    refine ⟨_, rfl, ?_⟩
    obtain ⟨w3, k3, x3⟩ := m_size x2.swap
    have k3 : C 10 #[.pointer (some ⟨M, 0, none⟩)] w2 = some (.int .i64 16, w3) := by
      rw [k3]
      simp [S1, labB_len]
    have hk1 : f5.k1 C Rt [.pointer (some ⟨M, 0, none⟩), .pointer (some ⟨P, 0, none⟩)] w3 := by
      obtain ⟨w4, k4, x4⟩ := finish_ok x3.swap
      have x5 := x4.newBlk 39 [.int .i64 0, .int .i64 0, .int .i64 0]
      have k5 := al39 w4
      obtain ⟨w5, hw5⟩ : ∃ w1, w1 = w4.alloc (.cells #[.int .i64 0, .int .i64 0, .int .i64 0] 39) := ⟨_, rfl⟩
      obtain ⟨T, hT⟩ : ∃ b, b = w4.heap.size := ⟨_, rfl⟩
      rw [← hw5, ← hT] at k5
      have x5 : Sat W (blkA T 39 [.int .i64 0, .int .i64 0, .int .i64 0] * (medA M S2 * X)) w5 := by rw [hT, hw5]; exact x5
      obtain ⟨w6, k6, x6⟩ := x5.storeAll (P := Tryd.prog) inf39 (o := 0) (v := .agg #[.int .i64 0, .int .i64 16, .int .i64 24]) (vs := [.int .i64 0, .int .i64 16, .int .i64 24]) (cs' := [.int .i64 0, .int .i64 16, .int .i64 24]) rfl (by rw [size39]; rfl) (by simp) (by simp [Value.oneCell']) (by simp)
      unfold f5.k1
      simp only [nth]
      rw [k4]
      simp only [Option.bind_some, extract_two0, extract_two1, k5, k6, okIf_iff]
      refine ⟨trivial, by decide, ?_⟩
      refine ⟨enter8 _ _, (open_calls (g := []) (by simp) (x6.swap : Sat W (medA M (Sg []) * (blkA T 39 [.int .i64 0, .int .i64 16, .int .i64 24] * X)) w6)).mono ?_⟩
      rintro e w7 ⟨v, rfl, B, rfl, x7⟩
      refine ⟨_, rfl, ?_⟩
      have l7 := ld39 (a := ⟨T, 0, none⟩) (by rw [addL]; exact x7.swap.cell 0 rfl) (by rw [addL]; exact x7.swap.cell 1 rfl) (by rw [addL]; exact x7.swap.cell 2 rfl)
      have b7 : prun Tryd.prog (Instr.build 39 #[(1, .int .i64 16), (2, .int .i64 24)]) = some (.agg #[.int .i64 0, .int .i64 16, .int .i64 24]) := id (by kernel_rfl)
      have f7 := finished_ok x7
      have n7 := count_ok x7
      have hR := hRt w7 x7.right.right
      simp [l7, b7, f7, n7, after, hR]
    simp [k3, after, hk1]
  unfold f5.w
  simp [k1, after, hk0]
theorem enter5 (args : Array Value) (w : World) : (callFunc 5 args).run Tryd.prog w = .ok (.enter 5 args) w := by kernel_rfl
theorem alive_calls {w : World} (x : Sat W X w) : Calls Tryd.prog 5 #[] w fun e w' => ∃ v, e = .returned v ∧ v = .bool true ∧ Sat W X w' := by
  have key := alive_w (Rt := fun vs w' => (fun v w' => v = Value.bool true ∧ Sat W X w') (outcome vs) w') x fun w' h => ⟨rfl, h⟩
  rw [← f5.weq] at key
  exact calls_of_w (rs := [0]) (ann := anns) (prim := mu) (by kernel_rfl) mu_ok (fn := Tryd.f5) (c := Tryd.f5.body.getD .skip) Tryd.func5 (by kernel_rfl) (by kernel_rfl) (x := f5.wann) (Q := fun v w' => v = Value.bool true ∧ Sat W X w') key
theorem names_calls {w : World} (x : Sat W X w) : Calls Tryd.prog 3 #[] w fun e w' => ∃ v, e = .returned v ∧ v = .bool true ∧ Sat W X w' := by
  have key : f3.w C (fun vs w' => (fun v w' => v = Value.bool true ∧ Sat W X w') (outcome vs) w') w := by
    unfold f3.w
    rw [okIf_iff]
    refine ⟨rfl, by decide, ?_⟩
    rw [okIf_iff]
    refine ⟨enter5 _ _, (alive_calls x).mono ?_⟩
    rintro e w2 ⟨v, rfl, rfl, x2⟩
    refine ⟨_, rfl, ?_⟩
    simp [after, x2]
  rw [← f3.weq] at key
  exact calls_of_w (rs := [0]) (ann := anns) (prim := mu) (by kernel_rfl) mu_ok (fn := Tryd.f3) (c := Tryd.f3.body.getD .skip) Tryd.func3 (by kernel_rfl) (by kernel_rfl) (x := f3.wann) (Q := fun v w' => v = Value.bool true ∧ Sat W X w') key
theorem create_none {w : World} (x : Sat W X w) (l : Value) : Calls Tryd.prog 6 #[.pointer none, l] w fun e w' => ∃ v, e = .returned v ∧ v = .tuple #[.pointer none, .int .i64 1] ∧ Sat W X w' := by
  obtain ⟨bw, hbw⟩ : ∃ bw, bw = erun Tryd.prog (Instr.box 25 l) w := ⟨_, rfl⟩
  have key : f6.w C (fun vs w' => (fun v w' => v = Value.tuple #[.pointer none, .int .i64 1] ∧ Sat W X w') (outcome vs) w') (.pointer none) l w := by
    have b1 : erun Tryd.prog (Instr.box 25 l) w = some (.pointer (some ⟨w.heap.size, 0, none⟩), w.alloc (.cells l.cells 25)) := rfl
    have x1 := x.alloc_ge (.cells l.cells 25)
    unfold f6.w
    simp [b1, after, x1]
  rw [← f6.weq] at key
  exact calls_of_w (rs := [4, 5]) (ann := anns) (prim := mu) (by kernel_rfl) mu_ok (fn := Tryd.f6) (c := Tryd.f6.body.getD .skip) Tryd.func6 (by kernel_rfl) (by kernel_rfl) (x := f6.wann) (Q := fun v w' => v = Value.tuple #[.pointer none, .int .i64 1] ∧ Sat W X w') key
theorem enter7 (args : Array Value) (w : World) : (callFunc 7 args).run Tryd.prog w = .ok (.enter 7 args) w := by kernel_rfl
theorem continue_none {w : World} (x : Sat W X w) : Calls Tryd.prog 7 #[.pointer none] w fun e w' => ∃ v, e = .returned v ∧ v = .tuple #[.pointer none, .int .i64 1] ∧ Sat W X w' := by
  have key : f7.w C (fun vs w' => (fun v w' => v = Value.tuple #[.pointer none, .int .i64 1] ∧ Sat W X w') (outcome vs) w') (.pointer none) w := by
    unfold f7.w
    rw [okIf_iff]
    refine ⟨rfl, by decide, ?_⟩
    rw [okIf_iff]
    refine ⟨enter8 _ _, (open_none w).mono ?_⟩
    rintro e w2 ⟨v, rfl, rfl, rfl⟩
    refine ⟨_, rfl, ?_⟩
    simp [after, x]
  rw [← f7.weq] at key
  exact calls_of_w (rs := [2, 3]) (ann := anns) (prim := mu) (by kernel_rfl) mu_ok (fn := Tryd.f7) (c := Tryd.f7.body.getD .skip) Tryd.func7 (by kernel_rfl) (by kernel_rfl) (x := f7.wann) (Q := fun v w' => v = Value.tuple #[.pointer none, .int .i64 1] ∧ Sat W X w') key
theorem nil_calls {w : World} (x : Sat W X w) (t : List UInt8) (r s : Int) : Calls Tryd.prog 4 #[.agg #[st t, .int .i64 r, .int .i64 s]] w fun e w' => ∃ v, e = .returned v ∧ v = .bool true ∧ Sat W X w' := by
  have key : f4.w C (fun vs w' => (fun v w' => v = Value.bool true ∧ Sat W X w') (outcome vs) w') (.agg #[st t, .int .i64 r, .int .i64 s]) w := by
    have b1 : erun Tryd.prog (Instr.box 25 (.agg #[st t, .int .i64 r, .int .i64 s])) w = some (.pointer (some ⟨w.heap.size, 0, none⟩), w.alloc (.cells #[st t, .int .i64 r, .int .i64 s] 25)) := rfl
    have x1 := x.newBlk 25 [st t, .int .i64 r, .int .i64 s]
    obtain ⟨w1, hw1⟩ : ∃ w1, w1 = w.alloc (.cells #[st t, .int .i64 r, .int .i64 s] 25) := ⟨_, rfl⟩
    obtain ⟨b, hb⟩ : ∃ b, b = w.heap.size := ⟨_, rfl⟩
    rw [← hw1, ← hb] at b1
    have x1 : Sat W (blkA b 25 [st t, .int .i64 r, .int .i64 s] * X) w1 := by rw [hb, hw1]; exact x1
    unfold f4.w
    rw [b1, Option.bind_some, okIf_iff]
    refine ⟨rfl, by decide, ?_⟩
    rw [okIf_iff]
    refine ⟨enter5 _ _, (alive_calls x1).mono ?_⟩
    rintro e w2 ⟨v, rfl, rfl, x2⟩
    refine ⟨_, rfl, ?_⟩
    have l2 := ld25 (a := ⟨b, 0, none⟩) (by rw [addL]; exact x2.cell 0 rfl) (by rw [addL]; exact x2.cell 1 rfl) (by rw [addL]; exact x2.cell 2 rfl)
    change okIf _ _ = some (.norm [] _)
    rw [okIf_iff]
    refine ⟨rfl, by decide, ?_⟩
    rw [l2, Option.bind_some, okIf_iff]
    refine ⟨enter6 _ _, (create_none x2 _).mono ?_⟩
    rintro e w3 ⟨v, rfl, rfl, x3⟩
    refine ⟨_, rfl, ?_⟩
    change Option.bind (prun Tryd.prog (Instr.extract _ 0)) _ = some (Res.norm [] _)
    rw [extract_two0, Option.bind_some, extract_two1, Option.bind_some, okIf_iff]
    refine ⟨rfl, by decide, ?_⟩
    rw [okIf_iff]
    refine ⟨enter7 _ _, (continue_none x3).mono ?_⟩
    rintro e w4 ⟨v, rfl, rfl, x4⟩
    refine ⟨_, rfl, ?_⟩
    change Option.bind (prun Tryd.prog (Instr.extract _ 0)) _ = some (Res.norm [] _)
    rw [extract_two0, Option.bind_some, extract_two1, Option.bind_some, okIf_iff]
    refine ⟨rfl, by decide, ?_⟩
    rw [okIf_iff]
    refine ⟨enter8 _ _, (open_none w4).mono ?_⟩
    rintro e w5 ⟨v, rfl, rfl, rfl⟩
    refine ⟨_, rfl, ?_⟩
    have x5 := x4.right
    simp [after, x5]
  rw [← f4.weq] at key
  exact calls_of_w (rs := [2]) (ann := anns) (prim := mu) (by kernel_rfl) mu_ok (fn := Tryd.f4) (c := Tryd.f4.body.getD .skip) Tryd.func4 (by kernel_rfl) (by kernel_rfl) (x := f4.wann) (Q := fun v w' => v = Value.bool true ∧ Sat W X w') key
end
end Go.Sh.YtodkllcibbidoaaDoor

namespace Go.Sh.YtodkllcibbidoaaDoor
open Go Go.Proofs Go.RowKit Go.Lib
set_option linter.unusedVariables false
set_option linter.unusedSimpArgs false
set_option maxRecDepth 100000
theorem emp_sat0 (w : World) : Sat w emp w := ⟨Grew.refl _ _, ⟨fun _ => False, rfl⟩⟩
theorem names_walk (W : World) (hL : laidMetH Tryd.prog Go.Proofs.YtodkllcibbidoaaDoor.Rows.reelNamesRow.laid W) :
    Calls Tryd.prog 3 #[] W fun e w' => e = .returned (.bool true) ∧ Below W.heap.size W w' :=
  (names_calls (emp_sat0 W)).mono fun e w' ⟨v, h1, h2, h3⟩ => ⟨h1.trans (by rw [h2]), below_of_grown (h3.1.toNew fun k h => h.elim)⟩
theorem dat_string {W : World} {H : Type} {enc : TypeId × Value → H} {cs : List Value} (h : Dat enc Tryd.prog W 9 cs) : ∃ l : List UInt8, cs = [st l] ∧ l.length ≤ 9223372036854775807 := by
  obtain ⟨n, y, h⟩ := h
  obtain ⟨s, rfl, _, hs⟩ := DataW.trod_string Tryd.underlying9 h
  refine ⟨s.data.toList, rfl, ?_⟩
  have : s.data.toList.length = s.size := by rw [Array.length_toList]; rfl
  rw [this]
  exact hs
theorem lab_in {W : World} {H : Type} {enc : TypeId × Value → H} {base : Nat} {v : Value} (o : Value.okWide Tryd.prog W .any base 25 v) (z : Dat enc Tryd.prog W 25 v.cells.toList) :
    ∃ (t : List UInt8) (r s : Int), v = .agg #[st t, .int .i64 r, .int .i64 s] := by
  have o' : ∃ cs, v = .agg cs ∧ cs.size = Tryd.prog.cellsOf 25 ∧ Row.okWide Tryd.prog W .any base 25 cs := by
    unfold Value.okWide at o
    rw [Tryd.underlying25] at o
    exact o
  obtain ⟨cs, rfl, hsz, _⟩ := o'
  have z' : Dat enc Tryd.prog W 25 cs.toList := z
  have c25 : Tryd.prog.cellsOf 25 = 3 := by kernel_rfl
  have c9 : Tryd.prog.cellsOf 9 = 1 := by kernel_rfl
  have c23 : Tryd.prog.cellsOf 23 = 1 := by kernel_rfl
  have c3 : Tryd.prog.cellsOf 3 = 1 := by kernel_rfl
  obtain ⟨hl, hf⟩ := dat_struct Tryd.underlying25 z'
  rw [c25] at hl
  have f0 := hf 0 _ rfl
  have f1 := hf 1 _ rfl
  have f2 := hf 2 _ rfl
  erw [c9] at f0
  erw [c23] at f1
  erw [c3] at f2
  obtain ⟨cs⟩ := cs
  match cs, hl with
  | [x0, x1, x2], _ =>
    obtain ⟨t, e0, _⟩ := dat_string f0
    obtain ⟨r, e1, _⟩ := dat_int Tryd.underlying23 f1
    obtain ⟨s, e2, _⟩ := dat_int Tryd.underlying3 f2
    have e0 : [x0] = [st t] := e0
    have e1 : [x1] = [Value.int .i64 r] := e1
    have e2 : [x2] = [Value.int .i64 s] := e2
    cases e0
    cases e1
    cases e2
    exact ⟨t, r, s, rfl⟩
theorem nil_walk (W : World) {H : Type} {enc : TypeId × Value → H} {base : Nat} (v0 : Value) (o0 : Value.okWide Tryd.prog W .any base 25 v0) (z0 : Dat enc Tryd.prog W 25 v0.cells.toList) (hL : laidMetH Tryd.prog Go.Proofs.YtodkllcibbidoaaDoor.Rows.reelNilRow.laid W) :
    Calls Tryd.prog 4 #[v0] W fun e w' => e = .returned (.bool true) ∧ Below W.heap.size W w' := by
  obtain ⟨t, r, s, rfl⟩ := lab_in o0 z0
  exact (nil_calls (emp_sat0 W) t r s).mono fun e w' ⟨v, h1, h2, h3⟩ => ⟨h1.trans (by rw [h2]), below_of_grown (h3.1.toNew fun k h => h.elim)⟩
end Go.Sh.YtodkllcibbidoaaDoor

