/- cuts: Check, Length. Conditions: those of each statement. -/
import Derived.Test.YtkghbcadnbojgaaGreatDoorUC9
namespace Go.Sh.YtkghbcadnbojgaaGreatDoor
open Go Go.Proofs Go.RowKit
set_option linter.unusedVariables false
set_option linter.unusedSimpArgs false
set_option maxRecDepth 100000
@[simp] theorem eql32_some (x y : Operand) (u : TypeId) (v : Value) (w : World) : rrun Tryz.prog (do eqGuard .eql 32 x y (.iface u v) .nilIface; binOp .eql 32 (.iface u v) .nilIface) w = some (.bool false) := id (by kernel_rfl)
@[simp] theorem eql32_none (x : Operand) (c : Value) (w : World) : rrun Tryz.prog (do eqGuard .eql 32 x (.const c) .nilIface .nilIface; binOp .eql 32 .nilIface .nilIface) w = some (.bool true) := id (by cases x <;> kernel_rfl)
@[simp] theorem neq32_some (x y : Operand) (u : TypeId) (v : Value) (w : World) : rrun Tryz.prog (do eqGuard .neq 32 x y (.iface u v) .nilIface; binOp .neq 32 (.iface u v) .nilIface) w = some (.bool true) := id (by kernel_rfl)
@[simp] theorem neq32_none (x : Operand) (c : Value) (w : World) : rrun Tryz.prog (do eqGuard .neq 32 x (.const c) .nilIface .nilIface; binOp .neq 32 .nilIface .nilIface) w = some (.bool false) := id (by cases x <;> kernel_rfl)
def cutV (t : List UInt8) (r : Int) (A : Option Addr) (n c : Nat) : Value := .agg #[st t, .int .i64 r, .slice A n c]
theorem day_in {w : World} (Tt : Tb w) (r : Int) : ∃ d e w', C 37 #[.int .i64 r] w = some (.tuple #[.int .i64 d, .int .i64 e], w') ∧ w.grownBy w' none ∧ ((¬ (r < 1 ∨ 7 < r)) → d = dayOf r ∧ e = 0) ∧ ((r < 1 ∨ 7 < r) → e = 181) := by
  by_cases h : r < 1 ∨ 7 < r
  · obtain ⟨w', h1, g1⟩ := PerDay_out r h w
    exact ⟨_, _, w', h1, g1, fun h2 => absurd h h2, fun _ => rfl⟩
  · have hk : r.toNat < rates.length := by simp [rates]; omega
    obtain ⟨x, hx⟩ : ∃ x, rates[r.toNat]? = some x := ⟨_, List.getElem?_eq_getElem hk⟩
    obtain ⟨w', h1, g1⟩ := PerDay_in Tt r.toNat (by omega) hx
    rw [show ((r.toNat : Nat) : Int) = r by omega] at h1
    exact ⟨_, _, w', h1, g1, fun _ => ⟨by rw [dayOf, hx], rfl⟩, fun h2 => absurd h2 h⟩
theorem Check_ok {w : World} (T : Ut w) (Tt : Tb w) (t : List UInt8) (r : Int) {A : Option Addr} {c : Nat} {q : List Ev} (hr : Rd w A (q.flatMap Ev.cs)) (hc : q.length ≤ c) (hs : Short q) :
    ∃ v w', C 15 #[cutV t r A q.length c] w = some (v, w') ∧ w.grownBy w' none ∧ ErrIs w w' (ckCode t r q) v := by
  obtain ⟨w1, hw1⟩ : ∃ w1, w1 = w.alloc (.cells #[st t, .int .i64 r, .slice A q.length c] 30) := ⟨_, rfl⟩
  have b : Blk w1 w.heap.size 30 [st t, .int .i64 r, .slice A q.length c] := hw1 ▸ Blk.new w 30 [st t, .int .i64 r, .slice A q.length c]
  have g1 : w.grownBy w1 none := hw1 ▸ World.grownBy_alloc w _ none
  have bx : erun Tryz.prog (Instr.box 30 (.agg #[st t, .int .i64 r, .slice A q.length c])) w = some (.pointer (some ⟨w.heap.size, 0, none⟩), w1) := by rw [hw1]; rfl
  have c1 := b.cell_eq 1 rfl
  obtain ⟨d, e, w2, h2, g2, hin, hout⟩ := day_in (Tt.grown g1) r
  have G2 := grown_step g1 g2
  have b2 : Blk w2 w.heap.size 30 [st t, .int .i64 r, .slice A q.length c] := b.grown g2 (by simp)
  have c0 := b2.cell_eq 0 rfl
  have hl : ∀ ty, prun Tryz.prog (Builtin.len_ #[9] ty #[st t]) = some (.int .i64 t.length) := fun ty => str_len Tryz.underlying9 ty t
  unfold cutV
  by_cases z0 : 100 < t.length
  · obtain ⟨v, w3, h3, g3, e3⟩ := wrong_at (-1) 191 w2
    refine ⟨v, w3, f15.run rfl ?_, grown_step G2 g3, by rw [ckCode, if_pos z0]; exact e3.older (gsz G2)⟩
    have z0' : (100 : Int) < t.length := by omega
    simp [f15, bx, addL, c1, h2, c0, hl, z0', h3]
  have z0' : ¬ (100 : Int) < t.length := by omega
  obtain ⟨w3, h3, g3⟩ := valid_ok (T.grown G2) t (by omega)
  have G3 := grown_step G2 g3
  cases z1 : valid t with
  | false =>
    rw [z1] at h3
    obtain ⟨v, w4, h4, g4, e4⟩ := wrong_at (-1) 192 w3
    refine ⟨v, w4, f15.run rfl ?_, grown_step G3 g4, by rw [ckCode, if_neg z0, if_pos z1]; exact e4.older (gsz G3)⟩
    simp [f15, bx, addL, c1, h2, c0, hl, z0', h3, h4]
  | true =>
    rw [z1] at h3
    have z1' : ¬ valid t = false := by simp [z1]
    by_cases z2 : r < 1 ∨ 7 < r
    · obtain ⟨v, w4, h4, g4, e4⟩ := wrong_at (-1) 181 w3
      refine ⟨v, w4, f15.run rfl ?_, grown_step G3 g4, by rw [ckCode, if_neg z0, if_neg z1', if_pos z2]; exact e4.older (gsz G3)⟩
      simp [f15, bx, addL, c1, h2, c0, hl, z0', h3, hout z2, h4]
    · obtain ⟨hd, he⟩ := hin z2
      subst hd; subst he
      have b3 : Blk w3 w.heap.size 30 [st t, .int .i64 r, .slice A q.length c] := b2.grown g3 (by simp)
      have c2 := b3.cell_eq 2 rfl
      by_cases z3 : 200 < q.length
      · obtain ⟨v, w4, h4, g4, e4⟩ := wrong_at (-1) 196 w3
        refine ⟨v, w4, f15.run rfl ?_, grown_step G3 g4, by rw [ckCode, if_neg z0, if_neg z1', if_neg z2, if_pos z3]; exact e4.older (gsz G3)⟩
        have z3' : (200 : Int) < q.length := by omega
        simp [f15, bx, addL, c1, h2, c0, hl, z0', h3, c2, z3', h4]
      · have z3' : ¬ (200 : Int) < q.length := by omega
        obtain ⟨res, w4, h4, g4, e4⟩ := events_ok (T.grown G3) b3 (hr.grown G3) hc (by omega) hs (dayOf r) (dayOf_le r)
        have e5 : ckCode t r q = evBad (dayOf r) [] q := by rw [ckCode, if_neg z0, if_neg z1', if_neg z2, if_neg z3]
        rw [e5]
        rcases e4 with ⟨rfl, e4⟩ | ⟨k, x, v, rfl, e4, e6⟩
        · refine ⟨.nilIface, w4, f15.run rfl ?_, grown_step G3 g4, by rw [e4]; rfl⟩
          simp [f15, bx, addL, c1, h2, c0, hl, z0', h3, c2, z3', h4]
        · refine ⟨v, w4, f15.run rfl ?_, grown_step G3 g4, by rw [e4]; exact e6.older (gsz G3)⟩
          simp [f15, bx, addL, c1, h2, c0, hl, z0', h3, c2, z3', h4]
end Go.Sh.YtkghbcadnbojgaaGreatDoor
