/- The layer 'Sh': structs that are compared. No condition but those that each statement names. -/
import Derived.Test.YtkghbcadnbojgaaGreatDoorShFoot
import Derived.Laws.StructEq
namespace Go.Sh
open Go Go.RowKit
set_option linter.unusedVariables false
section
variable {P : Program} (w : World)
theorem rr_equalIn_struct (d : Nat) (t : TypeId) (xs ys : Array Value) (ht : P.underlying t = some (.struct (P.fieldsOf t))) (hp : P.stoodInHeld t = false) :
    rrun P (Op.equalIn (d + 1) t (.agg xs) (.agg ys)) w = rrun P (Op.eqFields d xs ys (P.fieldsOf t).toList) w := by
  simp only [Op.equalIn, rrun_bind, rrun_of_prun (prun_underlying ht), Option.bind_some, rrun_of_prun prun_program, hp, Bool.false_eq_true, if_false]
  rw [← Array.forIn_toList]
  generalize (P.fieldsOf t).toList = fs
  clear ht
  induction fs with
  | nil => simp [Op.eqFields]
  | cons f fs ih =>
    simp only [List.forIn_cons, Op.eqFields]
    split
    · simp only [rrun_bind]
      cases rrun P (part f.type xs f.offset) w with
      | none => rfl
      | some a =>
        simp only [Option.bind_some]
        cases rrun P (part f.type ys f.offset) w with
        | none => rfl
        | some b =>
          simp only [Option.bind_some]
          cases rrun P (Op.equalIn d f.type a b) w with
          | none => rfl
          | some r =>
            cases r
            · simp
            · simpa using ih
    · simpa using ih
theorem rr_equalIn_int (d : Nat) (t : TypeId) (k k' : IntKind) (a b : Int) (h : P.underlying t = some (.int k')) : rrun P (Op.equalIn (d + 1) t (.int k a) (.int k b)) w = some (a == b) := by
  simp [Op.equalIn, rrun_bind, rrun_of_prun (prun_underlying h)]
theorem rr_equalIn_bool (d : Nat) (t : TypeId) (a b : Bool) (h : P.underlying t = some .bool) : rrun P (Op.equalIn (d + 1) t (.bool a) (.bool b)) w = some (a == b) := by
  simp [Op.equalIn, rrun_bind, rrun_of_prun (prun_underlying h)]
theorem rr_equalIn_string (d : Nat) (t : TypeId) (a b : ByteArray) (h : P.underlying t = some .string) : rrun P (Op.equalIn (d + 1) t (.string a) (.string b)) w = some (a.toList == b.toList) := by
  simp [Op.equalIn, rrun_bind, rrun_of_prun (prun_underlying h), beq_toListBytes]
theorem rr_eqFields_nil (d : Nat) (xs ys : Array Value) : rrun P (Op.eqFields d xs ys []) w = some true := by simp [Op.eqFields]
theorem rr_eqFields_cons (d : Nat) (xs ys : Array Value) (f : Field) (fs : List Field) (a b : Value) (r q : Bool) (hn : f.name ≠ "_") (h1 : rrun P (part f.type xs f.offset) w = some a) (h2 : rrun P (part f.type ys f.offset) w = some b)
    (h3 : rrun P (Op.equalIn d f.type a b) w = some r) (h4 : rrun P (Op.eqFields d xs ys fs) w = some q) : rrun P (Op.eqFields d xs ys (f :: fs)) w = some (r && q) := by
  simp only [Op.eqFields, hn, ne_eq, not_false_eq_true, if_true, rrun_bind, h1, h2, h3, Option.bind_some]
  cases r <;> simp [h4]
theorem rr_eql (t : TypeId) (x y : Operand) (xs ys : Array Value) (b : Bool) (hm : P.eqGuardType P.depth t = false) (ht : P.underlying t = some (.struct (P.fieldsOf t))) (hp : P.stoodInHeld t = false)
    (h : rrun P (Op.eqFields 9999 xs ys (P.fieldsOf t).toList) w = some b) : rrun P (do eqGuard .eql t x y (.agg xs) (.agg ys); binOp .eql t (.agg xs) (.agg ys)) w = some (.bool b) := by
  have h1 := rr_equalIn_struct (P := P) w 9999 t xs ys ht hp
  rw [h] at h1
  simp [eqGuard, rrun_bind, rrun_of_prun prun_program, hm, binOp, Op.equal, Op.maxDepth, h1]
theorem rr_neq (t : TypeId) (x y : Operand) (xs ys : Array Value) (b : Bool) (hm : P.eqGuardType P.depth t = false) (ht : P.underlying t = some (.struct (P.fieldsOf t))) (hp : P.stoodInHeld t = false)
    (h : rrun P (Op.eqFields 9999 xs ys (P.fieldsOf t).toList) w = some b) : rrun P (do eqGuard .neq t x y (.agg xs) (.agg ys); binOp .neq t (.agg xs) (.agg ys)) w = some (.bool (!b)) := by
  have h1 := rr_equalIn_struct (P := P) w 9999 t xs ys ht hp
  rw [h] at h1
  simp [eqGuard, rrun_bind, rrun_of_prun prun_program, hm, binOp, Op.equal, Op.maxDepth, h1]
end
end Go.Sh
