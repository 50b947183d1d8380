/- The layer 'Sh': strings. Conditions: those of each statement. -/
import Derived.Test.YtkghbcadnbojgaaGreatDoorShClip
import Derived.Test.YtkghbcadnbojgaaGreatDoorShEq
namespace Go.Sh
open Go Go.RowKit
set_option linter.unusedVariables false
set_option linter.unusedSimpArgs false
/-- a string of these bytes -/
abbrev st (l : List UInt8) : Value := .string ⟨l.toArray⟩
theorem st_size (l : List UInt8) : (⟨l.toArray⟩ : ByteArray).size = l.length := by simp [ByteArray.size]
section
variable {P : Program}
theorem str_len {t : TypeId} (ht : P.underlying t = some .string) (ty : TypeId) (l : List UInt8) : prun P (Builtin.len_ #[t] ty #[st l]) = some (.int .i64 l.length) := by
  rw [len_string ht, st_size]
theorem str_index {t : TypeId} (ht : P.underlying t = some .string) (l : List UInt8) (k : IntKind) (i : Nat) (h : i < l.length) : prun P (Instr.index t (st l) (.int k i)) = some (.int .u8 (l[i]).toNat) := by
  have e : (⟨l.toArray⟩ : ByteArray)[i]? = some l[i] := by
    rw [getElem?_pos _ _ (by simpa [ByteArray.size] using h)]
    rfl
  unfold Instr.index
  have h0 : (0 : Int) ≤ i := by omega
  simp [prun_bind, prun_underlying ht, asIntOf, h0, e]
theorem str_slice {t : TypeId} (ht : P.underlying t = some .string) (s : ByteArray) (lo hi : Option Value) (l h m : Nat) (hb : prun P (Instr.sliceBounds false s.size s.size lo hi none) = some (l, h, m)) : prun P (Instr.sliceAt t (.string s) lo hi none) = some (.string (s.extract l h)) := by
  unfold Instr.sliceAt
  simp only [prun_bind, prun_underlying ht, Option.bind_some]
  unfold Instr.slice
  simp [prun_bind, prun_underlying ht, hb]
theorem toList_st (l : List UInt8) : (⟨l.toArray⟩ : ByteArray).toList = l := by
  rw [show (⟨l.toArray⟩ : ByteArray).toList = (⟨l.toArray⟩ : ByteArray).data.toList from by simp]
theorem st_extract (l : List UInt8) (i j : Nat) : (⟨l.toArray⟩ : ByteArray).extract i j = ⟨((l.drop i).take (j - i)).toArray⟩ := by
  apply ByteArray.ext
  simp [ByteArray.data_extract]
theorem str_from {t : TypeId} (ht : P.underlying t = some .string) (l : List UInt8) (k : IntKind) (i : Nat) (h : i ≤ l.length) : prun P (Instr.sliceAt t (st l) (some (.int k i)) none none) = some (st (l.drop i)) := by
  rw [str_slice ht _ _ _ i l.length l.length, st_extract, List.take_of_length_le (by simp)]
  unfold Instr.sliceBounds
  rw [st_size]
  simp [prun_bind, bound_ok k i l.length _ (by omega) (by omega)]
theorem str_part {t : TypeId} (ht : P.underlying t = some .string) (l : List UInt8) (k k' : IntKind) (i j : Nat) (h : i ≤ j) (h' : j ≤ l.length) : prun P (Instr.sliceAt t (st l) (some (.int k i)) (some (.int k' j)) none) = some (st ((l.drop i).take (j - i))) := by
  rw [str_slice ht _ _ _ i j l.length, st_extract]
  unfold Instr.sliceBounds
  rw [st_size]
  simp [prun_bind, bound_ok k' j l.length _ (by omega) (by omega), bound_ok k i j _ (by omega) (by omega)]
theorem str_add {t : TypeId} (ht : P.underlying t = some .string) (x y : Operand) (a b : List UInt8) (h : a.length + b.length ≤ 9223372036854775807) : prun P (do eqGuard .add t x y (st a) (st b); binOp .add t (st a) (st b)) = some (st (a ++ b)) := by
  have h1 : ¬ (9223372036854775807 : Int) < (a.length : Int) + (b.length : Int) := by omega
  have e : (⟨a.toArray⟩ ++ ⟨b.toArray⟩ : ByteArray) = ⟨(a ++ b).toArray⟩ := by
    apply ByteArray.ext
    simp
  simp [eqGuard, binOp, Op.stringOp, IntKind.max, IntKind.signed, IntKind.bits]
  rw [st_size, st_size, if_neg h1, e]
  rfl
theorem str_eql {t : TypeId} (x y : Operand) (a b : List UInt8) : prun P (do eqGuard .eql t x y (st a) (st b); binOp .eql t (st a) (st b)) = some (.bool (decide (a = b))) := by
  have key : prun P (Op.stringOp .eql ⟨a.toArray⟩ ⟨b.toArray⟩) = some (.bool (decide (a = b))) := by
    simp only [Op.stringOp, toList_st]
    by_cases hab : a = b
    · simp [hab]
    · simp [hab]
  simpa [eqGuard, binOp, Op.equal, Op.maxDepth] using key
theorem str_neq {t : TypeId} (x y : Operand) (a b : List UInt8) : prun P (do eqGuard .neq t x y (st a) (st b); binOp .neq t (st a) (st b)) = some (.bool (decide (a ≠ b))) := by
  have key : prun P (Op.stringOp .neq ⟨a.toArray⟩ ⟨b.toArray⟩) = some (.bool (decide (a ≠ b))) := by
    simp only [Op.stringOp, toList_st]
    by_cases hab : a = b
    · simp [hab]
    · simp [hab]
  simpa [eqGuard, binOp, Op.equal, Op.maxDepth] using key
theorem str_range {t : TypeId} (ht : P.underlying t = some .string) (s : ByteArray) (w : World) : erun P (Instr.range t (.string s)) w = some (.pointer (some ⟨w.heap.size, 0, none⟩), w.alloc (.stringIter s 0)) := by
  apply erun_of_run
  unfold Instr.range
  rw [run_ok (prun_run (prun_underlying ht) w)]
  rfl
end
/-- a walk over a string -/
def iterA {base : Nat} (r : Nat) (s : ByteArray) (pos : Nat) : Asn base := ⟨fun S w => w.heap[r]? = some (.stringIter s pos) ∧ base ≤ r ∧ S = fun k => k = r,
  fun ⟨h, h2, h3⟩ hg hs => ⟨(hg.block r (Array.getElem?_eq_some_iff.mp h).1 (hs r (by rw [h3]))).trans h, h2, h3⟩,
  fun ⟨h, h2, h3⟩ k hk => by rw [h3] at hk; cases hk; exact ⟨h2, (Array.getElem?_eq_some_iff.mp h).1⟩⟩
section
variable {P : Program} {W w : World} {X : Asn W.heap.size} {r : Nat} {s : ByteArray} {pos : Nat}
theorem Sat.newIter (x : Sat W X w) (s : ByteArray) : Sat W (iterA w.heap.size s 0 * X) (w.alloc (.stringIter s 0)) := by
  obtain ⟨g, S, x⟩ := x
  have ga := World.grownBy_alloc w (.stringIter s 0) none
  exact ⟨g.step (grew_new ga), fun k => k = w.heap.size ∨ S k, fun k => k = w.heap.size, S, fun k hk hs => by have := (X.rng x k hs).2; omega, rfl, ⟨heap_alloc_new w _, g.size, rfl⟩, X.frame x (grew_new (S := fun _ => False) ga) fun k _ h => h⟩
theorem Sat.iterEnd (x : Sat W (iterA r s pos * X) w) (ty : TypeId) (h : ¬ pos < s.size) : erun P (Instr.next (.pointer (some ⟨r, 0, none⟩)) true ty) w = some (.tuple #[.bool false], w) := by
  obtain ⟨g, S, hr, _⟩ := x.left
  apply erun_of_run
  simp [Instr.next, getObj, Sem.run, hr, h]
theorem Sat.iterNext (x : Sat W (iterA r s pos * X) w) (ty : TypeId) (h : pos < s.size) : ∃ w', erun P (Instr.next (.pointer (some ⟨r, 0, none⟩)) true ty) w = some (.tuple #[.bool true, .int .i64 pos, .int .i32 (Utf8.decode s pos).1], w') ∧ Sat W (iterA r s (pos + (Utf8.decode s pos).2) * X) w' := by
  obtain ⟨g, S, A, B, d, e, ⟨hr, hb, hA⟩, q⟩ := x
  subst hA
  have hlt := (Array.getElem?_eq_some_iff.mp hr).1
  obtain ⟨w', hw'⟩ : ∃ w', w' = { w with heap := w.heap.setIfInBounds r (.stringIter s (pos + (Utf8.decode s pos).2)) } := ⟨_, rfl⟩
  have hg : Grew (fun k => k = r) w w' := by
    subst hw'
    refine ⟨rfl, rfl, rfl, by simp, fun k _ hk => ?_⟩
    have : r ≠ k := fun e => hk e.symm
    simp [Array.getElem?_setIfInBounds, this]
  refine ⟨w', erun_of_run ?_, g.trans hg fun k hk => .inr (hk ▸ hb), fun k => k = r ∨ B k, fun k => k = r, B, d, rfl, ⟨?_, hb, rfl⟩, X.frame q hg fun k hB hk => d k hk hB⟩
  · subst hw'
    simp [Instr.next, getObj, setObj, Sem.run, hr, h, goInt, Result.andThen]
  · subst hw'
    simp [Array.getElem?_setIfInBounds, hlt]
end
end Go.Sh
