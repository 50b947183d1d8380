/- cuts: eight bytes as a word. Conditions: those of each statement. -/
import Derived.Test.YtkghbcadnbojgaaGreatDoorUC3
namespace Go.Sh.YtkghbcadnbojgaaGreatDoor
open Go Go.Proofs Go.RowKit
set_option linter.unusedVariables false
set_option linter.unusedSimpArgs false
set_option maxRecDepth 100000
theorem cv5_159 (x : Int) : prun Tryz.prog (convert 5 159 (.int .u8 x)) = some (.int .u64 (IntKind.u64.wrap x)) := id (by kernel_rfl)
/-- which of eight bytes has its highest bit -/
def Hi (x : Int) (p : Nat → Bool) : Prop := 0 ≤ x ∧ x < 18446744073709551616 ∧ ∀ i, i < 8 → (BitVec.ofInt 64 x).getLsbD (8 * i + 7) = p i
theorem wrap_u64 {x : Int} (h0 : 0 ≤ x) (h1 : x < 18446744073709551616) : IntKind.u64.wrap x = x := by
  simp [IntKind.wrap, IntKind.signed, IntKind.bits]; omega
theorem or_eq (x y : Int) : bits .or .u64 x y = ((BitVec.ofInt 64 x ||| BitVec.ofInt 64 y).toNat : Int) := by
  unfold bits
  simp only []
  exact wrap_u64 (x := ((BitVec.ofInt 64 x ||| BitVec.ofInt 64 y).toNat : Int)) (by omega) (by have := (BitVec.ofInt 64 x ||| BitVec.ofInt 64 y).isLt; omega)
theorem and_eq (x y : Int) : bits .and .u64 x y = ((BitVec.ofInt 64 x &&& BitVec.ofInt 64 y).toNat : Int) := by
  unfold bits
  simp only []
  exact wrap_u64 (x := ((BitVec.ofInt 64 x &&& BitVec.ofInt 64 y).toNat : Int)) (by omega) (by have := (BitVec.ofInt 64 x &&& BitVec.ofInt 64 y).isLt; omega)
theorem Hi.or {x y : Int} {p q : Nat → Bool} (h : Hi x p) (h' : Hi y q) : Hi (bits .or .u64 x y) (fun i => p i || q i) := by
  rw [or_eq]
  refine ⟨by omega, by have := (BitVec.ofInt 64 x ||| BitVec.ofInt 64 y).isLt; omega, fun i hi => ?_⟩
  have e : BitVec.ofInt 64 ((BitVec.ofInt 64 x ||| BitVec.ofInt 64 y).toNat : Int) = BitVec.ofInt 64 x ||| BitVec.ofInt 64 y := by
    rw [BitVec.ofInt_natCast, BitVec.ofNat_toNat]; simp
  rw [e, BitVec.getLsbD_or, h.2.2 i hi, h'.2.2 i hi]
/-- nothing is left under the mask: no byte has its highest bit -/
theorem Hi.none {x : Int} {p : Nat → Bool} (h : Hi x p) (h0 : bits .and .u64 x 9259542123273814144 = 0) : ∀ i, i < 8 → p i = false := by
  intro i hi
  rw [and_eq] at h0
  have h1 : BitVec.ofInt 64 x &&& BitVec.ofInt 64 9259542123273814144 = 0#64 := by
    apply BitVec.eq_of_toNat_eq
    simpa using h0
  have h2 : (BitVec.ofInt 64 x &&& BitVec.ofInt 64 9259542123273814144).getLsbD (8 * i + 7) = false := by rw [h1]; simp
  rw [BitVec.getLsbD_and, h.2.2 i hi] at h2
  have h3 : (BitVec.ofInt 64 9259542123273814144).getLsbD (8 * i + 7) = true := by
    rcases (show i = 0 ∨ i = 1 ∨ i = 2 ∨ i = 3 ∨ i = 4 ∨ i = 5 ∨ i = 6 ∨ i = 7 by omega) with rfl | rfl | rfl | rfl | rfl | rfl | rfl | rfl <;> decide
  rw [h3] at h2
  simpa using h2
/-- one byte at its place -/
theorem Hi.byte (b : UInt8) (j : Nat) (hj : j < 8) : Hi ((b.toNat : Int) * 2 ^ (8 * j)) (fun i => decide (i = j) && decide (128 ≤ b.toNat)) := by
  have hb := b.toNat_lt
  have hp : (2 : Nat) ^ (8 * j) ≤ 2 ^ 56 := Nat.pow_le_pow_right (by omega) (by omega)
  have hlt : b.toNat * 2 ^ (8 * j) < 2 ^ 64 := by
    calc b.toNat * 2 ^ (8 * j) ≤ 255 * 2 ^ 56 := Nat.mul_le_mul (by omega) hp
      _ < 2 ^ 64 := by decide
  have e : ((b.toNat : Int) * 2 ^ (8 * j)) = ((b.toNat * 2 ^ (8 * j) : Nat) : Int) := by simp
  rw [e]
  refine ⟨by omega, by omega, fun i hi => ?_⟩
  rw [BitVec.ofInt_natCast, BitVec.getLsbD_ofNat, ← Nat.shiftLeft_eq, Nat.testBit_shiftLeft]
  by_cases hij : i = j
  · subst hij
    have h1 : 8 * i + 7 - 8 * i = 7 := by omega
    have h2 : Nat.testBit b.toNat 7 = decide (128 ≤ b.toNat) := by
      rw [Nat.testBit_eq_decide_div_mod_eq]
      congr 1
      apply propext
      constructor <;> intro h <;> omega
    rw [h1, h2]
    simp
    omega
  · by_cases hlt' : i < j
    · have : ¬ (8 * i + 7 ≥ 8 * j) := by omega
      simp [hij, this]
    · have h2 : Nat.testBit b.toNat (8 * i + 7 - 8 * j) = false := Nat.testBit_lt_two_pow (Nat.lt_of_lt_of_le (show b.toNat < 2 ^ 8 from hb) (Nat.pow_le_pow_right (by omega) (by omega)))
      rw [h2]
      simp [hij]
theorem Hi.eq {x : Int} {p q : Nat → Bool} (h : Hi x p) (e : ∀ i, i < 8 → p i = q i) : Hi x q := ⟨h.1, h.2.1, fun i hi => (h.2.2 i hi).trans (e i hi)⟩
theorem sh_byte (b : UInt8) (j : Nat) (hj : j < 8) (t : TypeId) (x y : Operand) : prun Tryz.prog (do eqGuard .shl t x y (.int .u64 b.toNat) (.int .u64 ((8 * j : Nat) : Int)); binOp .shl t (.int .u64 b.toNat) (.int .u64 ((8 * j : Nat) : Int))) = some (.int .u64 ((b.toNat : Int) * 2 ^ (8 * j))) := by
  rw [p_shl _ _ _ _ _ _ _ (by omega)]
  have h := Hi.byte b j hj
  have e : min ((8 * j : Nat) : Int).toNat IntKind.u64.bits = 8 * j := by
    have : IntKind.u64.bits = 64 := rfl
    omega
  rw [e, wrap_u64 h.1 h.2.1]
theorem word_ok (l : List UInt8) (hl : 8 ≤ l.length) (w : World) : ∃ x : Int, C 82 #[st l] w = some (.int .u64 x, w.drew) ∧ Hi x (fun i => decide (128 ≤ (l.getD i 0).toNat)) := by
  have i0 := str_index (P := Tryz.prog) Tryz.underlying9 l .i64 0 (by omega)
  have c0 := cv5_159 ((l[0]).toNat : Int)
  rw [wrap_u64 (by omega) (by have := (l[0]).toNat_lt; omega)] at c0
  have i1 := str_index (P := Tryz.prog) Tryz.underlying9 l .i64 1 (by omega)
  have c1 := cv5_159 ((l[1]).toNat : Int)
  rw [wrap_u64 (by omega) (by have := (l[1]).toNat_lt; omega)] at c1
  have s1 := fun x y => sh_byte l[1] 1 (by omega) 159 x y
  have i2 := str_index (P := Tryz.prog) Tryz.underlying9 l .i64 2 (by omega)
  have c2 := cv5_159 ((l[2]).toNat : Int)
  rw [wrap_u64 (by omega) (by have := (l[2]).toNat_lt; omega)] at c2
  have s2 := fun x y => sh_byte l[2] 2 (by omega) 159 x y
  have i3 := str_index (P := Tryz.prog) Tryz.underlying9 l .i64 3 (by omega)
  have c3 := cv5_159 ((l[3]).toNat : Int)
  rw [wrap_u64 (by omega) (by have := (l[3]).toNat_lt; omega)] at c3
  have s3 := fun x y => sh_byte l[3] 3 (by omega) 159 x y
  have i4 := str_index (P := Tryz.prog) Tryz.underlying9 l .i64 4 (by omega)
  have c4 := cv5_159 ((l[4]).toNat : Int)
  rw [wrap_u64 (by omega) (by have := (l[4]).toNat_lt; omega)] at c4
  have s4 := fun x y => sh_byte l[4] 4 (by omega) 159 x y
  have i5 := str_index (P := Tryz.prog) Tryz.underlying9 l .i64 5 (by omega)
  have c5 := cv5_159 ((l[5]).toNat : Int)
  rw [wrap_u64 (by omega) (by have := (l[5]).toNat_lt; omega)] at c5
  have s5 := fun x y => sh_byte l[5] 5 (by omega) 159 x y
  have i6 := str_index (P := Tryz.prog) Tryz.underlying9 l .i64 6 (by omega)
  have c6 := cv5_159 ((l[6]).toNat : Int)
  rw [wrap_u64 (by omega) (by have := (l[6]).toNat_lt; omega)] at c6
  have s6 := fun x y => sh_byte l[6] 6 (by omega) 159 x y
  have i7 := str_index (P := Tryz.prog) Tryz.underlying9 l .i64 7 (by omega)
  have c7 := cv5_159 ((l[7]).toNat : Int)
  rw [wrap_u64 (by omega) (by have := (l[7]).toNat_lt; omega)] at c7
  have s7 := fun x y => sh_byte l[7] 7 (by omega) 159 x y
  have h := ((((((((Hi.byte l[0] 0 (by omega)).or (Hi.byte l[1] 1 (by omega))).or (Hi.byte l[2] 2 (by omega))).or (Hi.byte l[3] 3 (by omega))).or (Hi.byte l[4] 4 (by omega))).or (Hi.byte l[5] 5 (by omega))).or (Hi.byte l[6] 6 (by omega))).or (Hi.byte l[7] 7 (by omega)))
  refine ⟨_, f82.run rfl ?_, h.eq fun i hi => ?_⟩
  · simp at s1 s2 s3 s4 s5 s6 s7 i0 i1 i2 i3 i4 i5 i6 i7
    simp [f82, i0, c0, i1, c1, i2, c2, i3, c3, i4, c4, i5, c5, i6, c6, i7, c7, s1, s2, s3, s4, s5, s6, s7, p_or]
  · rcases (show i = 0 ∨ i = 1 ∨ i = 2 ∨ i = 3 ∨ i = 4 ∨ i = 5 ∨ i = 6 ∨ i = 7 by omega) with rfl | rfl | rfl | rfl | rfl | rfl | rfl | rfl <;> simp [List.getD_eq_getElem?_getD, List.getElem?_eq_getElem, (by omega : 0 < l.length), (by omega : 1 < l.length), (by omega : 2 < l.length), (by omega : 3 < l.length), (by omega : 4 < l.length), (by omega : 5 < l.length), (by omega : 6 < l.length), (by omega : 7 < l.length)]
end Go.Sh.YtkghbcadnbojgaaGreatDoor
