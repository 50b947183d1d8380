/- medium: the law's own functions: lent, spent, take, tells. Conditions: those of each statement. -/
import Derived.Test.YtokpgallfmpmkaaMP8
import Derived.Test.YtokpgallfmpmkaaShClip
namespace Go.Sh.Ytokpgallfmpmkaa
open Go Go.Proofs Go.RowKit
set_option linter.unusedVariables false
set_option linter.unusedSimpArgs false
set_option maxRecDepth 100000
theorem set_next {α : Type} (A : List α) (x y : α) (B : List α) {i : Nat} (hi : i = A.length) : (A ++ x :: B).set i y = A ++ y :: B := by
  subst hi
  rw [List.set_append_right _ _ (Nat.le_refl _), Nat.sub_self, List.set_cons_zero]
theorem bv_set (l : List UInt8) (i : Nat) (x : UInt8) : (bv l).set i (.int .u8 x.toNat) = bv (l.set i x) := by simp [bv, List.map_set]
theorem bv_get {l : List UInt8} {i : Nat} (h : i < l.length) : (bv l)[i]? = some (.int .u8 (l[i]).toNat) := by simp [bv, h]
/-- bytes with spare room behind them -/
def spare (z : List UInt8) : List UInt8 := z ++ List.replicate 5 201
theorem spare_len (z : List UInt8) : (spare z).length = z.length + 5 := by simp [spare]
section
variable {W w : World} {X : Asn W.heap.size}
theorem lent_ok (x : Sat W X w) {A : Option Addr} {c : Nat} {z : List UInt8} (hr : Rd W A (bv z)) (hnil : A = none → c = 0) (hn : z.length ≤ 268435456) :
    ∃ a w', C 34 #[.slice A z.length c] w = some (.slice (some a) (z.length + 5) (z.length + 5), w') ∧ Sat W (rowA 5 1 (.slice (some a) (z.length + 5) (z.length + 5)) (z.length + 5) (bv (spare z)) * X) w' := by
  obtain ⟨N, hN⟩ : ∃ N : Nat, N = z.length + 5 := ⟨_, rfl⟩
  obtain ⟨w1, h1, o1, g1⟩ := mk22 (w := w) w.heap.size N (by omega) (by simp [maxLen]; omega) (Nat.le_refl _)
  have x1 := x.newRow g1 o1
  have e0 : (madeCells ((.int .u8 0) : Value).cells (N * 1)).toList = bv (List.replicate N 0) := by simp [toList_madeCells_one, Value.cells, bv]
  rw [e0] at x1
  obtain ⟨w2, h2, o2, g2⟩ := own_copy (P := Try.prog) (dT := 22) (sT := 22) (ty := 3) (A' := A) (sn := z.length) (sc := c) (cs := bv z) x1.row Try.underlying22 inf5 size5 (o := 0) (by omega) (x1.rd hr) (by simp) hnil (bv_one z)
  have x2 := x1.rowStep g2 o2 fun k hk => .inl hk
  have hN0 : N ≠ 0 := by omega
  have hmin : min z.length N = z.length := by omega
  simp only [hN0, if_false, Option.map_some, addL, Nat.zero_mul, Nat.add_zero, Nat.sub_zero, hmin] at h2
  have e2 : (bv (List.replicate N 0)).take 0 ++ (bv z).take (N - 0) ++ (bv (List.replicate N 0)).drop (0 + min z.length (N - 0)) = bv (z ++ List.replicate 0 201 ++ List.replicate (5 - 0) 0) := by
    rw [List.take_zero, List.nil_append, List.take_of_length_le (by simp [bv]; omega), Nat.sub_zero, hmin]
    have : N - z.length = 5 := by omega
    simp [bv, this]
  rw [e2] at x2
  have key := iter_down (f := f34.l0 C) (fun d vs w1 => ∃ j : Nat, vs = [.slice (some ⟨w.heap.size, 0, none⟩) N N, .int .i64 ((z.length + j : Nat) : Int)] ∧ j + d = 5 ∧ Sat W (rowA 5 1 (.slice (some ⟨w.heap.size, 0, none⟩) N N) N (bv (z ++ List.replicate j 201 ++ List.replicate (5 - j) 0)) * X) w1)
    (fun r => ∃ w1, r = .exit 0 [.slice (some ⟨w.heap.size, 0, none⟩) N N] w1 ∧ Sat W (rowA 5 1 (.slice (some ⟨w.heap.size, 0, none⟩) N N) N (bv (spare z)) * X) w1) (by
      rintro d vs w1 ⟨j, rfl, hj, y⟩
      cases d with
      | zero =>
        obtain rfl : j = 5 := by omega
        refine .inr ⟨_, ?_, ⟨w1, rfl, by simpa [spare] using y⟩, by simp⟩
        simp (disch := omega) [f34.l0, lt_f]
      | succ d =>
        have e1 : IntKind.i64.wrap (((z.length + j : Nat) : Int) + 1) = ((z.length + (j + 1) : Nat) : Int) := (wrap_i64 (by omega) (by omega)).trans (by omega)
        obtain ⟨a1, w2, ha, hb1, h2, o2, g2⟩ := own_store (P := Try.prog) (j := z.length + j) (v := .int .u8 201) y.row inf5 size5 (by omega) rfl rfl
        cases ha
        have i2 := ix22 ⟨w.heap.size, 0, none⟩ N N .i64 ((z.length + j : Nat) : Int) (by omega) (by omega)
        simp only [Int.toNat_natCast, Nat.mul_one] at i2
        have y2 := y.rowStep g2 o2 fun k hk => .inl hk
        have es : (bv (z ++ List.replicate j 201 ++ List.replicate (5 - j) 0)).set (z.length + j) (.int .u8 201) = bv (z ++ List.replicate (j + 1) 201 ++ List.replicate (5 - (j + 1)) 0) := by
          have h5 : 5 - j = (5 - (j + 1)) + 1 := by omega
          rw [h5, List.replicate_succ]
          have := bv_set (z ++ List.replicate j 201 ++ 0 :: List.replicate (5 - (j + 1)) 0) (z.length + j) 201
          rw [show ((201 : UInt8).toNat : Int) = 201 from rfl] at this
          rw [this, set_next _ _ _ _ (by simp), List.replicate_succ' (n := j)]
          simp
        rw [es] at y2
        refine .inl ⟨d, _, w2, by omega, ?_, ⟨j + 1, rfl, by omega, y2⟩⟩
        have lt : ((z.length + j : Nat) : Int) < (N : Int) := by omega
        simp only [Int.natCast_add] at e1 i2 lt h2 ⊢
        simp [f34.l0, lt, i2, h2, e1]) 5 _ w2 ⟨0, rfl, by omega, x2⟩
  obtain ⟨r, h3, w3, rfl, x3⟩ := key
  subst hN
  refine ⟨_, w3, f34.run rfl ?_, x3⟩
  have e5 : IntKind.i64.wrap ((z.length : Int) + 5) = ((z.length + 5 : Nat) : Int) := (wrap_i64 (by omega) (by omega)).trans (by omega)
  simp only [Nat.add_zero] at h3
  simp [f34, e5] at h1 h3 ⊢
  simp [h1, h2, h3]
theorem spent_ok (a : Addr) {z : List UInt8} {A : Option Addr} {c : Nat} (hr : Rd W A (bv z)) (hn : z.length ≤ 268435456) (x : Sat W (rowA 5 1 (.slice (some a) (z.length + 5) (z.length + 5)) (z.length + 5) (bv (spare z)) * X) w) :
    ∃ w', C 45 #[.slice (some a) (z.length + 5) (z.length + 5), .slice A z.length c] w = some (.bool true, w') ∧ Sat W X w' := by
  obtain ⟨N, hN⟩ : ∃ N : Nat, N = z.length + 5 := ⟨_, rfl⟩
  rw [← hN] at x
  have hZ := spare_len z
  have key := iter_down (f := f45.l0 C) (fun d vs w1 => ∃ j : Nat, vs = [.slice (some a) N N, .slice A z.length c, .bool true, .int .i64 j] ∧ j + d = N ∧ Sat W (rowA 5 1 (.slice (some a) N N) N (bv (List.replicate j 77 ++ (spare z).drop j)) * X) w1)
    (fun r => ∃ w1, r = .exit 0 [.bool true] w1 ∧ Sat W X w1) (by
      rintro d vs w1 ⟨j, rfl, hj, y⟩
      cases d with
      | zero =>
        obtain rfl : j = N := by omega
        refine .inr ⟨_, ?_, ⟨w1, rfl, y.right⟩, by simp⟩
        simp (disch := omega) [f45.l0, lt_f]
      | succ d =>
        have hjN : j < (spare z).length := by omega
        have e1 : IntKind.i64.wrap ((j : Int) + 1) = ((j + 1 : Nat) : Int) := (wrap_i64 (by omega) (by omega)).trans (by omega)
        have hdrop : (spare z).drop j = (spare z)[j] :: (spare z).drop (j + 1) := List.drop_eq_getElem_cons hjN
        rw [hdrop] at y
        have v0 : w1.cell? (a.add j) = some (.int .u8 ((spare z)[j]).toNat) := by
          have := Rd.owned y.row j (.int .u8 ((spare z)[j]).toNat) (by
            have hlt : j < (List.replicate j (77 : UInt8) ++ (spare z)[j] :: (spare z).drop (j + 1)).length := by rw [List.length_append, List.length_replicate, List.length_cons]; omega
            rw [bv_get hlt]
            simp)
          exact this
        have y := y.drew
        obtain ⟨a1, w2, ha, hb1, h2, o2, g2⟩ := own_store (P := Try.prog) (j := j) (v := .int .u8 77) y.row inf5 size5 (by omega) rfl rfl
        cases ha
        have i1 := ix22 a N N .i64 (j : Int) (by omega) (by omega)
        simp only [Int.toNat_natCast, Nat.mul_one] at i1
        have y2 := y.rowStep g2 o2 fun k hk => .inl hk
        have es : (bv (List.replicate j 77 ++ (spare z)[j] :: (spare z).drop (j + 1))).set j (.int .u8 77) = bv (List.replicate (j + 1) 77 ++ (spare z).drop (j + 1)) := by
          have := bv_set (List.replicate j 77 ++ (spare z)[j] :: (spare z).drop (j + 1)) j 77
          rw [show ((77 : UInt8).toNat : Int) = 77 from rfl] at this
          rw [this, set_next _ _ _ _ (by simp), List.replicate_succ' (n := j)]
          simp
        rw [es] at y2
        refine .inl ⟨d, _, w2, by omega, ?_, ⟨j + 1, rfl, by omega, y2⟩⟩
        have hlt : (j : Int) < (N : Int) := by omega
        by_cases hz : j < z.length
        · have hz' : (j : Int) < (z.length : Int) := by omega
          have hs : (spare z)[j] = z[j] := by simp [spare, hz]
          rw [hs] at v0
          have hrd := y.rd hr
          cases A with
          | none =>
            have : bv z = [] := hrd
            have : z = [] := by simpa [bv] using this
            subst this
            simp at hz
          | some a' =>
            have i2 := ix22 a' z.length c .i64 (j : Int) (by omega) (by omega)
            simp only [Int.toNat_natCast, Nat.mul_one] at i2
            have v1 : w1.cell? (a'.add j) = some (.int .u8 (z[j]).toNat) := hrd j _ (bv_get hz)
            simp [f45.l0, hlt, hz', i1, i2, v0, v1, h2, e1]
        · have hz' : ¬ (j : Int) < (z.length : Int) := by omega
          have hz2 : (j : Int) ≥ (z.length : Int) := by omega
          have hs : (spare z)[j] = 201 := by
            have : (spare z)[j]? = some 201 := by
              rw [spare, List.getElem?_append_right (by omega), List.getElem?_replicate]
              rw [if_pos (by omega)]
            rw [List.getElem?_eq_getElem hjN] at this
            exact Option.some.inj this
          rw [hs] at v0
          rw [show ((201 : UInt8).toNat : Int) = 201 from rfl] at v0
          simp [f45.l0, hlt, hz', hz2, i1, v0, h2, e1]) N _ w ⟨0, rfl, by omega, by simpa using x⟩
  obtain ⟨r, h3, w3, rfl, x3⟩ := key
  rw [← hN]
  refine ⟨w3, f45.run rfl ?_, x3⟩
  simp at h3
  simp [f45, h3]
end
end Go.Sh.Ytokpgallfmpmkaa
