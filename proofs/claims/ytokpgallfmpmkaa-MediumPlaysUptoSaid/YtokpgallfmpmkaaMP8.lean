/- medium: the document's medium: a piece's Read, Overwrite. Conditions: those of each statement. -/
import Derived.Test.YtokpgallfmpmkaaMP7
namespace Go.Sh.Ytokpgallfmpmkaa
open Go Go.Proofs Go.RowKit
set_option linter.unusedVariables false
set_option linter.unusedSimpArgs false
set_option maxRecDepth 100000
section
variable {W w : World} {X : Asn W.heap.size} {R P : Nat} {s : Pm}
theorem r_pread {a n : Nat} (x : Sat W (rmedA R s * (rpcA P R a n * X)) w) (hf : s.fit) (han : a + n ≤ 268435456) (i k : Int) : ∃ v w', C 55 #[.pointer (some ⟨P, 0, none⟩), .int .i64 i, .int .i64 k] w = some (.tuple #[v, .int .i64 (s.pread a n i k).2.1], w') ∧ Sat W (rowA 5 1 v (s.pread a n i k).1.length (bv (s.pread a n i k).1) * (rmedA R (s.pread a n i k).2.2 * (rpcA P R a n * X))) w' := by
  obtain ⟨B, L, y⟩ := x.rmed
  have b := x.swap
  have p0 := b.cell 0 rfl
  have p1 := b.cell 1 rfl
  have p2 := b.cell 2 rfl
  have c1 := y.cell 1 rfl
  cases hd : s.dead with
  | true =>
    rw [hd] at c1
    refine ⟨_, w, f55.run rfl ?_, by simpa [Pm.pread, hd, bv] using x.nilRow 5 1⟩
    simp [f55, addL, p0, c1, Pm.pread, hd]
  | false =>
    rw [hd] at c1
    have hli := rlies_ok i k n (by omega) (by omega) w
    by_cases hi : inr i k n
    · rw [decide_eq_true (show (0 ≤ i ∧ 0 ≤ k ∧ i ≤ (n : Int) ∧ k ≤ n - i) from hi)] at hli
      have e1 : IntKind.i64.wrap ((a : Int) + i) = a + i := by obtain ⟨q1, q2, q3, q4⟩ := hi; exact wrap_i64 (by omega) (by omega)
      obtain ⟨v, w', h1, x1⟩ := r_read x.drew hf (a + i) k
      refine ⟨v, w', f55.run rfl ?_, by simpa [Pm.pread, hd, hi] using x1⟩
      simp [f55, addL, p0, p1, p2, c1, hli, bool_not, e1, h1, chkThen, Pm.pread, hd, hi]
    · rw [decide_eq_false (show ¬ (0 ≤ i ∧ 0 ≤ k ∧ i ≤ (n : Int) ∧ k ≤ n - i) from hi)] at hli
      refine ⟨_, w, f55.run rfl ?_, by simpa [Pm.pread, hd, hi, bv] using x.nilRow 5 1⟩
      simp [f55, addL, p0, p2, c1, hli, bool_not, Pm.pread, hd, hi]
theorem over_step (l z : List UInt8) (i j : Nat) (h : i + z.length ≤ l.length) (hj : j < z.length) : (l.take i ++ z.take j ++ l.drop (i + j)).set (i + j) z[j] = l.take i ++ z.take (j + 1) ++ l.drop (i + (j + 1)) := by
  have h1 : (l.take i ++ z.take j).length = i + j := by simp; omega
  rw [List.set_append_right (i + j) _ (by omega), h1, Nat.sub_self, List.take_succ_eq_append_getElem hj]
  have h2 : l.drop (i + j) = l[i + j] :: l.drop (i + j + 1) := List.drop_eq_getElem_cons (by omega)
  rw [h2, List.set_cons_zero]
  simp only [List.append_assoc, List.cons_append, List.nil_append, Nat.add_assoc]
theorem r_over (x : Sat W (rmedA R s * X) w) (hf : s.fit) {A : Option Addr} {n c : Nat} {z : List UInt8} (hz : z.length = n) (hr : Rd W A (bv z)) (hn : n ≤ 268435456) (i : Int) :
    ∃ w', C 39 #[.pointer (some ⟨R, 0, none⟩), .int .i64 i, .slice A n c] w = some (.int .i64 (s.over i z).1, w') ∧ Sat W (rmedA R (s.over i z).2 * X) w' := by
  obtain ⟨B, L, y⟩ := x.rmed
  obtain ⟨A0, c0, rfl, _⟩ := own_form y.swap.row
  have hl := hf.l
  subst hz
  have hli := rlies_ok i z.length s.l.length (by omega) (by omega) w
  by_cases hi : inr i z.length s.l.length
  · rw [decide_eq_true (show (0 ≤ i ∧ 0 ≤ (z.length : Int) ∧ i ≤ (s.l.length : Int) ∧ (z.length : Int) ≤ s.l.length - i) from hi)] at hli
    obtain ⟨a, b, rfl, hb, hab⟩ := inr_nat hi
    obtain rfl : z.length = b := by omega
    have key := iter_down (f := f39.l0 C) (fun d vs w1 => ∃ j : Nat, vs = [.pointer (some ⟨R, 0, none⟩), .int .i64 a, .slice A z.length c, .int .i64 j] ∧ j + d = z.length ∧
        Sat W (blkA R 87 [.slice A0 s.l.length c0, .bool s.dead, .int .i64 s.armed, .int .i64 s.keep, L] * (rowA 5 1 (.slice A0 s.l.length c0) s.l.length (bv (s.l.take a ++ z.take j ++ s.l.drop (a + j))) * (rowA 40 2 L s.g.length (sc s.g) * X))) w1)
      (fun r => ∃ w1, r = .exit 0 [] w1 ∧ Sat W (blkA R 87 [.slice A0 s.l.length c0, .bool s.dead, .int .i64 s.armed, .int .i64 s.keep, L] * (rowA 5 1 (.slice A0 s.l.length c0) s.l.length (bv (s.l.take a ++ z ++ s.l.drop (a + z.length))) * (rowA 40 2 L s.g.length (sc s.g) * X))) w1) (by
        rintro d vs w1 ⟨j, rfl, hj, y1⟩
        cases d with
        | zero =>
          obtain rfl : j = z.length := by omega
          rw [List.take_length] at y1
          exact .inr ⟨_, by simp [f39.l0], ⟨w1, rfl, y1⟩, by simp⟩
        | succ d =>
          have hlt : j < z.length := by omega
          have e1 : IntKind.i64.wrap ((j : Int) + 1) = ((j + 1 : Nat) : Int) := (wrap_i64 (by omega) (by omega)).trans (by omega)
          have e2 : IntKind.i64.wrap ((a : Int) + j) = (a : Int) + j := wrap_i64 (by omega) (by omega)
          have cB := y1.cell 0 rfl
          have hrd := y1.rd hr
          have y1 := y1.drew
          cases A with
          | none =>
            have : bv z = [] := hrd
            have : z = [] := by simpa [bv] using this
            subst this
            simp at hlt
          | some a' =>
            have i1 := ix22 a' z.length c .i64 j (by omega) (by omega)
            simp only [Int.toNat_natCast, Nat.mul_one] at i1
            have v1 := hrd j (.int .u8 (z[j]).toNat) (by simp [bv, hlt])
            obtain ⟨a1, w2, rfl, hb1, h2, o2, g2⟩ := own_store (P := Try.prog) (j := a + j) (v := .int .u8 (z[j]).toNat) y1.swap.row inf5 size5 (by omega) rfl rfl
            have i2 := ix22 a1 s.l.length c0 .i64 ((a : Int) + j) (by omega) (by omega)
            rw [show ((a : Int) + j).toNat = a + j by omega, Nat.mul_one] at i2
            have y2 := (y1.swap.rowStep g2 o2 fun k hk => .inl hk).swap
            have hset : (bv (s.l.take a ++ z.take j ++ s.l.drop (a + j))).set (a + j) (.int .u8 (z[j]).toNat) = bv (s.l.take a ++ z.take (j + 1) ++ s.l.drop (a + (j + 1))) := by
              rw [← over_step s.l z a j hab hlt]
              simp [bv, List.map_set]
            rw [hset] at y2
            refine .inl ⟨d, _, w2, by omega, ?_, ⟨j + 1, rfl, by omega, y2⟩⟩
            simp (disch := omega) [f39.l0, lt_t, addL, cB, e1, e2, i1, i2, v1, h2]) z.length _ w ⟨0, rfl, by omega, y.eq (by simp)⟩
    obtain ⟨r, h1, w1, rfl, y1⟩ := key
    have hlen : (s.l.take a ++ z ++ s.l.drop (a + z.length)).length = s.l.length := by simp; omega
    have yf : Sat W (rmedA R (s.over a z).2 * X) w1 := Sat.toRmed (B := .slice A0 s.l.length c0) (L := L) (s := (s.over a z).2) (y1.eq (by
      simp only [Pm.over, hi, if_true, Int.toNat_natCast]
      rw [hlen]))
    refine ⟨w1, f39.run rfl ?_, yf⟩
    simp at h1
    simp [f39, addL, y.cell 0 rfl, hli, bool_not, h1, Pm.over, hi]
  · rw [decide_eq_false (show ¬ (0 ≤ i ∧ 0 ≤ (z.length : Int) ∧ i ≤ (s.l.length : Int) ∧ (z.length : Int) ≤ s.l.length - i) from hi)] at hli
    refine ⟨w, f39.run rfl ?_, by simpa [Pm.over, hi] using x⟩
    simp [f39, addL, y.cell 0 rfl, hli, bool_not, Pm.over, hi]
end
end Go.Sh.Ytokpgallfmpmkaa
