/- medium: the law's step: what comes ahead, what comes behind, whatever the kind. Conditions: those of each statement. -/
import Derived.Test.YtokpgallfmpmkaaMPL
namespace Go.Sh.Ytokpgallfmpmkaa
open Go Go.Proofs Go.RowKit
set_option linter.unusedVariables false
set_option linter.unusedSimpArgs false
set_option maxRecDepth 100000
section
variable {W w : World} {X : Asn W.heap.size} {p K : Nat} {x : Pr} {b : Bk}
theorem reads_ok {L G N : Nat} (y : Sat W (pairA p x * (bookA K b * X)) w) (h : x.ok L G) (hb : b.fit N) (hL : L ≤ 268435456) (hG : G ≤ 2000000000) (hN : N + 1 ≤ 2000000000) (hP : x.pcs.length ≤ 4000000000) (kind n m : Int) (two : Bool) (AB : Option Addr) (lb cb : Nat) :
    ∃ x' b' w', C 24 #[ptr p, ptr K, opV kind n m two (.slice AB lb cb)] w = some (.bool true, w') ∧ x'.ok L (G + 1) ∧ x'.pcs.length = x.pcs.length ∧ b'.fit (N + 2) ∧ Sat W (pairA p x' * (bookA K b' * X)) w' := by
  by_cases h1 : kind = 1
  · subst h1
    exact reads_1 y h hb hL (by omega) (by omega) n m two (.slice AB lb cb)
  · by_cases h2 : kind = 11
    · subst h2
      obtain ⟨b', w', e1, e3, e4⟩ := reads_11 y h hb hL (by omega) hN n m two (.slice AB lb cb)
      exact ⟨x, b', w', e1, h.mono (Nat.le_refl _) (by omega), rfl, e3, e4⟩
    · by_cases h3 : kind = 7
      · subst h3
        obtain ⟨b', w', e1, e3, e4⟩ := reads_7 y h hb hL hG hN n m two (.slice AB lb cb)
        exact ⟨x, b', w', e1, h.mono (Nat.le_refl _) (by omega), rfl, e3, e4⟩
      · exact pread_piece y h hb hL (by omega) (by omega) hP kind n m h1 h2 h3 two AB lb cb
/-- what is done behind each step -/
theorem step_tail {O : Nat} {kind n m : Int} {two : Bool} {A : Option Addr} {c : Nat} {z : List UInt8} {a : Addr} {L G N : Nat}
    (y : Sat W (pairA p x * (bookA K b * (blkA O 68 (opC kind n m two (.slice A z.length c)) * (rowA 5 1 (.slice (some a) (z.length + 5) (z.length + 5)) (z.length + 5) (bv (spare z)) * X)))) w)
    (h : x.ok L G) (hb : b.fit N) (hN : N ≤ 2000000000) (hr : Rd W A (bv z)) (hz : z.length ≤ 268435456) :
    ∃ b' w3 w4 w5 w6, w.cell? ⟨O, 4, none⟩ = some (.slice A z.length c) ∧ C 45 #[.slice (some a) (z.length + 5) (z.length + 5), .slice A z.length c] w = some (.bool true, w3) ∧ C 25 #[ptr K] w3 = some (.bool true, w4) ∧
      w4.cell? ⟨p, 0, none⟩ = some (ptr x.cur.M) ∧ w4.cell? ⟨p, 1, none⟩ = some (ptr x.cur.R) ∧ C 11 #[ptr x.cur.M] w4.drew = some (.int .i64 x.cur.s.l.length, w5) ∧
      w5.cell? ⟨p, 0, none⟩ = some (ptr x.cur.M) ∧ w5.cell? ⟨p, 1, none⟩ = some (ptr x.cur.R) ∧ C 46 #[ptr x.cur.R] w5 = some (.int .i64 x.cur.s.l.length, w5) ∧ C 12 #[ptr x.cur.M] w5 = some (.bool x.cur.s.dead, w6) ∧
      w6.cell? ⟨p, 1, none⟩ = some (ptr x.cur.R) ∧ C 47 #[ptr x.cur.R] w6 = some (.bool x.cur.s.dead, w6) ∧ b'.fit N ∧ Sat W (pairA p x * (bookA K b' * X)) w6 := by
  have y1 := y.eq (by ac_rfl : _ = blkA O 68 (opC kind n m two (.slice A z.length c)) * (rowA 5 1 (.slice (some a) (z.length + 5) (z.length + 5)) (z.length + 5) (bv (spare z)) * (bookA K b * (pairA p x * X))))
  have o4 := y1.cell 4 rfl
  obtain ⟨w3, h3, y3⟩ := spent_ok a (c := c) hr hz y1.right
  obtain ⟨b', w4, h4, hb', _, _, y4⟩ := own_ok y3 hb hN
  obtain ⟨sv, pv, y5⟩ := (y4.swap).pairCur h
  obtain ⟨S, hS⟩ : ∃ S : Asn W.heap.size, S = restA p x x.c sv pv := ⟨_, rfl⟩
  rw [← hS] at y5
  have k4 := (y5.eq (by ac_rfl : _ = blkA p 66 [ptr x.cur.M, ptr x.cur.R, sv, pv] * (medA x.cur.M x.cur.s * (rmedA x.cur.R x.cur.s * (S * (bookA K b' * X))))))
  obtain ⟨w5, h5, y6⟩ := m_size y5.drew
  have k5 := (y6.eq (by ac_rfl : _ = blkA p 66 [ptr x.cur.M, ptr x.cur.R, sv, pv] * (medA x.cur.M x.cur.s * (rmedA x.cur.R x.cur.s * (S * (bookA K b' * X))))))
  have h6 := r_size y6.swap
  obtain ⟨w6, h7, y7⟩ := m_dead y6
  have k6 := (y7.eq (by ac_rfl : _ = blkA p 66 [ptr x.cur.M, ptr x.cur.R, sv, pv] * (medA x.cur.M x.cur.s * (rmedA x.cur.R x.cur.s * (S * (bookA K b' * X))))))
  have h8 := r_dead y7.swap
  have y8 := Sat.toPairCur (s' := x.cur.s) h (y7.eq (by rw [hS]))
  rw [upd_self h] at y8
  exact ⟨b', w3, w4, w5, w6, o4, h3, h4, k4.cell 0 rfl, k4.cell 1 rfl, h5, k5.cell 0 rfl, k5.cell 1 rfl, h6, h7, k6.cell 1 rfl, h8, hb', y8⟩
/-- what is done ahead of each step -/
theorem step_pre (y : Sat W (pairA p x * (bookA K b * X)) w) {A : Option Addr} {c : Nat} {z : List UInt8} (hr : Rd W A (bv z)) (hnil : A = none → c = 0) (hz : z.length ≤ 268435456) (kind n m : Int) (two : Bool) :
    ∃ a w2, (w.alloc (.cells #[.int .i64 kind, .int .i64 n, .int .i64 m, .bool two, .slice A z.length c] 68)).cell? ⟨w.heap.size, 4, none⟩ = some (.slice A z.length c) ∧
      C 34 #[.slice A z.length c] (w.alloc (.cells #[.int .i64 kind, .int .i64 n, .int .i64 m, .bool two, .slice A z.length c] 68)) = some (.slice (some a) (z.length + 5) (z.length + 5), w2) ∧
      Sat W (pairA p x * (bookA K b * (blkA w.heap.size 68 (opC kind n m two (.slice A z.length c)) * (rowA 5 1 (.slice (some a) (z.length + 5) (z.length + 5)) (z.length + 5) (bv (spare z)) * X)))) w2 := by
  have y1 := y.newBlk 68 (opC kind n m two (.slice A z.length c))
  obtain ⟨a, w2, h2, y2⟩ := lent_ok y1 hr hnil hz
  exact ⟨a, w2, y1.cell 4 rfl, h2, y2.eq (by ac_rfl)⟩
/-- a step that changes the current medium only -/
theorem step_4 {L G N : Nat} (y : Sat W (pairA p x * (bookA K b * X)) w) (h : x.ok L G) (hb : b.fit N) (hL : L ≤ 268435456) (hG : G ≤ 2000000000) (hN : N ≤ 2000000000) {A : Option Addr} {c : Nat} {z : List UInt8} (hr : Rd W A (bv z)) (hnil : A = none → c = 0) (hz : z.length ≤ 268435456) (n m : Int) (two : Bool) :
    ∃ x' b' w', C 23 #[ptr p, ptr K, opV 4 n m two (.slice A z.length c)] w = some (.bool true, w') ∧ x'.ok L G ∧ x'.pcs.length = x.pcs.length ∧ b'.fit N ∧ Sat W (pairA p x' * (bookA K b' * X)) w' := by
  obtain ⟨a, w2, o4, e2, y2⟩ := step_pre y hr hnil hz 4 n m two
  have o0 := (y2.eq (by ac_rfl : _ = blkA w.heap.size 68 (opC 4 n m two (.slice A z.length c)) * (pairA p x * (bookA K b * (rowA 5 1 (.slice (some a) (z.length + 5) (z.length + 5)) (z.length + 5) (bv (spare z)) * X))))).cell 0 rfl
  obtain ⟨sv, pv, y3⟩ := y2.pairCur h
  obtain ⟨S, hS⟩ : ∃ S : Asn W.heap.size, S = restA p x x.c sv pv := ⟨_, rfl⟩
  rw [← hS] at y3
  obtain ⟨PB, hPB⟩ : ∃ PB : Asn W.heap.size, PB = blkA p 66 [ptr x.cur.M, ptr x.cur.R, sv, pv] := ⟨_, rfl⟩
  rw [← hPB] at y3
  have k1 := (y3.eq (by rw [hPB]; ac_rfl : _ = blkA p 66 [ptr x.cur.M, ptr x.cur.R, sv, pv] * (medA x.cur.M x.cur.s * (rmedA x.cur.R x.cur.s * (S * (bookA K b * (blkA w.heap.size 68 (opC 4 n m two (.slice A z.length c)) * (rowA 5 1 (.slice (some a) (z.length + 5) (z.length + 5)) (z.length + 5) (bv (spare z)) * X)))))))).cell 0 rfl
  obtain ⟨w3, e3, y4⟩ := m_revive y3
  have k2 := (y4.eq (by rw [hPB]; ac_rfl : _ = blkA p 66 [ptr x.cur.M, ptr x.cur.R, sv, pv] * (medA x.cur.M x.cur.s.revive * (rmedA x.cur.R x.cur.s * (S * (bookA K b * (blkA w.heap.size 68 (opC 4 n m two (.slice A z.length c)) * (rowA 5 1 (.slice (some a) (z.length + 5) (z.length + 5)) (z.length + 5) (bv (spare z)) * X)))))))).cell 1 rfl
  obtain ⟨w4, e4, y5⟩ := r_revive y4.swap
  have y6 := Sat.toPairCur (s' := x.cur.s.revive) h (y5.swap.eq (by rw [hS, hPB]))
  have h' := h.upd h.cur (ok_revive h.self) (Nat.le_refl _) (Nat.le_refl _)
  obtain ⟨b', w5, w6, w7, w8, t1, t2, t3, t4, t5, t6, t7, t8, t9, t10, t11, t12, hb', y7⟩ := step_tail y6 h' hb hN hr hz
  refine ⟨_, b', w8, f23.run rfl ?_, h', rfl, hb', y7⟩
  simp [f23, opV, opC, box_any, Value.cells, addL, o4, e2, o0, k1, e3, k2, e4, t1, t2, t3, t4, t5, t6, t7, t8, t9, t10, t11, t12, wantedV, pickV, chkThen]
end
end Go.Sh.Ytokpgallfmpmkaa
