/- medium: the law's steps that change the current medium only (mpngen.py prints this). Conditions: those of each statement. -/
import Derived.Test.YtokpgallfmpmkaaMPM
namespace Go.Sh.Ytokpgallfmpmkaa
open Go Go.Proofs Go.RowKit
set_option linter.unusedVariables false
set_option linter.unusedSimpArgs false
set_option maxRecDepth 100000
section
variable {W w : World} {X : Asn W.heap.size} {p K : Nat} {x : Pr} {b : Bk}
variable {A : Option Addr} {c : Nat} {z : List UInt8}
theorem step_2 {L G N : Nat} (y : Sat W (pairA p x * (bookA K b * X)) w) (h : x.ok L G) (hb : b.fit N) (hL : L + z.length ≤ 268435456) (hG : G ≤ 2000000000) (hN : N ≤ 2000000000) (hr : Rd W A (bv z)) (hnil : A = none → c = 0) (hc : z.length ≤ c) (n m : Int) (hn : -9223372036854775808 ≤ n ∧ n ≤ 9223372036854775807) (hm : -9223372036854775808 ≤ m ∧ m ≤ 9223372036854775807) (two : Bool) :
    ∃ x' b' w', C 23 #[ptr p, ptr K, opV 2 n m two (.slice A z.length c)] w = some (.bool true, w') ∧ x'.ok (L + z.length) G ∧ x'.pcs.length = x.pcs.length ∧ b'.fit N ∧ Sat W (pairA p x' * (bookA K b' * X)) w' := by
  have hs := h.self
  have hf := hs.fit (by omega : L ≤ 268435456) (by omega : G ≤ 4000000000)
  have hz : z.length ≤ 268435456 := by omega
  have hsl := hs.l
  obtain ⟨a, w2, o4, e2, y2⟩ := step_pre y hr hnil hz 2 n m two
  have oB := (y2.eq (by ac_rfl : _ = blkA w.heap.size 68 (opC 2 n m two (.slice A z.length c)) * (pairA p x * (bookA K b * (rowA 5 1 (.slice (some a) (z.length + 5) (z.length + 5)) (z.length + 5) (bv (spare z)) * X)))))
  have o0 := oB.cell 0 rfl
  have o1 := oB.cell 1 rfl
  have o2 := oB.cell 2 rfl
  have o4b := oB.cell 4 rfl
  obtain ⟨sv, pv, y3⟩ := y2.pairCur h
  obtain ⟨S, hS⟩ : ∃ S : Asn W.heap.size, S = restA p x x.c sv pv := ⟨_, rfl⟩
  rw [← hS] at y3
  obtain ⟨PB, hPB⟩ : ∃ PB : Asn W.heap.size, PB = blkA p 66 [ptr x.cur.M, ptr x.cur.R, sv, pv] := ⟨_, rfl⟩
  rw [← hPB] at y3
  have k1 := (y3.eq (by rw [hPB]; ac_rfl : _ = blkA p 66 [ptr x.cur.M, ptr x.cur.R, sv, pv] * (medA x.cur.M x.cur.s * (rmedA x.cur.R x.cur.s * (S * (bookA K b * (blkA w.heap.size 68 (opC 2 n m two (.slice A z.length c)) * (rowA 5 1 (.slice (some a) (z.length + 5) (z.length + 5)) (z.length + 5) (bv (spare z)) * X))))))))
  have k10 := k1.cell 0 rfl
  have k11 := k1.cell 1 rfl
  have sl : prun Try.prog (Instr.sliceAt 22 (.slice (some a) (z.length + 5) (z.length + 5)) none (some (.int .i64 z.length)) none) = some (.slice (some a) z.length (z.length + 5)) := by
    have hs1 := sl22 (some a) (z.length + 5) (z.length + 5) none (some (.int .i64 z.length)) none 0 z.length (z.length + 5) (by
      have := bounds_hi (P := Try.prog) (z.length + 5) (z.length + 5) .i64 z.length (by omega) (by omega)
      rw [this]; rfl)
    simpa [addL] using hs1
  have tk : (spare z).take z.length = z := by simp [spare]
  obtain ⟨w3, e3, y4⟩ := m_append (y3.drew.eq (by ac_rfl : _ = medA x.cur.M x.cur.s * (rowA 5 1 (.slice (some a) (z.length + 5) (z.length + 5)) (z.length + 5) (bv (spare z)) * (rmedA x.cur.R x.cur.s * (PB * (S * (bookA K b * (blkA w.heap.size 68 (opC 2 n m two (.slice A z.length c)) * X)))))))) hf (by simp) (n := z.length) (c := z.length + 5) (by rw [spare_len]; omega) (by omega) (by omega)
  rw [tk] at e3 y4
  have z4 : Sat W (rmedA x.cur.R x.cur.s * (medA x.cur.M (x.cur.s.append z).2.2 * (PB * (S * (bookA K b * (blkA w.heap.size 68 (opC 2 n m two (.slice A z.length c)) * (rowA 5 1 (.slice (some a) (z.length + 5) (z.length + 5)) (z.length + 5) (bv (spare z)) * X))))))) w3 := y4.eq (by ac_rfl)
  have k2 := (z4.eq (by rw [hPB]; ac_rfl : _ = blkA p 66 [ptr x.cur.M, ptr x.cur.R, sv, pv] * (medA x.cur.M (x.cur.s.append z).2.2 * (rmedA x.cur.R x.cur.s * (S * (bookA K b * (blkA w.heap.size 68 (opC 2 n m two (.slice A z.length c)) * (rowA 5 1 (.slice (some a) (z.length + 5) (z.length + 5)) (z.length + 5) (bv (spare z)) * X))))))))
  have k21 := k2.cell 1 rfl
  have oB2 := (z4.eq (by ac_rfl : _ = blkA w.heap.size 68 (opC 2 n m two (.slice A z.length c)) * (medA x.cur.M (x.cur.s.append z).2.2 * (rmedA x.cur.R x.cur.s * (PB * (S * (bookA K b * (rowA 5 1 (.slice (some a) (z.length + 5) (z.length + 5)) (z.length + 5) (bv (spare z)) * X))))))))
  have p1 := oB2.cell 1 rfl
  have p2 := oB2.cell 2 rfl
  have p4 := oB2.cell 4 rfl
  obtain ⟨w4, e4, y5⟩ := r_append z4.drew hf rfl hr hc hnil (by omega)
  have y6 := Sat.toPairCur (s' := (x.cur.s.append z).2.2) h (y5.eq (by rw [hS, hPB]; ac_rfl : _ = medA x.cur.M (x.cur.s.append z).2.2 * (rmedA x.cur.R (x.cur.s.append z).2.2 * (blkA p 66 [ptr x.cur.M, ptr x.cur.R, sv, pv] * (restA p x x.c sv pv * (bookA K b * (blkA w.heap.size 68 (opC 2 n m two (.slice A z.length c)) * (rowA 5 1 (.slice (some a) (z.length + 5) (z.length + 5)) (z.length + 5) (bv (spare z)) * X))))))))
  have h' := h.upd h.cur (ok_append hs z) (Nat.le_add_right _ _) (Nat.le_refl _)
  obtain ⟨b', w5, w6, w7, w8, t1, t2, t3, t4, t5, t6, t7, t8, t9, t10, t11, t12, hb', y7⟩ := step_tail y6 h' hb hN hr hz
  refine ⟨_, b', w8, f23.run rfl ?_, h', rfl, hb', y7⟩
  simp [f23, opV, opC, box_any, Value.cells, addL, o4, e2, o0, o1, o2, o4b, k10, k11, e3, k21, p1, p2, p4, e4, t1, t2, t3, t4, t5, t6, t7, t8, t9, t10, t11, t12, wantedV, pickV, chkThen, sl]
theorem step_3 {L G N : Nat} (y : Sat W (pairA p x * (bookA K b * X)) w) (h : x.ok L G) (hb : b.fit N) (hL : L + z.length ≤ 268435456) (hG : G ≤ 2000000000) (hN : N ≤ 2000000000) (hr : Rd W A (bv z)) (hnil : A = none → c = 0) (hc : z.length ≤ c) (n m : Int) (hn : -9223372036854775808 ≤ n ∧ n ≤ 9223372036854775807) (hm : -9223372036854775808 ≤ m ∧ m ≤ 9223372036854775807) (two : Bool) :
    ∃ x' b' w', C 23 #[ptr p, ptr K, opV 3 n m two (.slice A z.length c)] w = some (.bool true, w') ∧ x'.ok (L + z.length) G ∧ x'.pcs.length = x.pcs.length ∧ b'.fit N ∧ Sat W (pairA p x' * (bookA K b' * X)) w' := by
  have hs := h.self
  have hf := hs.fit (by omega : L ≤ 268435456) (by omega : G ≤ 4000000000)
  have hz : z.length ≤ 268435456 := by omega
  have hsl := hs.l
  obtain ⟨a, w2, o4, e2, y2⟩ := step_pre y hr hnil hz 3 n m two
  have oB := (y2.eq (by ac_rfl : _ = blkA w.heap.size 68 (opC 3 n m two (.slice A z.length c)) * (pairA p x * (bookA K b * (rowA 5 1 (.slice (some a) (z.length + 5) (z.length + 5)) (z.length + 5) (bv (spare z)) * X)))))
  have o0 := oB.cell 0 rfl
  have o1 := oB.cell 1 rfl
  have o2 := oB.cell 2 rfl
  have o4b := oB.cell 4 rfl
  obtain ⟨sv, pv, y3⟩ := y2.pairCur h
  obtain ⟨S, hS⟩ : ∃ S : Asn W.heap.size, S = restA p x x.c sv pv := ⟨_, rfl⟩
  rw [← hS] at y3
  obtain ⟨PB, hPB⟩ : ∃ PB : Asn W.heap.size, PB = blkA p 66 [ptr x.cur.M, ptr x.cur.R, sv, pv] := ⟨_, rfl⟩
  rw [← hPB] at y3
  have k1 := (y3.eq (by rw [hPB]; ac_rfl : _ = blkA p 66 [ptr x.cur.M, ptr x.cur.R, sv, pv] * (medA x.cur.M x.cur.s * (rmedA x.cur.R x.cur.s * (S * (bookA K b * (blkA w.heap.size 68 (opC 3 n m two (.slice A z.length c)) * (rowA 5 1 (.slice (some a) (z.length + 5) (z.length + 5)) (z.length + 5) (bv (spare z)) * X))))))))
  have k10 := k1.cell 0 rfl
  have k11 := k1.cell 1 rfl
  obtain ⟨w3, e3, y4⟩ := m_arm (y3.drew.eq (by ac_rfl : _ = medA x.cur.M x.cur.s * (rmedA x.cur.R x.cur.s * (PB * (S * (bookA K b * (blkA w.heap.size 68 (opC 3 n m two (.slice A z.length c)) * (rowA 5 1 (.slice (some a) (z.length + 5) (z.length + 5)) (z.length + 5) (bv (spare z)) * X)))))))) n m
  have z4 : Sat W (rmedA x.cur.R x.cur.s * (medA x.cur.M (x.cur.s.arm n m).2 * (PB * (S * (bookA K b * (blkA w.heap.size 68 (opC 3 n m two (.slice A z.length c)) * (rowA 5 1 (.slice (some a) (z.length + 5) (z.length + 5)) (z.length + 5) (bv (spare z)) * X))))))) w3 := y4.eq (by ac_rfl)
  have k2 := (z4.eq (by rw [hPB]; ac_rfl : _ = blkA p 66 [ptr x.cur.M, ptr x.cur.R, sv, pv] * (medA x.cur.M (x.cur.s.arm n m).2 * (rmedA x.cur.R x.cur.s * (S * (bookA K b * (blkA w.heap.size 68 (opC 3 n m two (.slice A z.length c)) * (rowA 5 1 (.slice (some a) (z.length + 5) (z.length + 5)) (z.length + 5) (bv (spare z)) * X))))))))
  have k21 := k2.cell 1 rfl
  have oB2 := (z4.eq (by ac_rfl : _ = blkA w.heap.size 68 (opC 3 n m two (.slice A z.length c)) * (medA x.cur.M (x.cur.s.arm n m).2 * (rmedA x.cur.R x.cur.s * (PB * (S * (bookA K b * (rowA 5 1 (.slice (some a) (z.length + 5) (z.length + 5)) (z.length + 5) (bv (spare z)) * X))))))))
  have p1 := oB2.cell 1 rfl
  have p2 := oB2.cell 2 rfl
  have p4 := oB2.cell 4 rfl
  obtain ⟨w4, e4, y5⟩ := r_arm z4 n m
  have y6 := Sat.toPairCur (s' := (x.cur.s.arm n m).2) h (y5.eq (by rw [hS, hPB]; ac_rfl : _ = medA x.cur.M (x.cur.s.arm n m).2 * (rmedA x.cur.R (x.cur.s.arm n m).2 * (blkA p 66 [ptr x.cur.M, ptr x.cur.R, sv, pv] * (restA p x x.c sv pv * (bookA K b * (blkA w.heap.size 68 (opC 3 n m two (.slice A z.length c)) * (rowA 5 1 (.slice (some a) (z.length + 5) (z.length + 5)) (z.length + 5) (bv (spare z)) * X))))))))
  have h' := h.upd h.cur (ok_arm hs hn.2 hm.2) (Nat.le_refl _) (Nat.le_refl _)
  obtain ⟨b', w5, w6, w7, w8, t1, t2, t3, t4, t5, t6, t7, t8, t9, t10, t11, t12, hb', y7⟩ := step_tail y6 h' hb hN hr hz
  refine ⟨_, b', w8, f23.run rfl ?_, h'.mono (by omega) (Nat.le_refl _), rfl, hb', y7⟩
  simp [f23, opV, opC, box_any, Value.cells, addL, o4, e2, o0, o1, o2, o4b, k10, k11, e3, k21, p1, p2, p4, e4, t1, t2, t3, t4, t5, t6, t7, t8, t9, t10, t11, t12, wantedV, pickV, chkThen]
theorem step_5 {L G N : Nat} (y : Sat W (pairA p x * (bookA K b * X)) w) (h : x.ok L G) (hb : b.fit N) (hL : L + z.length ≤ 268435456) (hG : G ≤ 2000000000) (hN : N ≤ 2000000000) (hr : Rd W A (bv z)) (hnil : A = none → c = 0) (hc : z.length ≤ c) (n m : Int) (hn : -9223372036854775808 ≤ n ∧ n ≤ 9223372036854775807) (hm : -9223372036854775808 ≤ m ∧ m ≤ 9223372036854775807) (two : Bool) :
    ∃ x' b' w', C 23 #[ptr p, ptr K, opV 5 n m two (.slice A z.length c)] w = some (.bool true, w') ∧ x'.ok (L + z.length) G ∧ x'.pcs.length = x.pcs.length ∧ b'.fit N ∧ Sat W (pairA p x' * (bookA K b' * X)) w' := by
  have hs := h.self
  have hf := hs.fit (by omega : L ≤ 268435456) (by omega : G ≤ 4000000000)
  have hz : z.length ≤ 268435456 := by omega
  have hsl := hs.l
  obtain ⟨a, w2, o4, e2, y2⟩ := step_pre y hr hnil hz 5 n m two
  have oB := (y2.eq (by ac_rfl : _ = blkA w.heap.size 68 (opC 5 n m two (.slice A z.length c)) * (pairA p x * (bookA K b * (rowA 5 1 (.slice (some a) (z.length + 5) (z.length + 5)) (z.length + 5) (bv (spare z)) * X)))))
  have o0 := oB.cell 0 rfl
  have o1 := oB.cell 1 rfl
  have o2 := oB.cell 2 rfl
  have o4b := oB.cell 4 rfl
  obtain ⟨sv, pv, y3⟩ := y2.pairCur h
  obtain ⟨S, hS⟩ : ∃ S : Asn W.heap.size, S = restA p x x.c sv pv := ⟨_, rfl⟩
  rw [← hS] at y3
  obtain ⟨PB, hPB⟩ : ∃ PB : Asn W.heap.size, PB = blkA p 66 [ptr x.cur.M, ptr x.cur.R, sv, pv] := ⟨_, rfl⟩
  rw [← hPB] at y3
  have k1 := (y3.eq (by rw [hPB]; ac_rfl : _ = blkA p 66 [ptr x.cur.M, ptr x.cur.R, sv, pv] * (medA x.cur.M x.cur.s * (rmedA x.cur.R x.cur.s * (S * (bookA K b * (blkA w.heap.size 68 (opC 5 n m two (.slice A z.length c)) * (rowA 5 1 (.slice (some a) (z.length + 5) (z.length + 5)) (z.length + 5) (bv (spare z)) * X))))))))
  have k10 := k1.cell 0 rfl
  have k11 := k1.cell 1 rfl
  have sl : prun Try.prog (Instr.sliceAt 22 (.slice (some a) (z.length + 5) (z.length + 5)) none (some (.int .i64 z.length)) none) = some (.slice (some a) z.length (z.length + 5)) := by
    have hs1 := sl22 (some a) (z.length + 5) (z.length + 5) none (some (.int .i64 z.length)) none 0 z.length (z.length + 5) (by
      have := bounds_hi (P := Try.prog) (z.length + 5) (z.length + 5) .i64 z.length (by omega) (by omega)
      rw [this]; rfl)
    simpa [addL] using hs1
  have tk : (spare z).take z.length = z := by simp [spare]
  obtain ⟨w3, e3, y4⟩ := m_over (y3.drew.eq (by ac_rfl : _ = medA x.cur.M x.cur.s * (rowA 5 1 (.slice (some a) (z.length + 5) (z.length + 5)) (z.length + 5) (bv (spare z)) * (rmedA x.cur.R x.cur.s * (PB * (S * (bookA K b * (blkA w.heap.size 68 (opC 5 n m two (.slice A z.length c)) * X)))))))) hf (by simp) (n := z.length) (c := z.length + 5) (by rw [spare_len]; omega) hz n
  rw [tk] at e3 y4
  have z4 : Sat W (rmedA x.cur.R x.cur.s * (medA x.cur.M (x.cur.s.over n z).2 * (PB * (S * (bookA K b * (blkA w.heap.size 68 (opC 5 n m two (.slice A z.length c)) * (rowA 5 1 (.slice (some a) (z.length + 5) (z.length + 5)) (z.length + 5) (bv (spare z)) * X))))))) w3 := y4.eq (by ac_rfl)
  have k2 := (z4.eq (by rw [hPB]; ac_rfl : _ = blkA p 66 [ptr x.cur.M, ptr x.cur.R, sv, pv] * (medA x.cur.M (x.cur.s.over n z).2 * (rmedA x.cur.R x.cur.s * (S * (bookA K b * (blkA w.heap.size 68 (opC 5 n m two (.slice A z.length c)) * (rowA 5 1 (.slice (some a) (z.length + 5) (z.length + 5)) (z.length + 5) (bv (spare z)) * X))))))))
  have k21 := k2.cell 1 rfl
  have oB2 := (z4.eq (by ac_rfl : _ = blkA w.heap.size 68 (opC 5 n m two (.slice A z.length c)) * (medA x.cur.M (x.cur.s.over n z).2 * (rmedA x.cur.R x.cur.s * (PB * (S * (bookA K b * (rowA 5 1 (.slice (some a) (z.length + 5) (z.length + 5)) (z.length + 5) (bv (spare z)) * X))))))))
  have p1 := oB2.cell 1 rfl
  have p2 := oB2.cell 2 rfl
  have p4 := oB2.cell 4 rfl
  obtain ⟨w4, e4, y5⟩ := r_over (c := c) z4 hf rfl hr hz n
  have y6 := Sat.toPairCur (s' := (x.cur.s.over n z).2) h (y5.eq (by rw [hS, hPB]; ac_rfl : _ = medA x.cur.M (x.cur.s.over n z).2 * (rmedA x.cur.R (x.cur.s.over n z).2 * (blkA p 66 [ptr x.cur.M, ptr x.cur.R, sv, pv] * (restA p x x.c sv pv * (bookA K b * (blkA w.heap.size 68 (opC 5 n m two (.slice A z.length c)) * (rowA 5 1 (.slice (some a) (z.length + 5) (z.length + 5)) (z.length + 5) (bv (spare z)) * X))))))))
  have h' := h.upd h.cur (ok_over hs n z) (Nat.le_refl _) (Nat.le_refl _)
  obtain ⟨b', w5, w6, w7, w8, t1, t2, t3, t4, t5, t6, t7, t8, t9, t10, t11, t12, hb', y7⟩ := step_tail y6 h' hb hN hr hz
  refine ⟨_, b', w8, f23.run rfl ?_, h'.mono (by omega) (Nat.le_refl _), rfl, hb', y7⟩
  simp [f23, opV, opC, box_any, Value.cells, addL, o4, e2, o0, o1, o2, o4b, k10, k11, e3, k21, p1, p2, p4, e4, t1, t2, t3, t4, t5, t6, t7, t8, t9, t10, t11, t12, wantedV, pickV, chkThen, sl]
theorem step_6 {L G N : Nat} (y : Sat W (pairA p x * (bookA K b * X)) w) (h : x.ok L G) (hb : b.fit N) (hL : L + z.length ≤ 268435456) (hG : G ≤ 2000000000) (hN : N ≤ 2000000000) (hr : Rd W A (bv z)) (hnil : A = none → c = 0) (hc : z.length ≤ c) (n m : Int) (hn : -9223372036854775808 ≤ n ∧ n ≤ 9223372036854775807) (hm : -9223372036854775808 ≤ m ∧ m ≤ 9223372036854775807) (two : Bool) :
    ∃ x' b' w', C 23 #[ptr p, ptr K, opV 6 n m two (.slice A z.length c)] w = some (.bool true, w') ∧ x'.ok (L + z.length) G ∧ x'.pcs.length = x.pcs.length ∧ b'.fit N ∧ Sat W (pairA p x' * (bookA K b' * X)) w' := by
  have hs := h.self
  have hf := hs.fit (by omega : L ≤ 268435456) (by omega : G ≤ 4000000000)
  have hz : z.length ≤ 268435456 := by omega
  have hsl := hs.l
  obtain ⟨a, w2, o4, e2, y2⟩ := step_pre y hr hnil hz 6 n m two
  have oB := (y2.eq (by ac_rfl : _ = blkA w.heap.size 68 (opC 6 n m two (.slice A z.length c)) * (pairA p x * (bookA K b * (rowA 5 1 (.slice (some a) (z.length + 5) (z.length + 5)) (z.length + 5) (bv (spare z)) * X)))))
  have o0 := oB.cell 0 rfl
  have o1 := oB.cell 1 rfl
  have o2 := oB.cell 2 rfl
  have o4b := oB.cell 4 rfl
  obtain ⟨sv, pv, y3⟩ := y2.pairCur h
  obtain ⟨S, hS⟩ : ∃ S : Asn W.heap.size, S = restA p x x.c sv pv := ⟨_, rfl⟩
  rw [← hS] at y3
  obtain ⟨PB, hPB⟩ : ∃ PB : Asn W.heap.size, PB = blkA p 66 [ptr x.cur.M, ptr x.cur.R, sv, pv] := ⟨_, rfl⟩
  rw [← hPB] at y3
  have k1 := (y3.eq (by rw [hPB]; ac_rfl : _ = blkA p 66 [ptr x.cur.M, ptr x.cur.R, sv, pv] * (medA x.cur.M x.cur.s * (rmedA x.cur.R x.cur.s * (S * (bookA K b * (blkA w.heap.size 68 (opC 6 n m two (.slice A z.length c)) * (rowA 5 1 (.slice (some a) (z.length + 5) (z.length + 5)) (z.length + 5) (bv (spare z)) * X))))))))
  have k10 := k1.cell 0 rfl
  have k11 := k1.cell 1 rfl
  obtain ⟨w3, e3, y4⟩ := m_cut (y3.drew.eq (by ac_rfl : _ = medA x.cur.M x.cur.s * (rmedA x.cur.R x.cur.s * (PB * (S * (bookA K b * (blkA w.heap.size 68 (opC 6 n m two (.slice A z.length c)) * (rowA 5 1 (.slice (some a) (z.length + 5) (z.length + 5)) (z.length + 5) (bv (spare z)) * X)))))))) hf n
  have z4 : Sat W (rmedA x.cur.R x.cur.s * (medA x.cur.M (x.cur.s.cut n).2 * (PB * (S * (bookA K b * (blkA w.heap.size 68 (opC 6 n m two (.slice A z.length c)) * (rowA 5 1 (.slice (some a) (z.length + 5) (z.length + 5)) (z.length + 5) (bv (spare z)) * X))))))) w3 := y4.eq (by ac_rfl)
  have k2 := (z4.eq (by rw [hPB]; ac_rfl : _ = blkA p 66 [ptr x.cur.M, ptr x.cur.R, sv, pv] * (medA x.cur.M (x.cur.s.cut n).2 * (rmedA x.cur.R x.cur.s * (S * (bookA K b * (blkA w.heap.size 68 (opC 6 n m two (.slice A z.length c)) * (rowA 5 1 (.slice (some a) (z.length + 5) (z.length + 5)) (z.length + 5) (bv (spare z)) * X))))))))
  have k21 := k2.cell 1 rfl
  have oB2 := (z4.eq (by ac_rfl : _ = blkA w.heap.size 68 (opC 6 n m two (.slice A z.length c)) * (medA x.cur.M (x.cur.s.cut n).2 * (rmedA x.cur.R x.cur.s * (PB * (S * (bookA K b * (rowA 5 1 (.slice (some a) (z.length + 5) (z.length + 5)) (z.length + 5) (bv (spare z)) * X))))))))
  have p1 := oB2.cell 1 rfl
  have p2 := oB2.cell 2 rfl
  have p4 := oB2.cell 4 rfl
  obtain ⟨w4, e4, y5⟩ := r_cut z4 hf n
  have y6 := Sat.toPairCur (s' := (x.cur.s.cut n).2) h (y5.eq (by rw [hS, hPB]; ac_rfl : _ = medA x.cur.M (x.cur.s.cut n).2 * (rmedA x.cur.R (x.cur.s.cut n).2 * (blkA p 66 [ptr x.cur.M, ptr x.cur.R, sv, pv] * (restA p x x.c sv pv * (bookA K b * (blkA w.heap.size 68 (opC 6 n m two (.slice A z.length c)) * (rowA 5 1 (.slice (some a) (z.length + 5) (z.length + 5)) (z.length + 5) (bv (spare z)) * X))))))))
  have h' := h.upd h.cur (ok_cut hs n) (Nat.le_refl _) (Nat.le_refl _)
  obtain ⟨b', w5, w6, w7, w8, t1, t2, t3, t4, t5, t6, t7, t8, t9, t10, t11, t12, hb', y7⟩ := step_tail y6 h' hb hN hr hz
  refine ⟨_, b', w8, f23.run rfl ?_, h'.mono (by omega) (Nat.le_refl _), rfl, hb', y7⟩
  simp [f23, opV, opC, box_any, Value.cells, addL, o4, e2, o0, o1, o2, o4b, k10, k11, e3, k21, p1, p2, p4, e4, t1, t2, t3, t4, t5, t6, t7, t8, t9, t10, t11, t12, wantedV, pickV, chkThen]
theorem step_8 {L G N : Nat} (y : Sat W (pairA p x * (bookA K b * X)) w) (h : x.ok L G) (hb : b.fit N) (hL : L + z.length ≤ 268435456) (hG : G ≤ 2000000000) (hN : N ≤ 2000000000) (hr : Rd W A (bv z)) (hnil : A = none → c = 0) (hc : z.length ≤ c) (n m : Int) (hn : -9223372036854775808 ≤ n ∧ n ≤ 9223372036854775807) (hm : -9223372036854775808 ≤ m ∧ m ≤ 9223372036854775807) (two : Bool) :
    ∃ x' b' w', C 23 #[ptr p, ptr K, opV 8 n m two (.slice A z.length c)] w = some (.bool true, w') ∧ x'.ok (L + z.length) G ∧ x'.pcs.length = x.pcs.length ∧ b'.fit N ∧ Sat W (pairA p x' * (bookA K b' * X)) w' := by
  have hs := h.self
  have hf := hs.fit (by omega : L ≤ 268435456) (by omega : G ≤ 4000000000)
  have hz : z.length ≤ 268435456 := by omega
  have hsl := hs.l
  obtain ⟨a, w2, o4, e2, y2⟩ := step_pre y hr hnil hz 8 n m two
  have oB := (y2.eq (by ac_rfl : _ = blkA w.heap.size 68 (opC 8 n m two (.slice A z.length c)) * (pairA p x * (bookA K b * (rowA 5 1 (.slice (some a) (z.length + 5) (z.length + 5)) (z.length + 5) (bv (spare z)) * X)))))
  have o0 := oB.cell 0 rfl
  have o1 := oB.cell 1 rfl
  have o2 := oB.cell 2 rfl
  have o4b := oB.cell 4 rfl
  obtain ⟨sv, pv, y3⟩ := y2.pairCur h
  obtain ⟨S, hS⟩ : ∃ S : Asn W.heap.size, S = restA p x x.c sv pv := ⟨_, rfl⟩
  rw [← hS] at y3
  obtain ⟨PB, hPB⟩ : ∃ PB : Asn W.heap.size, PB = blkA p 66 [ptr x.cur.M, ptr x.cur.R, sv, pv] := ⟨_, rfl⟩
  rw [← hPB] at y3
  have k1 := (y3.eq (by rw [hPB]; ac_rfl : _ = blkA p 66 [ptr x.cur.M, ptr x.cur.R, sv, pv] * (medA x.cur.M x.cur.s * (rmedA x.cur.R x.cur.s * (S * (bookA K b * (blkA w.heap.size 68 (opC 8 n m two (.slice A z.length c)) * (rowA 5 1 (.slice (some a) (z.length + 5) (z.length + 5)) (z.length + 5) (bv (spare z)) * X))))))))
  have k10 := k1.cell 0 rfl
  have k11 := k1.cell 1 rfl
  obtain ⟨w3, e3, y4⟩ := m_forget (y3.eq (by ac_rfl : _ = medA x.cur.M x.cur.s * (rmedA x.cur.R x.cur.s * (PB * (S * (bookA K b * (blkA w.heap.size 68 (opC 8 n m two (.slice A z.length c)) * (rowA 5 1 (.slice (some a) (z.length + 5) (z.length + 5)) (z.length + 5) (bv (spare z)) * X))))))))
  have z4 : Sat W (rmedA x.cur.R x.cur.s * (medA x.cur.M x.cur.s.forget * (PB * (S * (bookA K b * (blkA w.heap.size 68 (opC 8 n m two (.slice A z.length c)) * (rowA 5 1 (.slice (some a) (z.length + 5) (z.length + 5)) (z.length + 5) (bv (spare z)) * X))))))) w3 := y4.eq (by ac_rfl)
  have k2 := (z4.eq (by rw [hPB]; ac_rfl : _ = blkA p 66 [ptr x.cur.M, ptr x.cur.R, sv, pv] * (medA x.cur.M x.cur.s.forget * (rmedA x.cur.R x.cur.s * (S * (bookA K b * (blkA w.heap.size 68 (opC 8 n m two (.slice A z.length c)) * (rowA 5 1 (.slice (some a) (z.length + 5) (z.length + 5)) (z.length + 5) (bv (spare z)) * X))))))))
  have k21 := k2.cell 1 rfl
  have oB2 := (z4.eq (by ac_rfl : _ = blkA w.heap.size 68 (opC 8 n m two (.slice A z.length c)) * (medA x.cur.M x.cur.s.forget * (rmedA x.cur.R x.cur.s * (PB * (S * (bookA K b * (rowA 5 1 (.slice (some a) (z.length + 5) (z.length + 5)) (z.length + 5) (bv (spare z)) * X))))))))
  have p1 := oB2.cell 1 rfl
  have p2 := oB2.cell 2 rfl
  have p4 := oB2.cell 4 rfl
  obtain ⟨w4, e4, y5⟩ := r_forget z4
  have y6 := Sat.toPairCur (s' := x.cur.s.forget) h (y5.eq (by rw [hS, hPB]; ac_rfl : _ = medA x.cur.M x.cur.s.forget * (rmedA x.cur.R x.cur.s.forget * (blkA p 66 [ptr x.cur.M, ptr x.cur.R, sv, pv] * (restA p x x.c sv pv * (bookA K b * (blkA w.heap.size 68 (opC 8 n m two (.slice A z.length c)) * (rowA 5 1 (.slice (some a) (z.length + 5) (z.length + 5)) (z.length + 5) (bv (spare z)) * X))))))))
  have h' := h.upd h.cur (ok_forget hs) (Nat.le_refl _) (Nat.le_refl _)
  obtain ⟨b', w5, w6, w7, w8, t1, t2, t3, t4, t5, t6, t7, t8, t9, t10, t11, t12, hb', y7⟩ := step_tail y6 h' hb hN hr hz
  refine ⟨_, b', w8, f23.run rfl ?_, h'.mono (by omega) (Nat.le_refl _), rfl, hb', y7⟩
  simp [f23, opV, opC, box_any, Value.cells, addL, o4, e2, o0, o1, o2, o4b, k10, k11, e3, k21, p1, p2, p4, e4, t1, t2, t3, t4, t5, t6, t7, t8, t9, t10, t11, t12, wantedV, pickV, chkThen]
end
end Go.Sh.Ytokpgallfmpmkaa
