/- medium: the law's steps that make a piece, load a medium, read, or do nothing. Conditions: those of each statement. -/
import Derived.Test.YtokpgallfmpmkaaMPN
namespace Go.Sh.Ytokpgallfmpmkaa
open Go Go.Proofs Go.RowKit
set_option linter.unusedVariables false
set_option linter.unusedSimpArgs false
set_option maxRecDepth 100000
theorem bs63_1 (v : Value) (w : World) : erun Try.prog (Instr.buildSlice 63 1 #[(0, .iface 82 v)]) w = some (.slice (some ⟨w.heap.size, 0, none⟩) 1 1, w.alloc (.cells #[.iface 82 v] 36)) := id (by kernel_rfl)
theorem bs64_1 (a : Option Addr) (w : World) : erun Try.prog (Instr.buildSlice 64 1 #[(0, .pointer a)]) w = some (.slice (some ⟨w.heap.size, 0, none⟩) 1 1, w.alloc (.cells #[.pointer a] 90)) := id (by kernel_rfl)
section
variable {W w : World} {X : Asn W.heap.size} {p K : Nat} {x : Pr} {b : Bk} {A : Option Addr} {c : Nat} {z : List UInt8}
theorem step_12 {L G N : Nat} (y : Sat W (pairA p x * (bookA K b * X)) w) (h : x.ok L G) (hb : b.fit N) (hL : L + z.length ≤ 268435456) (hG : G ≤ 2000000000) (hN : N ≤ 2000000000) (hr : Rd W A (bv z)) (hnil : A = none → c = 0) (n m : Int) (two : Bool) :
    ∃ x' b' w', C 23 #[ptr p, ptr K, opV 12 n m two (.slice A z.length c)] w = some (.bool true, w') ∧ x'.ok (L + z.length) G ∧ x'.pcs.length = x.pcs.length ∧ b'.fit N ∧ Sat W (pairA p x' * (bookA K b' * X)) w' := by
  have hz : z.length ≤ 268435456 := by omega
  obtain ⟨a, w2, o4, e2, y2⟩ := step_pre y hr hnil hz 12 n m two
  have oB := (y2.eq (by ac_rfl : _ = blkA w.heap.size 68 (opC 12 n m two (.slice A z.length c)) * (pairA p x * (bookA K b * (rowA 5 1 (.slice (some a) (z.length + 5) (z.length + 5)) (z.length + 5) (bv (spare z)) * X)))))
  have o0 := oB.cell 0 rfl
  have o4b := oB.cell 4 rfl
  have sl : prun Try.prog (Instr.sliceAt 22 (.slice (some a) (z.length + 5) (z.length + 5)) none (some (.int .i64 z.length)) none) = some (.slice (some a) z.length (z.length + 5)) := by
    have hs1 := sl22 (some a) (z.length + 5) (z.length + 5) none (some (.int .i64 z.length)) none 0 z.length (z.length + 5) (by
      have := bounds_hi (P := Try.prog) (z.length + 5) (z.length + 5) .i64 z.length (by omega) (by omega)
      rw [this]; rfl)
    simpa [addL] using hs1
  have tk : (spare z).take z.length = z := by simp [spare]
  obtain ⟨M, w3, e3, y3⟩ := m_load (y2.eq (by ac_rfl : _ = rowA 5 1 (.slice (some a) (z.length + 5) (z.length + 5)) (z.length + 5) (bv (spare z)) * (pairA p x * (bookA K b * (blkA w.heap.size 68 (opC 12 n m two (.slice A z.length c)) * X))))) (by simp) (n := z.length) (c := z.length + 5) (by rw [spare_len]; omega) hz
  rw [tk] at y3
  have oB2 := (y3.eq (by ac_rfl : _ = blkA w.heap.size 68 (opC 12 n m two (.slice A z.length c)) * (medA M ⟨z, false, 0, 0, []⟩ * (pairA p x * (bookA K b * (rowA 5 1 (.slice (some a) (z.length + 5) (z.length + 5)) (z.length + 5) (bv (spare z)) * X))))))
  have p4 := oB2.cell 4 rfl
  obtain ⟨R, w4, e4, y4⟩ := r_load y3 (c := c) rfl hr hnil hz
  obtain ⟨T, hT⟩ : ∃ T : Asn W.heap.size, T = blkA w.heap.size 68 (opC 12 n m two (.slice A z.length c)) * rowA 5 1 (.slice (some a) (z.length + 5) (z.length + 5)) (z.length + 5) (bv (spare z)) := ⟨_, rfl⟩
  obtain ⟨sv, pv, y5⟩ := (y4.eq (by rw [hT]; ac_rfl : _ = pairA p x * (rmedA R ⟨z, false, 0, 0, []⟩ * (medA M ⟨z, false, 0, 0, []⟩ * (bookA K b * (T * X)))))).pair
  obtain ⟨Q, hQ⟩ : ∃ Q : Asn W.heap.size, Q = rowA 36 1 sv x.pcs.length (x.pcs.map fun p => .iface 82 (ptr p.P)) * (rowA 90 1 pv x.pcs.length (x.pcs.map fun p => ptr p.Q) * (all mdA x.ms * all pieceA x.pcs)) := ⟨_, rfl⟩
  have y6 := y5.eq (by unfold pairB; rw [hQ]; ac_rfl : _ = blkA p 66 [ptr x.cur.M, ptr x.cur.R, sv, pv] * (Q * (rmedA R ⟨z, false, 0, 0, []⟩ * (medA M ⟨z, false, 0, 0, []⟩ * (bookA K b * (T * X))))))
  have s1 := st24 (v := ptr M) rfl rfl (y6.cell 0 rfl) (y6.frozen 0)
  have y7 := y6.store 0 (ptr M) rfl
  have s2 := st61 (v := ptr R) rfl rfl (y7.cell 1 rfl) (y7.frozen 1)
  have y8 := y7.store 1 (ptr R) rfl
  have h' : Pr.ok { ms := x.ms ++ [⟨M, R, ⟨z, false, 0, 0, []⟩⟩], c := x.ms.length, cur := ⟨M, R, ⟨z, false, 0, 0, []⟩⟩, pcs := x.pcs } (L + z.length) G := by
    refine ⟨by simp, fun q hq => ?_, fun q hq => ?_⟩
    · simp only [List.mem_append, List.mem_singleton] at hq
      rcases hq with hq | rfl
      · exact (h.ms q hq).mono (by omega) (Nat.le_refl _)
      · exact ⟨by simp, Nat.zero_le _, by simp, by simp, by simp, by simp⟩
    · obtain ⟨⟨d, hd, h1, h2⟩, h3⟩ := h.pcs q hq
      exact ⟨⟨d, by rw [List.getElem?_append_left (List.getElem?_eq_some_iff.mp hd).1]; exact hd, h1, h2⟩, h3⟩
  have y9 : Sat W (pairB p { ms := x.ms ++ [⟨M, R, ⟨z, false, 0, 0, []⟩⟩], c := x.ms.length, cur := ⟨M, R, ⟨z, false, 0, 0, []⟩⟩, pcs := x.pcs } sv pv * (bookA K b * (blkA w.heap.size 68 (opC 12 n m two (.slice A z.length c)) * (rowA 5 1 (.slice (some a) (z.length + 5) (z.length + 5)) (z.length + 5) (bv (spare z)) * X)))) _ := y8.eq (by
    unfold pairB
    rw [hQ, hT, all_snoc]
    unfold mdA
    ac_rfl)
  obtain ⟨b', w5, w6, w7, w8, t1, t2, t3, t4, t5, t6, t7, t8, t9, t10, t11, t12, hb', y7⟩ := step_tail y9.toPair h' hb hN hr hz
  refine ⟨_, b', w8, f23.run rfl ?_, h', rfl, hb', y7⟩
  simp [f23, opV, opC, box_any, Value.cells, addL, o4, e2, o0, o4b, sl, e3, p4, e4, s1, s2, t1, t2, t3, t4, t5, t6, t7, t8, t9, t10, t11, t12, wantedV, pickV, chkThen]
theorem step_r {L G N : Nat} (y : Sat W (pairA p x * (bookA K b * X)) w) (h : x.ok L G) (hb : b.fit N) (hL : L + z.length ≤ 268435456) (hG : G ≤ 2000000000) (hN : N + 2 ≤ 2000000000) (hP : x.pcs.length ≤ 4000000000) (hr : Rd W A (bv z)) (hnil : A = none → c = 0) (kind n m : Int) (hk : kind = 1 ∨ kind = 11 ∨ kind = 7 ∨ kind = 10) (two : Bool) :
    ∃ x' b' w', C 23 #[ptr p, ptr K, opV kind n m two (.slice A z.length c)] w = some (.bool true, w') ∧ x'.ok (L + z.length) (G + 1) ∧ x'.pcs.length = x.pcs.length ∧ b'.fit (N + 2) ∧ Sat W (pairA p x' * (bookA K b' * X)) w' := by
  have hz : z.length ≤ 268435456 := by omega
  obtain ⟨a, w2, o4, e2, y2⟩ := step_pre y hr hnil hz kind n m two
  have oB := (y2.eq (by ac_rfl : _ = blkA w.heap.size 68 (opC kind n m two (.slice A z.length c)) * (pairA p x * (bookA K b * (rowA 5 1 (.slice (some a) (z.length + 5) (z.length + 5)) (z.length + 5) (bv (spare z)) * X)))))
  have o0 := oB.cell 0 rfl
  have l1 := ld68 (a := ⟨w.heap.size, 0, none⟩) (by rw [addL]; exact oB.cell 0 rfl) (by rw [addL]; exact oB.cell 1 rfl) (by rw [addL]; exact oB.cell 2 rfl) (by rw [addL]; exact oB.cell 3 rfl) (by rw [addL]; exact oB.cell 4 rfl)
  obtain ⟨x', b1, w3, e3, h', hp', hb1, y3⟩ := reads_ok y2 h hb (by omega) hG (by omega) hP kind n m two A z.length c
  obtain ⟨b', w5, w6, w7, w8, t1, t2, t3, t4, t5, t6, t7, t8, t9, t10, t11, t12, hb', y7⟩ := step_tail y3 h' hb1 hN hr hz
  refine ⟨x', b', w8, f23.run rfl ?_, h'.mono (by omega) (Nat.le_refl _), hp', hb', y7⟩
  have e3' : R mu 24 #[ptr p, ptr K, .agg #[.int .i64 kind, .int .i64 n, .int .i64 m, .bool two, .slice A z.length c]] w2 = some (.bool true, w3) := e3
  rcases hk with rfl | rfl | rfl | rfl <;>
    simp [f23, opV, opC, box_any, Value.cells, addL, o4, e2, o0, l1, e3', t1, t2, t3, t4, t5, t6, t7, t8, t9, t10, t11, t12, wantedV, pickV, chkThen]
theorem step_none {L G N : Nat} (y : Sat W (pairA p x * (bookA K b * X)) w) (h : x.ok L G) (hb : b.fit N) (hL : L + z.length ≤ 268435456) (hN : N ≤ 2000000000) (hr : Rd W A (bv z)) (hnil : A = none → c = 0) (kind n m : Int)
    (h2 : kind ≠ 2) (h3 : kind ≠ 3) (h4 : kind ≠ 4) (h5 : kind ≠ 5) (h6 : kind ≠ 6) (h8 : kind ≠ 8) (h9 : kind ≠ 9) (h12 : kind ≠ 12) (h1 : kind ≠ 1) (h11 : kind ≠ 11) (h7 : kind ≠ 7) (h10 : kind ≠ 10) (two : Bool) :
    ∃ b' w', C 23 #[ptr p, ptr K, opV kind n m two (.slice A z.length c)] w = some (.bool true, w') ∧ b'.fit N ∧ Sat W (pairA p x * (bookA K b' * X)) w' := by
  have hz : z.length ≤ 268435456 := by omega
  obtain ⟨a, w2, o4, e2, y2⟩ := step_pre y hr hnil hz kind n m two
  have oB := (y2.eq (by ac_rfl : _ = blkA w.heap.size 68 (opC kind n m two (.slice A z.length c)) * (pairA p x * (bookA K b * (rowA 5 1 (.slice (some a) (z.length + 5) (z.length + 5)) (z.length + 5) (bv (spare z)) * X)))))
  have o0 := oB.cell 0 rfl
  obtain ⟨b', w5, w6, w7, w8, t1, t2, t3, t4, t5, t6, t7, t8, t9, t10, t11, t12, hb', y7⟩ := step_tail y2 h hb hN hr hz
  refine ⟨b', w8, f23.run rfl ?_, hb', y7⟩
  simp [f23, opV, opC, box_any, Value.cells, addL, o4, e2, o0, h1, h2, h3, h4, h5, h6, h7, h8, h9, h10, h11, h12, t1, t2, t3, t4, t5, t6, t7, t8, t9, t10, t11, t12, wantedV, pickV, chkThen]
end
end Go.Sh.Ytokpgallfmpmkaa
