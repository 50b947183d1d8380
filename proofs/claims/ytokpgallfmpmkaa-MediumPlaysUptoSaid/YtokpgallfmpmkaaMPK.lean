/- medium: the law's step that tells all bytes, or the log. Conditions: those of each statement. -/
import Derived.Test.YtokpgallfmpmkaaMPJ
namespace Go.Sh.Ytokpgallfmpmkaa
open Go Go.Proofs Go.RowKit
set_option linter.unusedVariables false
set_option linter.unusedSimpArgs false
set_option maxRecDepth 100000
section
variable {W w : World} {X : Asn W.heap.size} {p K : Nat} {x : Pr} {b : Bk}
theorem Bk.fit.mono {b : Bk} {N N' : Nat} (h : b.fit N) (hN : N ≤ N') : b.fit N' := ⟨Nat.le_trans h.hs hN, Nat.le_trans h.ss hN, h.hn, h.sn, h.on, h.tn, h.kn, h.sk⟩
theorem upd_self {L G : Nat} (h : x.ok L G) : x.upd x.c ⟨x.cur.M, x.cur.R, x.cur.s⟩ = x := by
  obtain ⟨hc, e⟩ := List.getElem?_eq_some_iff.mp h.cur
  unfold Pr.upd
  have : x.ms.set x.c ⟨x.cur.M, x.cur.R, x.cur.s⟩ = x.ms := by
    have := List.set_getElem_self hc
    rw [e] at this
    exact this
  rw [this]
  simp
theorem reads_11 {L G N : Nat} (y : Sat W (pairA p x * (bookA K b * X)) w) (h : x.ok L G) (hb : b.fit N) (hL : L ≤ 268435456) (hG : G ≤ 4000000000) (hN : N + 1 ≤ 2000000000) (n m : Int) (two : Bool) (B : Value) :
    ∃ b' w', C 24 #[ptr p, ptr K, opV 11 n m two B] w = some (.bool true, w') ∧ b'.fit (N + 2) ∧ Sat W (pairA p x * (bookA K b' * X)) w' := by
  have hs := h.self
  have hf := hs.fit hL hG
  have hl := hs.l
  obtain ⟨sv, pv, y1⟩ := (y.newBlk 68 (opC 11 n m two B)).swap.pairCur h
  obtain ⟨S, hS⟩ : ∃ S : Asn W.heap.size, S = restA p x x.c sv pv := ⟨_, rfl⟩
  rw [← hS] at y1
  have f0 := (y1.eq (by ac_rfl : _ = blkA p 66 [ptr x.cur.M, ptr x.cur.R, sv, pv] * (medA x.cur.M x.cur.s * (rmedA x.cur.R x.cur.s * (S * (blkA w.heap.size 68 (opC 11 n m two B) * (bookA K b * X))))))).cell 0 rfl
  have oB := (y1.eq (by ac_rfl : _ = blkA w.heap.size 68 (opC 11 n m two B) * (blkA p 66 [ptr x.cur.M, ptr x.cur.R, sv, pv] * (medA x.cur.M x.cur.s * (rmedA x.cur.R x.cur.s * (S * (bookA K b * X)))))))
  obtain ⟨o, ho⟩ : ∃ o, o = x.cur.s.l := ⟨_, rfl⟩
  obtain ⟨v1, w2, h2, y2⟩ := m_bytes y1 hf
  rw [← ho] at y2
  have f2 := (y2.eq (by ac_rfl : _ = blkA p 66 [ptr x.cur.M, ptr x.cur.R, sv, pv] * (clipA 5 1 v1 o.length (bv o) * (medA x.cur.M x.cur.s * (rmedA x.cur.R x.cur.s * (S * (blkA w.heap.size 68 (opC 11 n m two B) * (bookA K b * X)))))))).cell 0 rfl
  obtain ⟨v3, w3, h3, y3⟩ := m_bytes y2.swap hf
  rw [← ho] at y3
  have f3 := (y3.eq (by ac_rfl : _ = blkA p 66 [ptr x.cur.M, ptr x.cur.R, sv, pv] * (clipA 5 1 v1 o.length (bv o) * (clipA 5 1 v3 o.length (bv o) * (medA x.cur.M x.cur.s * (rmedA x.cur.R x.cur.s * (S * (blkA w.heap.size 68 (opC 11 n m two B) * (bookA K b * X))))))))).cell 1 rfl
  obtain ⟨v4, w4, h4, y4⟩ := r_bytes (y3.eq (by ac_rfl : _ = rmedA x.cur.R x.cur.s * (blkA p 66 [ptr x.cur.M, ptr x.cur.R, sv, pv] * (clipA 5 1 v1 o.length (bv o) * (clipA 5 1 v3 o.length (bv o) * (medA x.cur.M x.cur.s * (S * (blkA w.heap.size 68 (opC 11 n m two B) * (bookA K b * X))))))))) hf
  rw [← ho] at y4
  obtain ⟨A4, c4, rfl, _⟩ := own_form y4.row
  have z4 := y4.eq (by ac_rfl : _ = clipA 5 1 v1 o.length (bv o) * (clipA 5 1 v3 o.length (bv o) * (rowA 5 1 (.slice A4 o.length c4) o.length (bv o) * (bookA K b * (blkA p 66 [ptr x.cur.M, ptr x.cur.R, sv, pv] * (rmedA x.cur.R x.cur.s * (medA x.cur.M x.cur.s * (S * (blkA w.heap.size 68 (opC 11 n m two B) * X)))))))))
  obtain ⟨A1, c1, e1, _, o1⟩ := z4.clip
  obtain ⟨A3, c3, e3, _, o3⟩ := z4.swap.clip
  have t1 := tx22_9 (c := o.length) rfl (Rd.owned o1 : Rd w4 A1 (bv o))
  have t3 := tx22_9 (c := o.length) rfl (Rd.owned o3 : Rd w4 A3 (bv o))
  have t4 := tx22_9 (c := c4) rfl (Rd.owned y4.row)
  obtain ⟨b1, w5, h5, hb1, y5⟩ := book_take (z4.eq (by ac_rfl : _ = clipA 5 1 v1 o.length (bv o) * (bookA K b * (clipA 5 1 v3 o.length (bv o) * (rowA 5 1 (.slice A4 o.length c4) o.length (bv o) * (blkA p 66 [ptr x.cur.M, ptr x.cur.R, sv, pv] * (rmedA x.cur.R x.cur.s * (medA x.cur.M x.cur.s * (S * (blkA w.heap.size 68 (opC 11 n m two B) * X)))))))))) hb (by omega) (by rw [ho]; omega)
  obtain ⟨b2, w6, h6, hb2, _, y6⟩ := book_held (y5.eq (by ac_rfl : _ = clipA 5 1 v3 o.length (bv o) * (rowA 5 1 (.slice A4 o.length c4) o.length (bv o) * (bookA K b1 * (blkA p 66 [ptr x.cur.M, ptr x.cur.R, sv, pv] * (rmedA x.cur.R x.cur.s * (medA x.cur.M x.cur.s * (S * (blkA w.heap.size 68 (opC 11 n m two B) * X))))))))) hb1 (by omega) (by rw [ho]; omega)
  have y7 : Sat W (medA x.cur.M x.cur.s * (rmedA x.cur.R x.cur.s * (blkA p 66 [ptr x.cur.M, ptr x.cur.R, sv, pv] * (restA p x x.c sv pv * (blkA w.heap.size 68 (opC 11 n m two B) * (bookA K b2 * X)))))) w6 := y6.eq (by rw [hS]; ac_rfl)
  have y8 := Sat.toPairCur h y7
  rw [upd_self h] at y8
  refine ⟨b2, w6, f24.run rfl ?_, hb2, y8.drop2⟩
  have o0 := oB.cell 0 rfl
  simp only [opC] at o0 f0 h2
  subst e1
  subst e3
  simp [f24, opV, opC, box_any, Value.cells, addL, o0, f0, h2, f2, h3, f3, h4, t1, t3, t4, h5, h6]
theorem reads_7 {L G N : Nat} (y : Sat W (pairA p x * (bookA K b * X)) w) (h : x.ok L G) (hb : b.fit N) (hL : L ≤ 268435456) (hG : G ≤ 2000000000) (hN : N + 1 ≤ 2000000000) (n m : Int) (two : Bool) (B : Value) :
    ∃ b' w', C 24 #[ptr p, ptr K, opV 7 n m two B] w = some (.bool true, w') ∧ b'.fit (N + 2) ∧ Sat W (pairA p x * (bookA K b' * X)) w' := by
  have hs := h.self
  have hf := hs.fit hL (by omega)
  have hl := hs.g
  obtain ⟨sv, pv, y1⟩ := (y.newBlk 68 (opC 7 n m two B)).swap.pairCur h
  obtain ⟨S, hS⟩ : ∃ S : Asn W.heap.size, S = restA p x x.c sv pv := ⟨_, rfl⟩
  rw [← hS] at y1
  have f0 := (y1.eq (by ac_rfl : _ = blkA p 66 [ptr x.cur.M, ptr x.cur.R, sv, pv] * (medA x.cur.M x.cur.s * (rmedA x.cur.R x.cur.s * (S * (blkA w.heap.size 68 (opC 7 n m two B) * (bookA K b * X))))))).cell 0 rfl
  have oB := (y1.eq (by ac_rfl : _ = blkA w.heap.size 68 (opC 7 n m two B) * (blkA p 66 [ptr x.cur.M, ptr x.cur.R, sv, pv] * (medA x.cur.M x.cur.s * (rmedA x.cur.R x.cur.s * (S * (bookA K b * X)))))))
  obtain ⟨o, ho⟩ : ∃ o, o = x.cur.s.g := ⟨_, rfl⟩
  obtain ⟨v1, w2, h2, y2⟩ := m_log y1 hf
  rw [← ho] at y2
  have f2 := (y2.eq (by ac_rfl : _ = blkA p 66 [ptr x.cur.M, ptr x.cur.R, sv, pv] * (clipA 40 2 v1 o.length (sc o) * (medA x.cur.M x.cur.s * (rmedA x.cur.R x.cur.s * (S * (blkA w.heap.size 68 (opC 7 n m two B) * (bookA K b * X)))))))).cell 0 rfl
  obtain ⟨v3, w3, h3, y3⟩ := m_log y2.swap hf
  rw [← ho] at y3
  have f3 := (y3.eq (by ac_rfl : _ = blkA p 66 [ptr x.cur.M, ptr x.cur.R, sv, pv] * (clipA 40 2 v1 o.length (sc o) * (clipA 40 2 v3 o.length (sc o) * (medA x.cur.M x.cur.s * (rmedA x.cur.R x.cur.s * (S * (blkA w.heap.size 68 (opC 7 n m two B) * (bookA K b * X))))))))).cell 1 rfl
  obtain ⟨v4, w4, h4, y4⟩ := r_log (y3.eq (by ac_rfl : _ = rmedA x.cur.R x.cur.s * (blkA p 66 [ptr x.cur.M, ptr x.cur.R, sv, pv] * (clipA 40 2 v1 o.length (sc o) * (clipA 40 2 v3 o.length (sc o) * (medA x.cur.M x.cur.s * (S * (blkA w.heap.size 68 (opC 7 n m two B) * (bookA K b * X))))))))) hf
  rw [← ho] at y4
  obtain ⟨A4, c4, rfl, _⟩ := own_form y4.row
  have z4 := y4.eq (by ac_rfl : _ = clipA 40 2 v1 o.length (sc o) * (clipA 40 2 v3 o.length (sc o) * (rowA 40 2 (.slice A4 o.length c4) o.length (sc o) * (bookA K b * (blkA p 66 [ptr x.cur.M, ptr x.cur.R, sv, pv] * (rmedA x.cur.R x.cur.s * (medA x.cur.M x.cur.s * (S * (blkA w.heap.size 68 (opC 7 n m two B) * X)))))))))
  obtain ⟨A1, c1, e1, _, o1⟩ := z4.clip
  obtain ⟨A3, c3, e3, _, o3⟩ := z4.swap.clip
  have ol : o.length ≤ 8000000000000 := by rw [ho]; omega
  obtain ⟨u1, t1, g1⟩ := same_ok (w := w4) (c := o.length) (c' := c4) (Rd.owned o1 : Rd w4 A1 (sc o)) (Rd.owned y4.row) ol
  have r3 : Rd u1 A3 (sc o) := (Rd.owned o3 : Rd w4 A3 (sc o)).grown g1
  have r4 : Rd u1 A4 (sc o) := (Rd.owned y4.row).grown g1
  obtain ⟨u2, t2, g2⟩ := same_ok (w := u1) (c := o.length) (c' := c4) r3 r4 ol
  have z5 := (z4.grown g1).grown g2
  obtain ⟨b1, w5, h5, hb1, y5⟩ := book_tells (z5.eq (by ac_rfl : _ = clipA 40 2 v1 o.length (sc o) * (bookA K b * (clipA 40 2 v3 o.length (sc o) * (rowA 40 2 (.slice A4 o.length c4) o.length (sc o) * (blkA p 66 [ptr x.cur.M, ptr x.cur.R, sv, pv] * (rmedA x.cur.R x.cur.s * (medA x.cur.M x.cur.s * (S * (blkA w.heap.size 68 (opC 7 n m two B) * X)))))))))) hb (by omega) (by rw [ho]; omega)
  obtain ⟨b2, w6, h6, hb2, y6⟩ := book_heldS (y5.eq (by ac_rfl : _ = clipA 40 2 v3 o.length (sc o) * (rowA 40 2 (.slice A4 o.length c4) o.length (sc o) * (bookA K b1 * (blkA p 66 [ptr x.cur.M, ptr x.cur.R, sv, pv] * (rmedA x.cur.R x.cur.s * (medA x.cur.M x.cur.s * (S * (blkA w.heap.size 68 (opC 7 n m two B) * X))))))))) hb1 (by omega) (by rw [ho]; omega)
  have y7 : Sat W (medA x.cur.M x.cur.s * (rmedA x.cur.R x.cur.s * (blkA p 66 [ptr x.cur.M, ptr x.cur.R, sv, pv] * (restA p x x.c sv pv * (blkA w.heap.size 68 (opC 7 n m two B) * (bookA K b2 * X)))))) w6 := y6.eq (by rw [hS]; ac_rfl)
  have y8 := Sat.toPairCur h y7
  rw [upd_self h] at y8
  refine ⟨b2, w6, f24.run rfl ?_, hb2, y8.drop2⟩
  have o0 := oB.cell 0 rfl
  simp only [opC] at o0 f0 h2
  subst e1
  subst e3
  simp [f24, opV, opC, box_any, Value.cells, addL, o0, f0, h2, f2, h3, f3, h4, t1, t2, h5, h6]
end
end Go.Sh.Ytokpgallfmpmkaa
