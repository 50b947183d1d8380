/- medium: the law's step that tells bytes or spans. Conditions: those of each statement. -/
import Derived.Test.YtokpgallfmpmkaaMPI
namespace Go.Sh.Ytokpgallfmpmkaa
open Go Go.Proofs Go.RowKit
set_option linter.unusedVariables false
set_option linter.unusedSimpArgs false
set_option maxRecDepth 100000
def opC (kind n m : Int) (two : Bool) (B : Value) : List Value := [.int .i64 kind, .int .i64 n, .int .i64 m, .bool two, B]
def opV (kind n m : Int) (two : Bool) (B : Value) : Value := .agg (opC kind n m two B).toArray
section
variable {W w : World} {X : Asn W.heap.size} {p K : Nat} {x : Pr} {b : Bk}
theorem Pr.ok.self {x : Pr} {L G : Nat} (h : x.ok L G) : x.cur.s.ok L G := h.ms _ (List.mem_of_getElem? h.cur)
/-- the pair, with the current medium ahead -/
theorem _root_.Go.Sh.Sat.pairCur {L G : Nat} (y : Sat W (pairA p x * X) w) (h : x.ok L G) : ∃ sv pv, Sat W (medA x.cur.M x.cur.s * (rmedA x.cur.R x.cur.s * (blkA p 66 [ptr x.cur.M, ptr x.cur.R, sv, pv] * (restA p x x.c sv pv * X)))) w := by
  obtain ⟨sv, pv, z⟩ := y.pair
  exact ⟨sv, pv, z.eq (by rw [pairB_at h.cur]; ac_rfl)⟩
theorem _root_.Go.Sh.Sat.toPairCur {L G : Nat} {s' : Pm} {sv pv : Value} (h : x.ok L G) (y : Sat W (medA x.cur.M s' * (rmedA x.cur.R s' * (blkA p 66 [ptr x.cur.M, ptr x.cur.R, sv, pv] * (restA p x x.c sv pv * X)))) w) : Sat W (pairA p (x.upd x.c ⟨x.cur.M, x.cur.R, s'⟩) * X) w :=
  Sat.toPair (sv := sv) (pv := pv) (y.eq (by rw [pairB_upd h.cur h.cur]; ac_rfl))
theorem reads_1 {L G N : Nat} (y : Sat W (pairA p x * (bookA K b * X)) w) (h : x.ok L G) (hb : b.fit N) (hL : L ≤ 268435456) (hG : G ≤ 4000000000) (hN : N ≤ 2000000000) (n m : Int) (two : Bool) (B : Value) :
    ∃ x' b' w', C 24 #[ptr p, ptr K, opV 1 n m two B] w = some (.bool true, w') ∧ x'.ok L (G + 1) ∧ x'.pcs.length = x.pcs.length ∧ b'.fit (N + 2) ∧ Sat W (pairA p x' * (bookA K b' * X)) w' := by
  have hs := h.self
  have hf := hs.fit hL hG
  obtain ⟨sv, pv, y1⟩ := (y.newBlk 68 (opC 1 n m two B)).swap.pairCur h
  obtain ⟨S, hS⟩ : ∃ S : Asn W.heap.size, S = restA p x x.c sv pv := ⟨_, rfl⟩
  rw [← hS] at y1
  have f0 := (y1.eq (by ac_rfl : _ = blkA p 66 [ptr x.cur.M, ptr x.cur.R, sv, pv] * (medA x.cur.M x.cur.s * (rmedA x.cur.R x.cur.s * (S * (blkA w.heap.size 68 (opC 1 n m two B) * (bookA K b * X))))))).cell 0 rfl
  have oB := (y1.eq (by ac_rfl : _ = blkA w.heap.size 68 (opC 1 n m two B) * (blkA p 66 [ptr x.cur.M, ptr x.cur.R, sv, pv] * (medA x.cur.M x.cur.s * (rmedA x.cur.R x.cur.s * (S * (bookA K b * X)))))))
  obtain ⟨v, w2, h2, y2⟩ := m_read y1.drew hf n m
  obtain ⟨hok, hlen⟩ := ok_read hs n m
  obtain ⟨s', hs'⟩ : ∃ s', s' = (x.cur.s.read n m).2.2 := ⟨_, rfl⟩
  obtain ⟨o, ho⟩ : ∃ o, o = (x.cur.s.read n m).1 := ⟨_, rfl⟩
  rw [← hs', ← ho] at y2
  rw [← hs'] at hok
  rw [← ho] at hlen
  have z2 := y2.eq (by ac_rfl : _ = rmedA x.cur.R x.cur.s * (clipA 5 1 v o.length (bv o) * (medA x.cur.M s' * (blkA p 66 [ptr x.cur.M, ptr x.cur.R, sv, pv] * (S * (blkA w.heap.size 68 (opC 1 n m two B) * (bookA K b * X)))))))
  have f2 := (z2.eq (by ac_rfl : _ = blkA p 66 [ptr x.cur.M, ptr x.cur.R, sv, pv] * (rmedA x.cur.R x.cur.s * (clipA 5 1 v o.length (bv o) * (medA x.cur.M s' * (S * (blkA w.heap.size 68 (opC 1 n m two B) * (bookA K b * X)))))))).cell 1 rfl
  have oB2 := (z2.eq (by ac_rfl : _ = blkA w.heap.size 68 (opC 1 n m two B) * (rmedA x.cur.R x.cur.s * (clipA 5 1 v o.length (bv o) * (medA x.cur.M s' * (blkA p 66 [ptr x.cur.M, ptr x.cur.R, sv, pv] * (S * (bookA K b * X))))))))
  obtain ⟨v2, w3, h3, y3⟩ := r_read z2.drew hf n m
  rw [← hs', ← ho] at y3
  obtain ⟨Ar, cr, rfl, _⟩ := own_form y3.row
  have z3 := y3.eq (by ac_rfl : _ = clipA 5 1 v o.length (bv o) * (rowA 5 1 (.slice Ar o.length cr) o.length (bv o) * (bookA K b * (medA x.cur.M s' * (rmedA x.cur.R s' * (blkA p 66 [ptr x.cur.M, ptr x.cur.R, sv, pv] * (S * (blkA w.heap.size 68 (opC 1 n m two B) * X))))))))
  obtain ⟨b', w4, h4, hb', ⟨e1, e2, e3⟩, y4⟩ := book_held z3 hb hN (by omega)
  obtain ⟨⟨A5, k5, r5⟩, A6, c6, k6, r6⟩ := book_rd y4
  rw [e1] at k5
  rw [e2] at k6
  rw [e3] at k5 r5 k6 r6
  subst k5
  cases k6
  have t1 := tx22_9 (c := o.length) rfl r5
  have t2 := tx22_9 (c := cr) rfl r6
  have y5 : Sat W (medA x.cur.M s' * (rmedA x.cur.R s' * (blkA p 66 [ptr x.cur.M, ptr x.cur.R, sv, pv] * (restA p x x.c sv pv * (blkA w.heap.size 68 (opC 1 n m two B) * (bookA K b' * X)))))) w4 := y4.eq (by rw [hS]; ac_rfl)
  have y6 := Sat.toPairCur h y5
  refine ⟨x.upd x.c ⟨x.cur.M, x.cur.R, s'⟩, b', w4, f24.run rfl ?_, h.upd h.cur hok (Nat.le_refl _) (by omega), rfl, ⟨by have := hb'.hs; omega, by have := hb'.ss; omega, hb'.hn, hb'.sn, hb'.on, hb'.tn, hb'.kn, hb'.sk⟩, y6.drop2⟩
  have o0 := oB.cell 0 rfl
  have o1 := oB.cell 1 rfl
  have o2 := oB.cell 2 rfl
  have q1 := oB2.cell 1 rfl
  have q2 := oB2.cell 2 rfl
  simp only [opC] at o0 o1 o2 f0 h2
  simp [f24, opV, opC, box_any, Value.cells, addL, o0, o1, o2, f0, h2, f2, q1, q2, h3, h4, t1, t2, chkThen]
end
end Go.Sh.Ytokpgallfmpmkaa
