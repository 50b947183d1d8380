/- medium: the law's step that reads a piece. Conditions: those of each statement. -/
import Derived.Test.YtokpgallfmpmkaaMPK
namespace Go.Sh.Ytokpgallfmpmkaa
open Go Go.Proofs Go.RowKit
set_option linter.unusedVariables false
set_option linter.unusedSimpArgs false
set_option maxRecDepth 100000
theorem im_size3 (x : Value) (w : World) : imethod Try.prog (.iface 82 x) "Size" w = some (94, x) := id (by kernel_rfl)
theorem im_read3 (x : Value) (w : World) : imethod Try.prog (.iface 82 x) "Read" w = some (93, x) := id (by kernel_rfl)
section
variable {W w : World} {X : Asn W.heap.size} {p K : Nat} {x : Pr} {b : Bk}
theorem row_cell {e : TypeId} {v : Value} {N : Nat} {xs : List Value} (y : Sat W (rowA e 1 v N xs * X) w) {k : Nat} {u : Value} (hu : xs[k]? = some u) : ∃ a c, v = .slice (some a) N c ∧ w.cell? (a.add k) = some u := by
  obtain ⟨A, c, rfl, _⟩ := own_form y.row
  have rl := Rd.owned y.row
  cases A with
  | none =>
    have : xs = [] := rl
    subst this
    simp at hu
  | some a => exact ⟨a, c, rfl, rl k u hu⟩
theorem pread_piece {L G N : Nat} (y : Sat W (pairA p x * (bookA K b * X)) w) (h : x.ok L G) (hb : b.fit N) (hL : L ≤ 268435456) (hG : G ≤ 4000000000) (hN : N ≤ 2000000000) (hP : x.pcs.length ≤ 4000000000) (kind n m : Int) (hk1 : kind ≠ 1) (hk2 : kind ≠ 11) (hk3 : kind ≠ 7) (two : Bool) (AB : Option Addr) (lb cb : Nat) :
    ∃ x' b' w', C 24 #[ptr p, ptr K, opV kind n m two (.slice AB lb cb)] w = some (.bool true, w') ∧ x'.ok L (G + 1) ∧ x'.pcs.length = x.pcs.length ∧ b'.fit (N + 2) ∧ Sat W (pairA p x' * (bookA K b' * X)) w' := by
  obtain ⟨sv, pv, y0⟩ := (y.newBlk 68 (opC kind n m two (.slice AB lb cb))).swap.pair
  obtain ⟨As, cs, rfl, _⟩ := own_form (y0.eq (by unfold pairB; ac_rfl : _ = rowA 36 1 sv x.pcs.length (x.pcs.map fun p => .iface 82 (ptr p.P)) * (blkA p 66 [ptr x.cur.M, ptr x.cur.R, sv, pv] * (rowA 90 1 pv x.pcs.length (x.pcs.map fun p => ptr p.Q) * (all mdA x.ms * (all pieceA x.pcs * (blkA w.heap.size 68 (opC kind n m two (.slice AB lb cb)) * (bookA K b * X)))))))).row
  have oB := (y0.eq (by unfold pairB; ac_rfl : _ = blkA w.heap.size 68 (opC kind n m two (.slice AB lb cb)) * (blkA p 66 [ptr x.cur.M, ptr x.cur.R, .slice As x.pcs.length cs, pv] * (rowA 36 1 (.slice As x.pcs.length cs) x.pcs.length (x.pcs.map fun p => .iface 82 (ptr p.P)) * (rowA 90 1 pv x.pcs.length (x.pcs.map fun p => ptr p.Q) * (all mdA x.ms * (all pieceA x.pcs * (bookA K b * X))))))))
  have o0 := oB.cell 0 rfl
  have o1 := oB.cell 1 rfl
  have o2 := oB.cell 2 rfl
  have o4 := oB.cell 4 rfl
  have f2 := oB.swap.cell 2 rfl
  have f3 := oB.swap.cell 3 rfl
  simp only [opC] at o0 o1 o2 o4 f2 f3
  obtain ⟨q, hq⟩ : ∃ q : Int, q = (x.pcs.length : Int) - 1 := ⟨_, rfl⟩
  have e1 : IntKind.i64.wrap ((x.pcs.length : Int) - 1) = q := (wrap_i64 (by omega) (by omega)).trans hq.symm
  by_cases h0 : x.pcs.length = 0
  · refine ⟨x, b, _, f24.run rfl ?_, h.mono (Nat.le_refl _) (by omega), rfl, hb.mono (by omega), oB.right.eq (Y := pairB p x (.slice As x.pcs.length cs) pv * (bookA K b * X)) (by unfold pairB; ac_rfl) |>.toPair⟩
    have hgt : ¬ 0 < q := by omega
    have hlt : q < 0 := by omega
    simp [f24, opV, opC, box_any, Value.cells, addL, o0, hk1, hk2, hk3, f2, e1, hgt, hlt]
  · obtain ⟨r, k, hkl, hr0, hr⟩ : ∃ (r : Int) (k : Nat), k < x.pcs.length ∧ r = k ∧ r = if 0 < q ∧ 0 < lb then q - 1 else q := by
      by_cases hc : 0 < q ∧ 0 < lb
      · exact ⟨q - 1, x.pcs.length - 2, by omega, by omega, by rw [if_pos hc]⟩
      · exact ⟨q, x.pcs.length - 1, by omega, by omega, by rw [if_neg hc]⟩
    obtain ⟨pc, hpc⟩ : ∃ pc, x.pcs[k]? = some pc := ⟨_, List.getElem?_eq_getElem hkl⟩
    obtain ⟨⟨md, hmd, hM, hR⟩, han⟩ := h.pcs pc (List.mem_of_getElem? hpc)
    have hs := h.ms md (List.mem_of_getElem? hmd)
    have hf := hs.fit hL hG
    obtain ⟨T, hT⟩ : ∃ T : Asn W.heap.size, T = all mdA (x.ms.eraseIdx pc.i) * (all pieceA (x.pcs.eraseIdx k) * blkA w.heap.size 68 (opC kind n m two (.slice AB lb cb))) := ⟨_, rfl⟩
    obtain ⟨PB, hPB⟩ : ∃ PB : Asn W.heap.size, PB = blkA p 66 [ptr x.cur.M, ptr x.cur.R, .slice As x.pcs.length cs, pv] := ⟨_, rfl⟩
    obtain ⟨RS, hRS⟩ : ∃ RS : Asn W.heap.size, RS = rowA 36 1 (.slice As x.pcs.length cs) x.pcs.length (x.pcs.map fun p => .iface 82 (ptr p.P)) := ⟨_, rfl⟩
    obtain ⟨RP, hRP⟩ : ∃ RP : Asn W.heap.size, RP = rowA 90 1 pv x.pcs.length (x.pcs.map fun p => ptr p.Q) := ⟨_, rfl⟩
    have y1 : Sat W (medA pc.M md.s * (pcA pc.P pc.M pc.a pc.n * (rmedA pc.R md.s * (rpcA pc.Q pc.R pc.a pc.n * (PB * (RS * (RP * (T * (bookA K b * X))))))))) (w.alloc (.cells (opC kind n m two (.slice AB lb cb)).toArray 68)) := y0.eq (by
      rw [pairB_at hmd, hT, hPB, hRS, hRP, hM, hR]
      unfold restA
      rw [all_get pieceA hpc]
      unfold pieceA
      ac_rfl)
    have oT : ∀ {Y : Asn W.heap.size} {w' : World}, Sat W (T * Y) w' → w'.cell? ⟨w.heap.size, 1, none⟩ = some (.int .i64 n) ∧ w'.cell? ⟨w.heap.size, 2, none⟩ = some (.int .i64 m) := by
      intro Y w' z
      have z' := z.eq (by rw [hT]; ac_rfl : _ = blkA w.heap.size 68 (opC kind n m two (.slice AB lb cb)) * (all mdA (x.ms.eraseIdx pc.i) * (all pieceA (x.pcs.eraseIdx k) * Y)))
      exact ⟨z'.cell 1 rfl, z'.cell 2 rfl⟩
    have hsv : (x.pcs.map fun p => Value.iface 82 (ptr p.P))[k]? = some (.iface 82 (ptr pc.P)) := by simp [hpc]
    have hpv : (x.pcs.map fun p => ptr p.Q)[k]? = some (ptr pc.Q) := by simp [hpc]
    obtain ⟨a, c1, ha, q1⟩ := row_cell (y1.eq (by rw [hRS]; ac_rfl : _ = rowA 36 1 (.slice As x.pcs.length cs) x.pcs.length (x.pcs.map fun p => .iface 82 (ptr p.P)) * (medA pc.M md.s * (pcA pc.P pc.M pc.a pc.n * (rmedA pc.R md.s * (rpcA pc.Q pc.R pc.a pc.n * (PB * (RP * (T * (bookA K b * X)))))))))) hsv
    simp only [Value.slice.injEq, true_and] at ha
    obtain ⟨rfl, rfl⟩ := ha
    obtain ⟨v, w2, h2, y2⟩ := m_pread y1.drew hf han n m
    obtain ⟨hok, hlen⟩ := ok_pread hs (pc.a : Int) pc.n n m
    obtain ⟨s', hs'⟩ : ∃ s', s' = (md.s.pread pc.a pc.n n m).2.2 := ⟨_, rfl⟩
    obtain ⟨o, ho⟩ : ∃ o, o = (md.s.pread pc.a pc.n n m).1 := ⟨_, rfl⟩
    rw [← hs', ← ho] at y2
    rw [← hs'] at hok
    rw [← ho] at hlen
    have z2 : Sat W (rmedA pc.R md.s * (rpcA pc.Q pc.R pc.a pc.n * (clipA 5 1 v o.length (bv o) * (medA pc.M s' * (pcA pc.P pc.M pc.a pc.n * (PB * (RS * (RP * (T * (bookA K b * X)))))))))) w2 := y2.eq (by ac_rfl)
    have g3 := (z2.eq (by rw [hPB]; ac_rfl : _ = blkA p 66 [ptr x.cur.M, ptr x.cur.R, .slice (some a) x.pcs.length cs, pv] * (rmedA pc.R md.s * (rpcA pc.Q pc.R pc.a pc.n * (clipA 5 1 v o.length (bv o) * (medA pc.M s' * (pcA pc.P pc.M pc.a pc.n * (RS * (RP * (T * (bookA K b * X))))))))))).cell 3 rfl
    obtain ⟨ap, cp, rfl, q2⟩ := row_cell (z2.eq (by rw [hRP]; ac_rfl : _ = rowA 90 1 pv x.pcs.length (x.pcs.map fun p => ptr p.Q) * (rmedA pc.R md.s * (rpcA pc.Q pc.R pc.a pc.n * (clipA 5 1 v o.length (bv o) * (medA pc.M s' * (pcA pc.P pc.M pc.a pc.n * (PB * (RS * (T * (bookA K b * X))))))))))) hpv
    obtain ⟨p1, p2⟩ := oT (z2.eq (by ac_rfl : _ = T * (rmedA pc.R md.s * (rpcA pc.Q pc.R pc.a pc.n * (clipA 5 1 v o.length (bv o) * (medA pc.M s' * (pcA pc.P pc.M pc.a pc.n * (PB * (RS * (RP * (bookA K b * X)))))))))))
    obtain ⟨v2, w3, h3, y3⟩ := r_pread z2.drew hf han n m
    rw [← hs', ← ho] at y3
    obtain ⟨Ar, cr, rfl, _⟩ := own_form y3.row
    have z3 : Sat W (clipA 5 1 v o.length (bv o) * (rowA 5 1 (.slice Ar o.length cr) o.length (bv o) * (bookA K b * (medA pc.M s' * (pcA pc.P pc.M pc.a pc.n * (rmedA pc.R s' * (rpcA pc.Q pc.R pc.a pc.n * (PB * (RS * (RP * (T * X))))))))))) w3 := y3.eq (by ac_rfl)
    obtain ⟨b', w4, h4, hb', ⟨k1, k2, k3⟩, y4⟩ := book_held z3 hb hN (by omega)
    obtain ⟨⟨A5, k5, r5⟩, A6, c6, k6, r6⟩ := book_rd y4
    rw [k1] at k5
    rw [k2] at k6
    rw [k3] at k5 r5 k6 r6
    subst k5
    cases k6
    have t1 := tx22_9 (w := w4.drew) (c := o.length) rfl r5
    have t2 := tx22_9 (w := w4.drew) (c := cr) rfl r6
    have y5 := y4.drew
    have u1 := m_psize (y5.eq (by ac_rfl : _ = pcA pc.P pc.M pc.a pc.n * (bookA K b' * (medA pc.M s' * (rmedA pc.R s' * (rpcA pc.Q pc.R pc.a pc.n * (PB * (RS * (RP * (T * X))))))))))
    have u2 := r_psize (y5.eq (by ac_rfl : _ = rpcA pc.Q pc.R pc.a pc.n * (bookA K b' * (medA pc.M s' * (pcA pc.P pc.M pc.a pc.n * (rmedA pc.R s' * (PB * (RS * (RP * (T * X))))))))))
    have zp := (y4.eq (by rw [hPB]; ac_rfl : _ = blkA p 66 [ptr x.cur.M, ptr x.cur.R, .slice (some a) x.pcs.length cs, .slice (some ap) x.pcs.length cp] * (bookA K b' * (medA pc.M s' * (pcA pc.P pc.M pc.a pc.n * (rmedA pc.R s' * (rpcA pc.Q pc.R pc.a pc.n * (RS * (RP * (T * X))))))))))
    have j2 := zp.cell 2 rfl
    have j3 := zp.cell 3 rfl
    obtain ⟨a', _, ha', q3⟩ := row_cell (y4.eq (by rw [hRS]; ac_rfl : _ = rowA 36 1 (.slice (some a) x.pcs.length cs) x.pcs.length (x.pcs.map fun p => .iface 82 (ptr p.P)) * (bookA K b' * (medA pc.M s' * (pcA pc.P pc.M pc.a pc.n * (rmedA pc.R s' * (rpcA pc.Q pc.R pc.a pc.n * (PB * (RP * (T * X)))))))))) hsv
    cases ha'
    obtain ⟨a', _, ha', q4⟩ := row_cell (y4.eq (by rw [hRP]; ac_rfl : _ = rowA 90 1 (.slice (some ap) x.pcs.length cp) x.pcs.length (x.pcs.map fun p => ptr p.Q) * (bookA K b' * (medA pc.M s' * (pcA pc.P pc.M pc.a pc.n * (rmedA pc.R s' * (rpcA pc.Q pc.R pc.a pc.n * (PB * (RS * (T * X)))))))))) hpv
    cases ha'
    have i1 := ix63 a x.pcs.length cs .i64 r (by omega) (by omega)
    have i2 := ix64 ap x.pcs.length cp .i64 r (by omega) (by omega)
    rw [show r.toNat = k by omega, Nat.mul_one] at i1 i2
    refine ⟨x.upd pc.i ⟨md.M, md.R, s'⟩, b', w4.drew, f24.run rfl ?_, h.upd hmd hok (Nat.le_refl _) (by omega), rfl, hb'.mono (by omega), ?_⟩
    · simp only [opC] at q1 h2
      have hkn : ¬ r < 0 := by omega
      by_cases hc1 : 0 < q
      · by_cases hc2 : 0 < lb
        · rw [if_pos ⟨hc1, hc2⟩] at hr
          have e2 : IntKind.i64.wrap (q - 1) = r := (wrap_i64 (by omega) (by omega)).trans hr.symm
          simp [f24, opV, opC, box_any, Value.cells, addL, o0, o1, o2, o4, hk1, hk2, hk3, f2, e1, e2, hc1, hc2, hkn, i1, q1, im_read3, h2, g3, i2, q2, p1, p2, h3, h4, t1, t2, j2, j3, q3, q4, im_size3, u1, u2, wantedV, pickV, chkThen]
        · rw [if_neg (fun q => hc2 q.2)] at hr
          obtain rfl : lb = 0 := by omega
          subst hr
          simp [f24, opV, opC, box_any, Value.cells, addL, o0, o1, o2, o4, hk1, hk2, hk3, f2, e1, hc1, hkn, i1, q1, im_read3, h2, g3, i2, q2, p1, p2, h3, h4, t1, t2, j2, j3, q3, q4, im_size3, u1, u2, wantedV, pickV, chkThen]
      · rw [if_neg (fun q => hc1 q.1)] at hr
        subst hr
        simp [f24, opV, opC, box_any, Value.cells, addL, o0, o1, o2, o4, hk1, hk2, hk3, f2, e1, hc1, hkn, i1, q1, im_read3, h2, g3, i2, q2, p1, p2, h3, h4, t1, t2, j2, j3, q3, q4, im_size3, u1, u2, wantedV, pickV, chkThen]
    · have z5 : Sat W (pairB p (x.upd pc.i ⟨md.M, md.R, s'⟩) (.slice (some a) x.pcs.length cs) (.slice (some ap) x.pcs.length cp) * (blkA w.heap.size 68 (opC kind n m two (.slice AB lb cb)) * (bookA K b' * X))) w4.drew := y5.eq (by
        rw [pairB_upd hmd h.cur, hT, hPB, hRS, hRP, hM, hR]
        unfold restA
        rw [all_get pieceA hpc]
        unfold pieceA
        ac_rfl)
      exact z5.toPair.drop2
end
end Go.Sh.Ytokpgallfmpmkaa
