/- dailieslaw20.Between: its loops. Conditions: those of each statement. -/
import Derived.Test.YtacfghffojijaaaDoorCPB
namespace Go.Sh.YtacfghffojijaaaDoor
open Go Go.Proofs Go.RowKit
set_option linter.unusedVariables false
set_option linter.unusedSimpArgs false
set_option maxRecDepth 100000
section
variable {part of : Int} (hof : 1 ≤ of) (hp0 : 0 ≤ part) (hp1 : part < of)
variable {w0 : World} {A B M N : Option Addr} {ca cb cm cn : Nat} {qa qb qm qn : List Pl} (ra : Rd w0 A (qa.map Pl.v)) (rb : Rd w0 B (qb.map Pl.v)) (rm : Rd w0 M (qm.map Pl.v)) (rn : Rd w0 N (qn.map Pl.v)) (oa : ∀ x ∈ qa, x.ok w0) (ob : ∀ x ∈ qb, x.ok w0) (om : ∀ x ∈ qm, x.ok w0) (on : ∀ x ∈ qn, x.ok w0) {a b c d : Nat} {W H D : Int} {al : Bool}
    (ba : Blk w0 a 30 (fcs W H D al (.slice A qa.length ca))) (bb : Blk w0 b 30 (fcs W H D al (.slice B qb.length cb))) (bm : Blk w0 c 30 (fcs W H D al (.slice M qm.length cm))) (bn : Blk w0 d 30 (fcs W H D al (.slice N qn.length cn)))
    (la : qa.length ≤ maxLen) (lb : qb.length = qa.length) (lm : qm.length = qa.length) (ln : qn.length = qa.length) (heq : ∀ (p : Nat) (x y : Pl), qa[p]? = some x → qb[p]? = some y → x.l.length = y.l.length)
    (hm : ∀ (p : Nat) (x y z : Pl), qa[p]? = some x → qb[p]? = some y → qm[p]? = some z → z.l = mixl part of x.l y.l) (hn : ∀ (p : Nat) (x y z : Pl), qa[p]? = some x → qb[p]? = some y → qn[p]? = some z → z.l = mixl (part + 1) of x.l y.l)
include hof hp0 hp1 ra rb rm rn oa ob om on ba bb bm bn la lb lm ln heq hm hn
theorem bet_l0 {i : Nat} {x y z t : Pl} (hx : qa[i]? = some x) (hy : qb[i]? = some y) (hz : qm[i]? = some z) (ht : qn[i]? = some t) {w : World} (G0 : w0.grownBy w none) :
    ∃ w', iter (f4.l0 C) [.pointer (some ⟨a, 0, none⟩), .pointer (some ⟨b, 0, none⟩), .pointer (some ⟨c, 0, none⟩), .pointer (some ⟨d, 0, none⟩), .int .i64 i, .int .i64 0] w = some (.exit 2 [.pointer (some ⟨a, 0, none⟩), .pointer (some ⟨b, 0, none⟩), .pointer (some ⟨c, 0, none⟩), .pointer (some ⟨d, 0, none⟩), .int .i64 i] w') ∧ w0.grownBy w' none := by
  have hxl := (oa x (List.mem_of_getElem? hx)).len
  have hxy := heq i x y hx hy
  have hzl := hm i x y z hx hy hz
  have htl := hn i x y t hx hy ht
  have key := iter_down (f := f4.l0 C) (fun dd st w1 => ∃ j : Nat, st = [.pointer (some ⟨a, 0, none⟩), .pointer (some ⟨b, 0, none⟩), .pointer (some ⟨c, 0, none⟩), .pointer (some ⟨d, 0, none⟩), .int .i64 i, .int .i64 j] ∧ j + dd = x.l.length ∧ w0.grownBy w1 none)
    (fun r => ∃ w1, r = .exit 2 [.pointer (some ⟨a, 0, none⟩), .pointer (some ⟨b, 0, none⟩), .pointer (some ⟨c, 0, none⟩), .pointer (some ⟨d, 0, none⟩), .int .i64 i] w1 ∧ w0.grownBy w1 none) (by
      rintro dd st w1 ⟨j, rfl, hj, G⟩
      have ba1 := ba.grown G (by simp)
      have bb1 := bb.grown G (by simp)
      have bm1 := bm.grown G (by simp)
      have bn1 := bn.grown G (by simp)
      cases dd with
      | zero =>
        obtain rfl : j = x.l.length := by omega
        obtain ⟨aA, rfl, i1, c1⟩ := plane_at (ra.grown G) hx la ca
        exact .inr ⟨_, by simp [f4.l0, addL, ba1.cell_eq 4 rfl, i1, c1], ⟨w1, rfl, G⟩, by simp⟩
      | succ dd =>
        have hjl : j < x.l.length := by omega
        obtain ⟨s, hs⟩ : ∃ s, x.l[j]? = some s := ⟨_, List.getElem?_eq_getElem hjl⟩
        obtain ⟨r, hr⟩ : ∃ r, y.l[j]? = some r := ⟨_, List.getElem?_eq_getElem (by omega)⟩
        have hzs : z.l[j]? = some (mv part of s r) := by rw [hzl]; unfold mixl; rw [List.getElem?_zipWith, hs, hr]
        have hts : t.l[j]? = some (mv (part + 1) of s r) := by rw [htl]; unfold mixl; rw [List.getElem?_zipWith, hs, hr]
        have hzj := (List.getElem?_eq_some_iff.mp hzs).1
        have htj := (List.getElem?_eq_some_iff.mp hts).1
        obtain ⟨s0, s1⟩ := (oa x (List.mem_of_getElem? hx)).rng s (List.mem_of_getElem? hs)
        obtain ⟨r0, r1⟩ := (ob y (List.mem_of_getElem? hy)).rng r (List.mem_of_getElem? hr)
        obtain ⟨aA, aX, e1, i1, c1, k1, d1⟩ := at_ok (ra.grown G) (fun x hx => (oa x hx).grown G) hx hjl la hs ca
        obtain ⟨aB, aY, e2, i2, c2, k2, d2⟩ := at_ok (rb.grown G) (fun x hx => (ob x hx).grown G) hy (by omega) (by omega) hr cb
        obtain ⟨aM, aZ, e3, i3, c3, k3, d3⟩ := at_ok (rm.grown G) (fun x hx => (om x hx).grown G) hz hzj (by omega) hzs cm
        obtain ⟨aN, aT, e4, i4, c4, k4, d4⟩ := at_ok (rn.grown G) (fun x hx => (on x hx).grown G) ht htj (by omega) hts cn
        subst e1
        subst e2
        subst e3
        subst e4
        obtain ⟨m1, hm1⟩ : ∃ m1, m1 = mv part of s r := ⟨_, rfl⟩
        obtain ⟨m2, hm2⟩ : ∃ m2, m2 = mv (part + 1) of s r := ⟨_, rfl⟩
        rw [← hm1] at d3
        rw [← hm2] at d4
        have st := mv_step hof hp0 hp1 s0 s1 r0 r1
        rw [← hm1, ← hm2] at st
        have e5 : IntKind.i64.wrap ((j : Int) + 1) = ((j + 1 : Nat) : Int) := (wrap_i64 (by omega) (by omega)).trans (by omega)
        refine .inl ⟨dd, _, w1, by omega, ?_, ⟨j + 1, rfl, by omega, G⟩⟩
        by_cases h : s ≤ r
        · have up := mv_up hof hp0 (by omega) s0 r1 h
          rw [← hm1] at up
          have h1 : (if r < s then r else s) = s := if_neg (by omega)
          have h2 : (if s < r then r else s) = r := by split <;> omega
          have q1 : (m1 < s) = False := eq_false (by omega)
          have q2 : (r < m1) = False := eq_false (by omega)
          have q3 : (m2 < m1) = False := eq_false (by omega)
          have q4 : (s ≤ r) = True := eq_true h
          by_cases h' : r ≤ s
          · have q5 : (r ≤ s) = True := eq_true h'
            have q6 : (m1 < m2) = False := eq_false (by omega)
            simp (disch := omega) [f4.l0, lt_t, addL, ba1.cell_eq 4 rfl, bb1.cell_eq 4 rfl, bm1.cell_eq 4 rfl, bn1.cell_eq 4 rfl, i1, i2, i3, i4, c1, c2, c3, c4, k1, k2, k3, k4, d1, d2, d3, d4, min39, max39, h1, h2, q1, q2, q3, q4, q5, q6, e5]
          · have q5 : (r ≤ s) = False := eq_false h'
            simp (disch := omega) [f4.l0, lt_t, addL, ba1.cell_eq 4 rfl, bb1.cell_eq 4 rfl, bm1.cell_eq 4 rfl, bn1.cell_eq 4 rfl, i1, i2, i3, i4, c1, c2, c3, c4, k1, k2, k3, k4, d1, d2, d3, d4, min39, max39, h1, h2, q1, q2, q3, q4, q5, e5]
        · have h' : r ≤ s := by omega
          have dn := mv_dn hof hp0 (by omega) r0 s1 h'
          rw [← hm1] at dn
          have h1 : (if r < s then r else s) = r := if_pos (by omega)
          have h2 : (if s < r then r else s) = s := if_neg (by omega)
          have q1 : (m1 < r) = False := eq_false (by omega)
          have q2 : (s < m1) = False := eq_false (by omega)
          have q6 : (m1 < m2) = False := eq_false (by omega)
          have q4 : (s ≤ r) = False := eq_false h
          have q5 : (r ≤ s) = True := eq_true h'
          simp (disch := omega) [f4.l0, lt_t, addL, ba1.cell_eq 4 rfl, bb1.cell_eq 4 rfl, bm1.cell_eq 4 rfl, bn1.cell_eq 4 rfl, i1, i2, i3, i4, c1, c2, c3, c4, k1, k2, k3, k4, d1, d2, d3, d4, min39, max39, h1, h2, q1, q2, q4, q5, q6, e5]) x.l.length _ w ⟨0, rfl, by omega, G0⟩
  obtain ⟨r, h1, w1, rfl, G1⟩ := key
  exact ⟨w1, h1, G1⟩
theorem bet_l1 {w : World} (G0 : w0.grownBy w none) :
    ∃ w', iter (f4.l1 C) [.pointer (some ⟨a, 0, none⟩), .pointer (some ⟨b, 0, none⟩), .pointer (some ⟨c, 0, none⟩), .pointer (some ⟨d, 0, none⟩), .int .i64 0] w = some (.exit 0 [] w') ∧ w0.grownBy w' none := by
  have hmx : (maxLen : Int) = 9223372036854775807 := by simp [maxLen]
  have key := iter_down (f := f4.l1 C) (fun dd st w1 => ∃ i : Nat, st = [.pointer (some ⟨a, 0, none⟩), .pointer (some ⟨b, 0, none⟩), .pointer (some ⟨c, 0, none⟩), .pointer (some ⟨d, 0, none⟩), .int .i64 i] ∧ i + dd = qa.length ∧ w0.grownBy w1 none)
    (fun r => ∃ w1, r = .exit 0 [] w1 ∧ w0.grownBy w1 none) (by
      rintro dd st w1 ⟨i, rfl, hi, G⟩
      have ba1 := ba.grown G (by simp)
      have bm1 := bm.grown G (by simp)
      have bn1 := bn.grown G (by simp)
      cases dd with
      | zero =>
        obtain rfl : i = qa.length := by omega
        exact .inr ⟨_, by simp [f4.l1, addL, ba1.cell_eq 4 rfl], ⟨w1, rfl, G⟩, by simp⟩
      | succ dd =>
        have hil : i < qa.length := by omega
        obtain ⟨x, hx⟩ : ∃ x, qa[i]? = some x := ⟨_, List.getElem?_eq_getElem hil⟩
        obtain ⟨y, hy⟩ : ∃ y, qb[i]? = some y := ⟨_, List.getElem?_eq_getElem (by omega)⟩
        obtain ⟨z, hz⟩ : ∃ z, qm[i]? = some z := ⟨_, List.getElem?_eq_getElem (by omega)⟩
        obtain ⟨t, ht⟩ : ∃ t, qn[i]? = some t := ⟨_, List.getElem?_eq_getElem (by omega)⟩
        have hxy := heq i x y hx hy
        have hzl : z.l.length = x.l.length := by rw [hm i x y z hx hy hz]; exact mixl_length part of hxy
        have htl : t.l.length = x.l.length := by rw [hn i x y t hx hy ht]; exact mixl_length of (part := part + 1) hxy
        obtain ⟨u, hu⟩ : ∃ u, u = w1.drew := ⟨_, rfl⟩
        have gu : w1.grownBy u none := hu ▸ grown_drew w1 none
        have Gu := grown_trans G gu (by simp)
        have bau := ba.grown Gu (by simp)
        have bmu := bm.grown Gu (by simp)
        have bnu := bn.grown Gu (by simp)
        obtain ⟨aA, e1, i1, c1⟩ := plane_at (ra.grown Gu) hx la ca
        obtain ⟨aM, e3, i3, c3⟩ := plane_at (rm.grown Gu) hz (by omega) cm
        obtain ⟨aN, e4, i4, c4⟩ := plane_at (rn.grown Gu) ht (by omega) cn
        subst e1
        subst e3
        subst e4
        obtain ⟨w2, l2, G2⟩ := bet_l0 hof hp0 hp1 ra rb rm rn oa ob om on ba bb bm bn la lb lm ln heq hm hn hx hy hz ht Gu
        have e5 : IntKind.i64.wrap ((i : Int) + 1) = ((i + 1 : Nat) : Int) := (wrap_i64 (by omega) (by omega)).trans (by omega)
        refine .inl ⟨dd, _, w2, by omega, ?_, ⟨i + 1, rfl, by omega, G2⟩⟩
        rw [lm] at i3 bmu
        rw [ln] at i4 bnu
        rw [hzl] at c3
        rw [htl] at c4
        simp (disch := omega) [f4.l1, lt_t, ← hu, addL, ba1.cell_eq 4 rfl, bau.cell_eq 4 rfl, bmu.cell_eq 4 rfl, bnu.cell_eq 4 rfl, i1, i3, i4, c1, c3, c4, l2, e5]) qa.length _ w ⟨0, rfl, by omega, G0⟩
  obtain ⟨r, h1, w1, rfl, G1⟩ := key
  exact ⟨w1, h1, G1⟩
end
end Go.Sh.YtacfghffojijaaaDoor
