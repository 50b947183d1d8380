/- MediumPlays: the law's function answers true. Conditions: those of each statement. -/
import Derived.Test.YtokpgallfmpmkaaMPQ
namespace Go.Sh.Ytokpgallfmpmkaa
open Go Go.Proofs Go.RowKit
set_option linter.unusedVariables false
set_option linter.unusedSimpArgs false
set_option maxRecDepth 100000
/-- a step, as it came in -/
structure Opd where
  kind : Int
  n : Int
  m : Int
  two : Bool
  A : Option Addr
  c : Nat
  z : List UInt8
structure Opd.ok (o : Opd) (W : World) : Prop where
  rd : Rd W o.A (bv o.z)
  nil : o.A = none → o.c = 0
  cap : o.z.length ≤ o.c
  len : o.z.length ≤ 4000000000
  n0 : -9223372036854775808 ≤ o.n ∧ o.n ≤ 9223372036854775807
  m0 : -9223372036854775808 ≤ o.m ∧ o.m ≤ 9223372036854775807
def Opd.cs (o : Opd) : List Value := opC o.kind o.n o.m o.two (.slice o.A o.z.length o.c)
theorem five_get {q : List Opd} {i : Nat} {o : Opd} (hi : q[i]? = some o) {j : Nat} (hj : j < 5) : (q.flatMap Opd.cs)[i * 5 + j]? = o.cs[j]? := by
  induction q generalizing i with
  | nil => simp at hi
  | cons a l ih =>
    have hl : a.cs.length = 5 := rfl
    cases i with
    | zero =>
      simp at hi
      subst hi
      rw [List.flatMap_cons, Nat.zero_mul, Nat.zero_add, List.getElem?_append_left (by omega)]
    | succ i =>
      simp at hi
      rw [List.flatMap_cons, List.getElem?_append_right (by omega), hl, show (i + 1) * 5 + j - 5 = i * 5 + j by omega]
      exact ih hi
theorem build59 : prun Try.prog (Instr.build 59 #[]) = some (.agg #[.slice none 0 0, .slice none 0 0, .slice none 0 0, .slice none 0 0, .slice none 0 0, .slice none 0 0, .slice none 0 0, .slice none 0 0]) := id (by kernel_rfl)
theorem build66 (a b : Option Addr) : prun Try.prog (Instr.build 66 #[(0, .pointer a), (1, .pointer b)]) = some (.agg #[.pointer a, .pointer b, .slice none 0 0, .slice none 0 0]) := id (by kernel_rfl)
theorem build68 (k : Int) : prun Try.prog (Instr.build 68 #[(0, .int .i64 k)]) = some (opV k 0 0 false (.slice none 0 0)) := id (by kernel_rfl)
def Pr.start (M R : Nat) : Pr := ⟨[⟨M, R, ⟨[], false, 0, 0, []⟩⟩], 0, ⟨M, R, ⟨[], false, 0, 0, []⟩⟩, []⟩
def Bk.start : Bk := ⟨[], [], [], [], .slice none 0 0, .slice none 0 0, [], .slice none 0 0, .slice none 0 0, []⟩
theorem start_ok (M R : Nat) : (Pr.start M R).ok 0 0 := by
  refine ⟨rfl, fun m hm => ?_, fun p hp => by cases hp⟩
  simp [Pr.start] at hm
  subst hm
  exact ⟨Nat.le_refl _, Nat.le_refl _, by simp, by simp, by simp, by simp⟩
theorem start_fit : Bk.start.fit 0 := ⟨Nat.le_refl _, Nat.le_refl _, by simp [Bk.start], by simp [Bk.start], by simp [Bk.start], by simp [Bk.start], by simp [Bk.start], by simp [Bk.start]⟩
section
variable {W w : World} {X : Asn W.heap.size}
theorem _root_.Go.Sh.Sat.nilClip (s : Sat W X w) (e : TypeId) (sz : Nat) : Sat W (clipA e sz (.slice none 0 0) 0 [] * X) w := (s.nilRow e sz).row_clip (Nat.le_refl _)
theorem start_pair (M R : Nat) (y : Sat W (medA M ⟨[], false, 0, 0, []⟩ * (rmedA R ⟨[], false, 0, 0, []⟩ * X)) w) : Sat W (pairA w.heap.size (Pr.start M R) * X) (w.alloc (.cells #[ptr M, ptr R, .slice none 0 0, .slice none 0 0] 66)) := by
  have y1 := ((y.newBlk 66 [ptr M, ptr R, .slice none 0 0, .slice none 0 0]).nilRow 36 1).nilRow 90 1
  refine Sat.toPair (sv := .slice none 0 0) (pv := .slice none 0 0) (y1.eq ?_)
  unfold pairB
  simp only [Pr.start, List.length_nil, List.map_nil, all, star_emp, mdA, emp_star]
  ac_rfl
theorem start_book (y : Sat W X w) : Sat W (bookA w.heap.size Bk.start * X) (w.alloc (.cells #[.slice none 0 0, .slice none 0 0, .slice none 0 0, .slice none 0 0, .slice none 0 0, .slice none 0 0, .slice none 0 0, .slice none 0 0] 59)) := by
  have y1 := y.newBlk 59 [.slice none 0 0, .slice none 0 0, .slice none 0 0, .slice none 0 0, .slice none 0 0, .slice none 0 0, .slice none 0 0, .slice none 0 0]
  have y2 := (((((((y1.nilRow 99 2).nilRow 101 2).nilRow 22 1).nilRow 41 1).nilClip 5 1).nilRow 5 1).nilClip 40 2).nilRow 40 2
  refine Sat.toBook (l := .slice none 0 0) (s := .slice none 0 0) (out := .slice none 0 0) (told := .slice none 0 0) (y2.eq ?_)
  unfold bookB
  simp only [Bk.start, List.length_nil, List.map_nil, all, emp_star, hcs, scs, List.flatMap_nil, bv, sc]
  ac_rfl
theorem plays_l0 {A : Option Addr} {c : Nat} {q : List Opd} (hr : Rd W A (q.flatMap Opd.cs)) (hok : ∀ o ∈ q, o.ok W) (hq : q.length ≤ 500000000) {px py K : Nat} {x0 y0 : Pr} {b0 : Bk} (s0 : Sat W (pairA px x0 * (pairA py y0 * bookA K b0)) w) (hx0 : x0.ok 0 0) (hy0 : y0.ok 0 0) (hb0 : b0.fit 0) (hxp : x0.pcs.length = 0) (hyp : y0.pcs.length = 0) :
    ∃ r, iter (f6.l0 C) [.slice A q.length c, ptr K, ptr px, ptr py, .int .i64 0, .int .i64 0] w = some r ∧ ((∃ w1, r = .ret [.bool true] w1 ∧ Grew (fun _ => False) W w1) ∨
      ∃ w1 x y b, r = .exit 0 [ptr K, ptr px, ptr py] w1 ∧ x.ok 268435456 500000000 ∧ y.ok 268435456 500000000 ∧ b.fit 1000000000 ∧ Sat W (pairA px x * (pairA py y * bookA K b)) w1) := by
  have key := iter_down (f := f6.l0 C) (fun d vs w1 => ∃ (i S : Nat) (x y : Pr) (b : Bk), vs = [.slice A q.length c, ptr K, ptr px, ptr py, .int .i64 S, .int .i64 i] ∧ i + d = q.length ∧ S ≤ 268435456 ∧ x.ok S i ∧ y.ok S i ∧ b.fit (2 * i) ∧ x.pcs.length ≤ i ∧ y.pcs.length ≤ i ∧ Sat W (pairA px x * (pairA py y * bookA K b)) w1)
    (fun r => (∃ w1, r = .ret [.bool true] w1 ∧ Grew (fun _ => False) W w1) ∨ ∃ w1 x y b, r = .exit 0 [ptr K, ptr px, ptr py] w1 ∧ x.ok 268435456 500000000 ∧ y.ok 268435456 500000000 ∧ b.fit 1000000000 ∧ Sat W (pairA px x * (pairA py y * bookA K b)) w1) (by
      rintro d vs w1 ⟨i, S, x, y, b, rfl, hi, hS, hx, hy, hb, hpx, hpy, s⟩
      cases d with
      | zero =>
        obtain rfl : i = q.length := by omega
        refine .inr ⟨_, ?_, .inr ⟨w1, x, y, b, rfl, hx.mono hS hq, hy.mono hS hq, hb.mono (by omega), s⟩, by simp⟩
        simp (disch := omega) [f6.l0, lt_f]
      | succ d =>
        have hil : i < q.length := by omega
        obtain ⟨o, ho⟩ : ∃ o, q[i]? = some o := ⟨_, List.getElem?_eq_getElem hil⟩
        have hoo := hok o (List.mem_of_getElem? ho)
        have hlt : (i : Int) < (q.length : Int) := by omega
        have e1 : IntKind.i64.wrap ((i : Int) + 1) = ((i + 1 : Nat) : Int) := (wrap_i64 (by omega) (by omega)).trans (by omega)
        have hrd := s.rd hr
        cases A with
        | none =>
          have h0 : q.flatMap Opd.cs = [] := hrd
          have := five_get ho (show 0 < 5 by omega)
          rw [h0] at this
          simp [Opd.cs, opC] at this
        | some a =>
          have g : ∀ j v, j < 5 → o.cs[j]? = some v → w1.cell? (a.add (i * 5 + j)) = some v := fun j v hj hv => hrd _ _ (by rw [five_get ho hj]; exact hv)
          have i1 := ix53 a q.length c .i64 (i : Int) (by omega) (by omega)
          simp only [Int.toNat_natCast] at i1
          have c4 := g 4 _ (by omega) rfl
          have c3 := g 3 _ (by omega) rfl
          have l1 := ld68 (w := w1) (a := a.add (i * 5)) (by rw [Addr.add_add]; exact g 0 _ (by omega) rfl) (by rw [Addr.add_add]; exact g 1 _ (by omega) rfl) (by rw [Addr.add_add]; exact g 2 _ (by omega) rfl) (by rw [Addr.add_add]; exact c3) (by rw [Addr.add_add]; exact c4)
          have hlen := hoo.len
          obtain ⟨S', hS'⟩ : ∃ S' : Nat, S' = S + o.z.length := ⟨_, rfl⟩
          have e2 : IntKind.i64.wrap ((S : Int) + o.z.length) = (S' : Int) := (wrap_i64 (by omega) (by omega)).trans (by omega)
          by_cases hbig : (S' : Int) > 268435456
          · refine .inr ⟨.ret [.bool true] w1, ?_, .inl ⟨w1, rfl, s.1⟩, by simp⟩
            have hbig' : (268435456 : Int) < (S' : Int) := by omega
            simp [f6.l0, hlt, i1, c4, Addr.add_add, e2, hbig']
          · have hbig' : ¬ (268435456 : Int) < (S' : Int) := by omega
            cases ht : o.two with
            | true =>
              obtain ⟨y', b', w2, h2, hy', hpy', hb', s2⟩ := step_ok (p := py) (K := K) (x := y) (b := b) (X := pairA px x) (s.eq (by ac_rfl)) hy hb (by omega) (by omega) (by omega) (by omega) hoo.rd hoo.nil hoo.cap o.kind o.n o.m hoo.n0 hoo.m0 o.two
              have h2' : R mu 23 #[ptr py, ptr K, .agg #[.int .i64 o.kind, .int .i64 o.n, .int .i64 o.m, .bool true, .slice o.A o.z.length o.c]] w1 = some (.bool true, w2) := by have := h2; rw [ht] at this; exact this
              rw [ht] at c3 l1
              refine .inl ⟨d, _, w2, by omega, ?_, ⟨i + 1, S', x, y', b', rfl, by omega, by omega, hx.mono (by omega) (by omega), by rw [hS']; exact hy', hb'.mono (by omega), by omega, by omega, s2.eq (by ac_rfl)⟩⟩
              simp [f6.l0, hlt, i1, c4, c3, Addr.add_add, e2, hbig', l1, h2', bool_not, e1]
            | false =>
              obtain ⟨x', b', w2, h2, hx', hpx', hb', s2⟩ := step_ok (p := px) (K := K) (x := x) (b := b) (X := pairA py y) (s.eq (by ac_rfl)) hx hb (by omega) (by omega) (by omega) (by omega) hoo.rd hoo.nil hoo.cap o.kind o.n o.m hoo.n0 hoo.m0 o.two
              have h2' : R mu 23 #[ptr px, ptr K, .agg #[.int .i64 o.kind, .int .i64 o.n, .int .i64 o.m, .bool false, .slice o.A o.z.length o.c]] w1 = some (.bool true, w2) := by have := h2; rw [ht] at this; exact this
              rw [ht] at c3 l1
              refine .inl ⟨d, _, w2, by omega, ?_, ⟨i + 1, S', x', y, b', rfl, by omega, by omega, by rw [hS']; exact hx', hy.mono (by omega) (by omega), hb'.mono (by omega), by omega, by omega, s2.eq (by ac_rfl)⟩⟩
              simp [f6.l0, hlt, i1, c4, c3, Addr.add_add, e2, hbig', l1, h2', bool_not, e1]) q.length _ w ⟨0, 0, x0, y0, b0, rfl, by omega, by omega, hx0, hy0, hb0, by omega, by omega, s0⟩
  exact key
theorem plays_ok {W : World} {A : Option Addr} {c : Nat} {q : List Opd} (hr : Rd W A (q.flatMap Opd.cs)) (hok : ∀ o ∈ q, o.ok W) (hq : q.length ≤ 500000000) : ∃ w', C 6 #[.slice A q.length c] W = some (.bool true, w') ∧ W.grownBy w' none := by
  obtain ⟨w1, e1, g1⟩ := shown_ok W
  have s0 : Sat W (emp : Asn W.heap.size) W := ⟨Grew.refl _ _, _, rfl⟩
  have s1 := start_book (s0.grown g1)
  obtain ⟨M1, w3, e3, s3⟩ := m_new s1
  obtain ⟨R1, w4, e4, s4⟩ := r_new s3
  have s5 := start_pair M1 R1 (s4.swap)
  obtain ⟨M2, w6, e6, s6⟩ := m_new s5
  obtain ⟨R2, w7, e7, s7⟩ := r_new s6
  have s8 := start_pair M2 R2 (s7.swap)
  obtain ⟨w8, hw8⟩ : ∃ w8, w8 = w7.alloc (.cells #[ptr M2, ptr R2, .slice none 0 0, .slice none 0 0] 66) := ⟨_, rfl⟩
  rw [← hw8] at s8
  rw [star_emp] at s8
  have s9 : Sat W (pairA w4.heap.size (Pr.start M1 R1) * (pairA w7.heap.size (Pr.start M2 R2) * bookA w1.heap.size Bk.start)) w8 := s8.eq (by ac_rfl)
  obtain ⟨sv1, pv1, z1⟩ := s9.pair
  have c1 := (z1.eq (by unfold pairB; ac_rfl : _ = blkA w4.heap.size 66 [ptr (Pr.start M1 R1).cur.M, ptr (Pr.start M1 R1).cur.R, sv1, pv1] * (rowA 36 1 sv1 (Pr.start M1 R1).pcs.length ((Pr.start M1 R1).pcs.map fun p => .iface 82 (ptr p.P)) * (rowA 90 1 pv1 (Pr.start M1 R1).pcs.length ((Pr.start M1 R1).pcs.map fun p => ptr p.Q) * (all mdA (Pr.start M1 R1).ms * (all pieceA (Pr.start M1 R1).pcs * (pairA w7.heap.size (Pr.start M2 R2) * bookA w1.heap.size Bk.start))))))).cell 0 rfl
  obtain ⟨sv2, pv2, z2⟩ := s9.swap.pair
  have c2 := (z2.eq (by unfold pairB; ac_rfl : _ = blkA w7.heap.size 66 [ptr (Pr.start M2 R2).cur.M, ptr (Pr.start M2 R2).cur.R, sv2, pv2] * (rowA 36 1 sv2 (Pr.start M2 R2).pcs.length ((Pr.start M2 R2).pcs.map fun p => .iface 82 (ptr p.P)) * (rowA 90 1 pv2 (Pr.start M2 R2).pcs.length ((Pr.start M2 R2).pcs.map fun p => ptr p.Q) * (all mdA (Pr.start M2 R2).ms * (all pieceA (Pr.start M2 R2).pcs * (pairA w4.heap.size (Pr.start M1 R1) * bookA w1.heap.size Bk.start))))))).cell 0 rfl
  have c1' : w8.cell? ⟨w4.heap.size, 0, none⟩ = some (ptr M1) := c1
  have c2' : w8.cell? ⟨w7.heap.size, 0, none⟩ = some (ptr M2) := c2
  obtain ⟨r, hl, hres⟩ := plays_l0 (c := c) hr hok hq s9 (start_ok M1 R1) (start_ok M2 R2) start_fit rfl rfl
  rw [hw8] at c1' c2' hl
  rcases hres with ⟨wf, rfl, gf⟩ | ⟨wl, x, y, b, rfl, hx, hy, hb, s10⟩
  · refine ⟨wf, f6.run rfl ?_, gf.toNew fun _ h => h.elim⟩
    simp [f6, e1, build59, box_any, Value.cells, e3, e4, build66, e6, e7, bool_not, addL, c1', c2', hl]
  · obtain ⟨b1, v1, k1, hb1, s11⟩ := reads_11 (s10.eq (by ac_rfl : _ = pairA w4.heap.size x * (bookA w1.heap.size b * pairA w7.heap.size y))) hx hb (by omega) (by omega) (by omega) 0 0 false (.slice none 0 0)
    obtain ⟨b2, v2, k2, hb2, s12⟩ := reads_11 (s11.eq (by ac_rfl : _ = pairA w7.heap.size y * (bookA w1.heap.size b1 * pairA w4.heap.size x))) hy hb1 (by omega) (by omega) (by omega) 0 0 false (.slice none 0 0)
    obtain ⟨b3, v3, k3, hb3, s13⟩ := reads_7 (s12.eq (by ac_rfl : _ = pairA w4.heap.size x * (bookA w1.heap.size b2 * pairA w7.heap.size y))) hx hb2 (by omega) (by omega) (by omega) 0 0 false (.slice none 0 0)
    obtain ⟨b4, v4, k4, hb4, s14⟩ := reads_7 (s13.eq (by ac_rfl : _ = pairA w7.heap.size y * (bookA w1.heap.size b3 * pairA w4.heap.size x))) hy hb3 (by omega) (by omega) (by omega) 0 0 false (.slice none 0 0)
    obtain ⟨b5, v5, k5, hb5, _, _, s15⟩ := own_ok (s14.eq (by ac_rfl : _ = bookA w1.heap.size b4 * (pairA w7.heap.size y * pairA w4.heap.size x))) hb4 (by omega)
    refine ⟨v5, f6.run rfl ?_, s15.1.toNew fun _ h => h.elim⟩
    simp [f6, e1, build59, box_any, Value.cells, e3, e4, build66, e6, e7, bool_not, addL, c1', c2', hl, build68, k1, k2, k3, k4, k5]
end
end Go.Sh.Ytokpgallfmpmkaa
