/- medium: the law's step that makes a piece; any step. Conditions: those of each statement. -/
import Derived.Test.YtokpgallfmpmkaaMPO
namespace Go.Sh.Ytokpgallfmpmkaa
open Go Go.Proofs Go.RowKit
set_option linter.unusedVariables false
set_option linter.unusedSimpArgs false
set_option maxRecDepth 100000
section
variable {W w : World} {X : Asn W.heap.size} {p K : Nat} {x : Pr} {b : Bk} {A : Option Addr} {c : Nat} {z : List UInt8}
theorem step_9 {L G N : Nat} (y : Sat W (pairA p x * (bookA K b * X)) w) (h : x.ok L G) (hb : b.fit N) (hL : L + z.length ≤ 268435456) (hG : G ≤ 2000000000) (hN : N ≤ 2000000000) (hP : x.pcs.length ≤ 3000000000) (hr : Rd W A (bv z)) (hnil : A = none → c = 0) (n m : Int) (two : Bool) :
    ∃ x' b' w', C 23 #[ptr p, ptr K, opV 9 n m two (.slice A z.length c)] w = some (.bool true, w') ∧ x'.ok (L + z.length) G ∧ x'.pcs.length ≤ x.pcs.length + 1 ∧ b'.fit N ∧ Sat W (pairA p x' * (bookA K b' * X)) w' := by
  have hs := h.self
  have hf := hs.fit (by omega : L ≤ 268435456) (by omega : G ≤ 4000000000)
  have hsl := hs.l
  have hz : z.length ≤ 268435456 := by omega
  obtain ⟨a, w2, o4, e2, y2⟩ := step_pre y hr hnil hz 9 n m two
  obtain ⟨T, hT⟩ : ∃ T : Asn W.heap.size, T = rowA 5 1 (.slice (some a) (z.length + 5) (z.length + 5)) (z.length + 5) (bv (spare z)) * X := ⟨_, rfl⟩
  have oB := (y2.eq (by rw [hT]; ac_rfl : _ = blkA w.heap.size 68 (opC 9 n m two (.slice A z.length c)) * (pairA p x * (bookA K b * T))))
  have o0 := oB.cell 0 rfl
  have o1 := oB.cell 1 rfl
  have o2 := oB.cell 2 rfl
  obtain ⟨sv, pv, y3⟩ := (oB.eq (by ac_rfl : _ = pairA p x * (bookA K b * (blkA w.heap.size 68 (opC 9 n m two (.slice A z.length c)) * T)))).pairCur h
  obtain ⟨S, hS⟩ : ∃ S : Asn W.heap.size, S = restA p x x.c sv pv := ⟨_, rfl⟩
  rw [← hS] at y3
  have k10 := (y3.eq (by ac_rfl : _ = blkA p 66 [ptr x.cur.M, ptr x.cur.R, sv, pv] * (medA x.cur.M x.cur.s * (rmedA x.cur.R x.cur.s * (S * (bookA K b * (blkA w.heap.size 68 (opC 9 n m two (.slice A z.length c)) * T))))))).cell 0 rfl
  by_cases hi : inr n m x.cur.s.l.length
  · obtain ⟨i, k, rfl, rfl, hik⟩ := inr_nat hi
    obtain ⟨P, w3, e3, y4⟩ := m_piece y3.drew hf i k hik
    have z4 := y4.eq (by ac_rfl : _ = rmedA x.cur.R x.cur.s * (pcA P x.cur.M i k * (medA x.cur.M x.cur.s * (blkA p 66 [ptr x.cur.M, ptr x.cur.R, sv, pv] * (S * (bookA K b * (blkA w.heap.size 68 (opC 9 i k two (.slice A z.length c)) * T)))))))
    have k21 := (z4.eq (by ac_rfl : _ = blkA p 66 [ptr x.cur.M, ptr x.cur.R, sv, pv] * (rmedA x.cur.R x.cur.s * (pcA P x.cur.M i k * (medA x.cur.M x.cur.s * (S * (bookA K b * (blkA w.heap.size 68 (opC 9 i k two (.slice A z.length c)) * T)))))))).cell 1 rfl
    have oB2 := (z4.eq (by ac_rfl : _ = blkA w.heap.size 68 (opC 9 i k two (.slice A z.length c)) * (rmedA x.cur.R x.cur.s * (pcA P x.cur.M i k * (medA x.cur.M x.cur.s * (blkA p 66 [ptr x.cur.M, ptr x.cur.R, sv, pv] * (S * (bookA K b * T))))))))
    have p1 := oB2.cell 1 rfl
    have p2 := oB2.cell 2 rfl
    obtain ⟨Q, w4, e4, y5⟩ := r_piece z4.drew hf i k hik
    obtain ⟨U, hU⟩ : ∃ U : Asn W.heap.size, U = rpcA Q x.cur.R i k * (rmedA x.cur.R x.cur.s * (pcA P x.cur.M i k * (medA x.cur.M x.cur.s * ((all mdA (x.ms.eraseIdx x.c) * all pieceA x.pcs) * (bookA K b * (blkA w.heap.size 68 (opC 9 i k two (.slice A z.length c)) * T)))))) := ⟨_, rfl⟩
    have y6 := y5.eq (by rw [hU, hS]; unfold restA; ac_rfl : _ = rowA 36 1 sv x.pcs.length (x.pcs.map fun p => .iface 82 (ptr p.P)) * (blkA p 66 [ptr x.cur.M, ptr x.cur.R, sv, pv] * (rowA 90 1 pv x.pcs.length (x.pcs.map fun p => ptr p.Q) * U)))
    have k42 := y6.swap.cell 2 rfl
    obtain ⟨sv', w5, e5, y7⟩ := y6.push (t := 63) (ty := 63) Try.underlying63 inf36 zero36 size36 bytes36 rfl (by decide) (news := [.iface 82 (ptr P)]) rfl (by simp [Value.oneCell']) (by simp [maxLen]; omega) (by omega)
    obtain ⟨A5, c5, rfl, _⟩ := own_form y7.row
    have y8 := y7.swap
    have s1 := st63 (v := .slice A5 (x.pcs.length + 1) c5) rfl rfl (y8.cell 2 rfl) (y8.frozen 2)
    have y9 := y8.store (cs' := [ptr x.cur.M, ptr x.cur.R, .slice A5 (x.pcs.length + 1) c5, pv]) 2 (.slice A5 (x.pcs.length + 1) c5) rfl
    obtain ⟨w6, hw6⟩ : ∃ w6, w6 = w5.setCell ⟨p, 2, none⟩ (.slice A5 (x.pcs.length + 1) c5) := ⟨_, rfl⟩
    rw [← hw6] at s1 y9
    have k63 := y9.cell 3 rfl
    have z9 := y9.swap3
    obtain ⟨pv', w7, e7, z10⟩ := z9.push (t := 64) (ty := 64) Try.underlying64 inf90 zero90 size90 bytes90 rfl (by decide) (news := [ptr Q]) rfl (by simp [Value.oneCell']) (by simp [maxLen]; omega) (by omega)
    obtain ⟨A7, c7, rfl, _⟩ := own_form z10.row
    have z11 := z10.swap
    have s2 := st64 (v := .slice A7 (x.pcs.length + 1) c7) rfl rfl (z11.cell 3 rfl) (z11.frozen 3)
    have z12 := z11.store (cs' := [ptr x.cur.M, ptr x.cur.R, .slice A5 (x.pcs.length + 1) c5, .slice A7 (x.pcs.length + 1) c7]) 3 (.slice A7 (x.pcs.length + 1) c7) rfl
    have h' : Pr.ok { x with pcs := x.pcs ++ [⟨P, Q, x.cur.M, x.cur.R, i, k, x.c⟩] } (L + z.length) G := by
      refine ⟨h.cur, fun q hq => (h.ms q hq).mono (by omega) (Nat.le_refl _), fun q hq => ?_⟩
      simp only [List.mem_append, List.mem_singleton] at hq
      rcases hq with hq | rfl
      · exact h.pcs q hq
      · exact ⟨⟨x.cur, h.cur, rfl, rfl⟩, by simp only; omega⟩
    have y10 : Sat W (pairB p { x with pcs := x.pcs ++ [⟨P, Q, x.cur.M, x.cur.R, i, k, x.c⟩] } (.slice A5 (x.pcs.length + 1) c5) (.slice A7 (x.pcs.length + 1) c7) * (bookA K b * (blkA w.heap.size 68 (opC 9 i k two (.slice A z.length c)) * (rowA 5 1 (.slice (some a) (z.length + 5) (z.length + 5)) (z.length + 5) (bv (spare z)) * X)))) _ := z12.eq (by
      unfold pairB
      simp only [all_snoc, List.map_append, List.map_cons, List.map_nil, List.length_append, List.length_singleton]
      rw [hU, hT, all_get mdA h.cur]
      unfold mdA pieceA
      ac_rfl)
    obtain ⟨b', w5', w6', w7', w8', t1, t2, t3, t4, t5, t6, t7, t8, t9, t10, t11, t12, hb', y11⟩ := step_tail y10.toPair h' hb hN hr hz
    have e5' : erun Try.prog (Builtin.append_ #[63, 63] 63 #[sv, .slice (some ⟨w4.heap.size, 0, none⟩) 1 1]) (w4.alloc (.cells #[.iface 82 (ptr P)] 36)) = some (.slice A5 (x.pcs.length + 1) c5, w5) := e5
    have e7' : erun Try.prog (Builtin.append_ #[64, 64] 64 #[pv, .slice (some ⟨w6.heap.size, 0, none⟩) 1 1]) (w6.alloc (.cells #[ptr Q] 90)) = some (.slice A7 (x.pcs.length + 1) c7, w7) := e7
    refine ⟨_, b', w8', f23.run rfl ?_, h', by simp, hb', y11⟩
    simp [f23, opV, opC, box_any, Value.cells, addL, o4, e2, o0, o1, o2, k10, build40, e3, k21, p1, p2, e4, k42, bs63_1, e5', s1, k63, bs64_1, e7', s2, t1, t2, t3, t4, t5, t6, t7, t8, t9, t10, t11, t12, wantedV, pickV, chkThen]
  · obtain ⟨w3, e3, y4⟩ := m_piece_out y3.drew hf n m hi
    have z4 := y4.swap
    have k21 := (z4.eq (by ac_rfl : _ = blkA p 66 [ptr x.cur.M, ptr x.cur.R, sv, pv] * (rmedA x.cur.R x.cur.s * (medA x.cur.M x.cur.s * (S * (bookA K b * (blkA w.heap.size 68 (opC 9 n m two (.slice A z.length c)) * T))))))).cell 1 rfl
    have oB2 := (z4.eq (by ac_rfl : _ = blkA w.heap.size 68 (opC 9 n m two (.slice A z.length c)) * (rmedA x.cur.R x.cur.s * (medA x.cur.M x.cur.s * (blkA p 66 [ptr x.cur.M, ptr x.cur.R, sv, pv] * (S * (bookA K b * T)))))))
    have p1 := oB2.cell 1 rfl
    have p2 := oB2.cell 2 rfl
    obtain ⟨w4, e4, y5⟩ := r_piece_out z4.drew hf n m hi
    have y6 := Sat.toPairCur (s' := x.cur.s) h (y5.swap.eq (by rw [hS, hT] : _ = medA x.cur.M x.cur.s * (rmedA x.cur.R x.cur.s * (blkA p 66 [ptr x.cur.M, ptr x.cur.R, sv, pv] * (restA p x x.c sv pv * (bookA K b * (blkA w.heap.size 68 (opC 9 n m two (.slice A z.length c)) * (rowA 5 1 (.slice (some a) (z.length + 5) (z.length + 5)) (z.length + 5) (bv (spare z)) * X))))))))
    rw [upd_self h] at y6
    obtain ⟨b', w5, w6, w7, w8, t1, t2, t3, t4, t5, t6, t7, t8, t9, t10, t11, t12, hb', y7⟩ := step_tail y6 h hb hN hr hz
    refine ⟨x, b', w8, f23.run rfl ?_, h.mono (by omega) (Nat.le_refl _), by omega, hb', y7⟩
    simp [f23, opV, opC, box_any, Value.cells, addL, o4, e2, o0, o1, o2, k10, build40, e3, k21, p1, p2, e4, t1, t2, t3, t4, t5, t6, t7, t8, t9, t10, t11, t12, wantedV, pickV, chkThen]
/-- any step -/
theorem step_ok {L G N : Nat} (y : Sat W (pairA p x * (bookA K b * X)) w) (h : x.ok L G) (hb : b.fit N) (hL : L + z.length ≤ 268435456) (hG : G ≤ 2000000000) (hN : N + 2 ≤ 2000000000) (hP : x.pcs.length ≤ 3000000000) (hr : Rd W A (bv z)) (hnil : A = none → c = 0) (hc : z.length ≤ c) (kind n m : Int)
    (hn : -9223372036854775808 ≤ n ∧ n ≤ 9223372036854775807) (hm : -9223372036854775808 ≤ m ∧ m ≤ 9223372036854775807) (two : Bool) :
    ∃ x' b' w', C 23 #[ptr p, ptr K, opV kind n m two (.slice A z.length c)] w = some (.bool true, w') ∧ x'.ok (L + z.length) (G + 1) ∧ x'.pcs.length ≤ x.pcs.length + 1 ∧ b'.fit (N + 2) ∧ Sat W (pairA p x' * (bookA K b' * X)) w' := by
  have fin : (∃ x' b' w', C 23 #[ptr p, ptr K, opV kind n m two (.slice A z.length c)] w = some (.bool true, w') ∧ x'.ok (L + z.length) G ∧ x'.pcs.length ≤ x.pcs.length + 1 ∧ b'.fit N ∧ Sat W (pairA p x' * (bookA K b' * X)) w') →
      ∃ x' b' w', C 23 #[ptr p, ptr K, opV kind n m two (.slice A z.length c)] w = some (.bool true, w') ∧ x'.ok (L + z.length) (G + 1) ∧ x'.pcs.length ≤ x.pcs.length + 1 ∧ b'.fit (N + 2) ∧ Sat W (pairA p x' * (bookA K b' * X)) w' := by
    rintro ⟨x', b', w', a1, a2, a3, a4, a5⟩
    exact ⟨x', b', w', a1, a2.mono (Nat.le_refl _) (by omega), a3, a4.mono (by omega), a5⟩
  have fin2 : (∃ x' b' w', C 23 #[ptr p, ptr K, opV kind n m two (.slice A z.length c)] w = some (.bool true, w') ∧ x'.ok (L + z.length) G ∧ x'.pcs.length = x.pcs.length ∧ b'.fit N ∧ Sat W (pairA p x' * (bookA K b' * X)) w') →
      ∃ x' b' w', C 23 #[ptr p, ptr K, opV kind n m two (.slice A z.length c)] w = some (.bool true, w') ∧ x'.ok (L + z.length) (G + 1) ∧ x'.pcs.length ≤ x.pcs.length + 1 ∧ b'.fit (N + 2) ∧ Sat W (pairA p x' * (bookA K b' * X)) w' := by
    rintro ⟨x', b', w', a1, a2, a3, a4, a5⟩
    exact fin ⟨x', b', w', a1, a2, by omega, a4, a5⟩
  have hN' : N ≤ 2000000000 := by omega
  by_cases k2 : kind = 2
  · subst k2; exact fin2 (step_2 y h hb hL hG hN' hr hnil hc n m hn hm two)
  by_cases k3 : kind = 3
  · subst k3; exact fin2 (step_3 y h hb hL hG hN' hr hnil hc n m hn hm two)
  by_cases k4 : kind = 4
  · subst k4
    obtain ⟨x', b', w', a1, a2, a3⟩ := step_4 y h hb (by omega) hG hN' hr hnil (by omega) n m two
    exact fin2 ⟨x', b', w', a1, a2.mono (by omega) (Nat.le_refl _), a3⟩
  by_cases k5 : kind = 5
  · subst k5; exact fin2 (step_5 y h hb hL hG hN' hr hnil hc n m hn hm two)
  by_cases k6 : kind = 6
  · subst k6; exact fin2 (step_6 y h hb hL hG hN' hr hnil hc n m hn hm two)
  by_cases k8 : kind = 8
  · subst k8; exact fin2 (step_8 y h hb hL hG hN' hr hnil hc n m hn hm two)
  by_cases k9 : kind = 9
  · subst k9; exact fin (step_9 y h hb hL hG hN' hP hr hnil n m two)
  by_cases k12 : kind = 12
  · subst k12; exact fin2 (step_12 y h hb hL hG hN' hr hnil n m two)
  by_cases kr : kind = 1 ∨ kind = 11 ∨ kind = 7 ∨ kind = 10
  · obtain ⟨x', b', w', a1, a2, a3, a4⟩ := step_r y h hb hL hG hN (by omega) hr hnil kind n m kr two
    exact ⟨x', b', w', a1, a2, by omega, a4⟩
  · obtain ⟨b', w', a1, a2, a3⟩ := step_none y h hb hL hN' hr hnil kind n m k2 k3 k4 k5 k6 k8 k9 k12 (by omega) (by omega) (by omega) (by omega) two
    exact fin ⟨x, b', w', a1, h.mono (by omega) (Nat.le_refl _), by omega, a2, a3⟩
end
end Go.Sh.Ytokpgallfmpmkaa
