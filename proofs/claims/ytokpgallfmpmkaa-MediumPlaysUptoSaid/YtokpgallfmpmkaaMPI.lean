/- medium: the law's pair: two media that are one, and pieces of both. Conditions: those of each statement. -/
import Derived.Test.YtokpgallfmpmkaaMPH
namespace Go.Sh.Ytokpgallfmpmkaa
open Go Go.Proofs Go.RowKit
set_option linter.unusedVariables false
set_option linter.unusedSimpArgs false
set_option maxRecDepth 100000
/-- a medium of at most so many bytes, and lines of its log -/
structure Pm.ok (s : Pm) (L G : Nat) : Prop where
  l : s.l.length ≤ L
  g : s.g.length ≤ G
  a0 : 0 ≤ s.armed
  a1 : s.armed ≤ 9223372036854775807
  k0 : 0 ≤ s.keep
  k1 : s.keep ≤ 9223372036854775807
theorem Pm.ok.fit {s : Pm} {L G : Nat} (h : s.ok L G) (hL : L ≤ 268435456) (hG : G ≤ 4000000000) : s.fit := ⟨Nat.le_trans h.l hL, Nat.le_trans h.g hG, h.a0, h.a1, h.k0, h.k1⟩
theorem Pm.ok.mono {s : Pm} {L G L' G' : Nat} (h : s.ok L G) (hL : L ≤ L') (hG : G ≤ G') : s.ok L' G' := ⟨Nat.le_trans h.l hL, Nat.le_trans h.g hG, h.a0, h.a1, h.k0, h.k1⟩
section
variable {s : Pm} {L G : Nat}
theorem ok_append (h : s.ok L G) (x : List UInt8) : (s.append x).2.2.ok (L + x.length) G := by
  obtain ⟨l, dead, armed, keep, g⟩ := s
  have h1 := h.l
  have h2 := h.a0
  have h3 := h.a1
  simp only at h1 h2 h3
  cases dead with
  | true => exact h.mono (by omega) (Nat.le_refl _)
  | false =>
    by_cases ha : armed = 1
    · simp only [Pm.append, ha, if_true, Bool.false_eq_true, if_false]
      exact ⟨by simp [List.length_take]; omega, h.g, by simp, by simp, h.k0, h.k1⟩
    · simp only [Pm.append, ha, Bool.false_eq_true, if_false]
      refine ⟨by simp; omega, h.g, ?_, ?_, h.k0, h.k1⟩ <;> (simp only; split <;> omega)
theorem ok_arm (h : s.ok L G) {n k : Int} (hn : n ≤ 9223372036854775807) (hk : k ≤ 9223372036854775807) : (s.arm n k).2.ok L G := by
  unfold Pm.arm
  split
  · exact h
  · split
    · exact h
    · exact ⟨h.l, h.g, by simp only; omega, hn, by simp only; omega, hk⟩
theorem ok_revive (h : s.ok L G) : s.revive.ok L G := ⟨h.l, h.g, by simp [Pm.revive], by simp [Pm.revive], h.k0, h.k1⟩
theorem ok_forget (h : s.ok L G) : s.forget.ok L G := ⟨h.l, Nat.zero_le _, h.a0, h.a1, h.k0, h.k1⟩
theorem ok_over (h : s.ok L G) (i : Int) (x : List UInt8) : (s.over i x).2.ok L G := by
  unfold Pm.over
  split
  · rename_i hi
    obtain ⟨a, b, rfl, hb, hab⟩ := inr_nat hi
    have := h.l
    exact ⟨by simp; omega, h.g, h.a0, h.a1, h.k0, h.k1⟩
  · exact h
theorem ok_cut (h : s.ok L G) (n : Int) : (s.cut n).2.ok L G := by
  unfold Pm.cut
  split
  · have := h.l
    exact ⟨by simp [List.length_take]; omega, h.g, h.a0, h.a1, h.k0, h.k1⟩
  · exact h
theorem ok_read (h : s.ok L G) (i k : Int) : (s.read i k).2.2.ok L (G + 1) ∧ (s.read i k).1.length ≤ L := by
  have h1 := h.l
  have h2 := h.g
  unfold Pm.read
  split
  · exact ⟨h.mono (Nat.le_refl _) (by omega), by simp⟩
  · split
    · exact ⟨⟨h.l, by simp; omega, h.a0, h.a1, h.k0, h.k1⟩, by simp; omega⟩
    · exact ⟨h.mono (Nat.le_refl _) (by omega), by simp⟩
theorem ok_pread (h : s.ok L G) (a n i k : Int) : (s.pread a n i k).2.2.ok L (G + 1) ∧ (s.pread a n i k).1.length ≤ L := by
  unfold Pm.pread
  split
  · exact ⟨h.mono (Nat.le_refl _) (by omega), by simp⟩
  · split
    · exact ok_read h _ _
    · exact ⟨h.mono (Nat.le_refl _) (by omega), by simp⟩
end
structure Md where
  M : Nat
  R : Nat
  s : Pm
structure Pc where
  P : Nat
  Q : Nat
  M : Nat
  R : Nat
  a : Nat
  n : Nat
  i : Nat
structure Pr where
  ms : List Md
  c : Nat
  cur : Md
  pcs : List Pc
def mdA {base : Nat} (m : Md) : Asn base := medA m.M m.s * rmedA m.R m.s
def pieceA {base : Nat} (p : Pc) : Asn base := pcA p.P p.M p.a p.n * rpcA p.Q p.R p.a p.n
abbrev ptr (b : Nat) : Value := .pointer (some ⟨b, 0, none⟩)
def pairB {base : Nat} (p : Nat) (x : Pr) (sv pv : Value) : Asn base :=
  blkA p 66 [ptr x.cur.M, ptr x.cur.R, sv, pv] * (rowA 36 1 sv x.pcs.length (x.pcs.map fun p => .iface 82 (ptr p.P)) * (rowA 90 1 pv x.pcs.length (x.pcs.map fun p => ptr p.Q) * (all mdA x.ms * all pieceA x.pcs)))
def pairA {base : Nat} (p : Nat) (x : Pr) : Asn base := some_ fun q : Value × Value => pairB p x q.1 q.2
structure Pr.ok (x : Pr) (L G : Nat) : Prop where
  cur : x.ms[x.c]? = some x.cur
  ms : ∀ m ∈ x.ms, m.s.ok L G
  pcs : ∀ p ∈ x.pcs, (∃ m, x.ms[p.i]? = some m ∧ m.M = p.M ∧ m.R = p.R) ∧ p.a + p.n ≤ 268435456
theorem Pr.ok.mono {x : Pr} {L G L' G' : Nat} (h : x.ok L G) (hL : L ≤ L') (hG : G ≤ G') : x.ok L' G' := ⟨h.cur, fun m hm => (h.ms m hm).mono hL hG, h.pcs⟩
/-- medium i stands otherwise -/
def Pr.upd (x : Pr) (i : Nat) (m : Md) : Pr := { x with ms := x.ms.set i m, cur := if i = x.c then m else x.cur }
theorem Pr.ok.upd {x : Pr} {L G L' G' : Nat} (h : x.ok L G) {i : Nat} {m : Md} (hi : x.ms[i]? = some m) {s' : Pm} (hs : s'.ok L' G') (hL : L ≤ L') (hG : G ≤ G') : (x.upd i ⟨m.M, m.R, s'⟩).ok L' G' := by
  have hil := (List.getElem?_eq_some_iff.mp hi).1
  refine ⟨?_, fun a ha => ?_, fun p hp => ⟨?_, (h.pcs p hp).2⟩⟩
  · unfold Pr.upd
    by_cases hc : i = x.c
    · subst hc; simp [hil]
    · simp only [hc, if_false]
      rw [List.getElem?_set_ne hc]
      exact h.cur
  · rcases List.mem_or_eq_of_mem_set ha with ha | rfl
    · exact (h.ms a ha).mono hL hG
    · exact hs
  · obtain ⟨⟨q, hq, h1, h2⟩, _⟩ := h.pcs p hp
    by_cases hc : i = p.i
    · subst hc
      rw [hi] at hq
      cases hq
      exact ⟨⟨m.M, m.R, s'⟩, by simp [Pr.upd, hil], h1, h2⟩
    · refine ⟨q, ?_, h1, h2⟩
      simp only [Pr.upd]
      rw [List.getElem?_set_ne hc]
      exact hq
section
variable {W w : World} {X : Asn W.heap.size} {p : Nat} {x : Pr}
theorem _root_.Go.Sh.Sat.pair (y : Sat W (pairA p x * X) w) : ∃ sv pv, Sat W (pairB p x sv pv * X) w := by
  obtain ⟨q, h⟩ := y.forSome
  exact ⟨_, _, h⟩
theorem _root_.Go.Sh.Sat.toPair {sv pv : Value} (y : Sat W (pairB p x sv pv * X) w) : Sat W (pairA p x * X) w := Sat.fold (P := fun q : Value × Value => pairB p x q.1 q.2) (b := (sv, pv)) y
/-- what lies beside medium i -/
def restA {base : Nat} (p : Nat) (x : Pr) (i : Nat) (sv pv : Value) : Asn base :=
  rowA 36 1 sv x.pcs.length (x.pcs.map fun p => .iface 82 (ptr p.P)) * (rowA 90 1 pv x.pcs.length (x.pcs.map fun p => ptr p.Q) * (all mdA (x.ms.eraseIdx i) * all pieceA x.pcs))
theorem pairB_at {base : Nat} {i : Nat} {m : Md} (hi : x.ms[i]? = some m) (sv pv : Value) : (pairB p x sv pv : Asn base) = medA m.M m.s * (rmedA m.R m.s * (blkA p 66 [ptr x.cur.M, ptr x.cur.R, sv, pv] * restA p x i sv pv)) := by
  unfold pairB restA
  rw [all_get mdA hi]
  unfold mdA
  ac_rfl
theorem pairB_upd {base : Nat} {i : Nat} {m : Md} (hi : x.ms[i]? = some m) (hc : x.ms[x.c]? = some x.cur) (s' : Pm) (sv pv : Value) : (pairB p (x.upd i ⟨m.M, m.R, s'⟩) sv pv : Asn base) = medA m.M s' * (rmedA m.R s' * (blkA p 66 [ptr x.cur.M, ptr x.cur.R, sv, pv] * restA p x i sv pv)) := by
  have hil := (List.getElem?_eq_some_iff.mp hi).1
  have e1 : (x.upd i ⟨m.M, m.R, s'⟩).cur.M = x.cur.M ∧ (x.upd i ⟨m.M, m.R, s'⟩).cur.R = x.cur.R := by
    unfold Pr.upd
    by_cases h : i = x.c
    · subst h
      rw [hc] at hi
      cases hi
      simp
    · simp [h]
  unfold pairB restA
  rw [e1.1, e1.2]
  simp only [Pr.upd]
  rw [all_set mdA hil]
  unfold mdA
  ac_rfl
end
end Go.Sh.Ytokpgallfmpmkaa
