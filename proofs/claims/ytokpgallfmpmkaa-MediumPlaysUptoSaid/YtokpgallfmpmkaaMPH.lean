/- medium: the law's book: own, as a whole. Conditions: those of each statement. -/
import Derived.Test.YtokpgallfmpmkaaMPG
namespace Go.Sh.Ytokpgallfmpmkaa
open Go Go.Proofs Go.RowKit
set_option linter.unusedVariables false
set_option linter.unusedSimpArgs false
set_option maxRecDepth 100000
section
variable {W w : World} {X : Asn W.heap.size} {K : Nat} {l s out told k3 k4 k5 k6 : Value} {hs ss : List Hold}
theorem looks_ok (y : Sat W (blkA K 59 [l, s, out, told, k3, k4, k5, k6] * (rowA 99 2 l hs.length (hcs hs) * (rowA 101 2 s ss.length (scs ss) * (all holdA hs * (all spanA ss * X))))) w) (h1 : hs.length ≤ 4000000000) (h2 : ss.length ≤ 4000000000) (h3 : ∀ h ∈ hs, h.n ≤ 4000000000) (h4 : ∀ h ∈ ss, h.n ≤ 4000000000) :
    ∃ w', C 57 #[.pointer (some ⟨K, 0, none⟩)] w = some (.bool true, w') ∧ Sat W (blkA K 59 [l, s, out, told, k3, k4, k5, k6] * (rowA 99 2 l hs.length (hcs hs) * (rowA 101 2 s ss.length (scs ss) * (all holdA hs * (all spanA ss * X))))) w' := by
  obtain ⟨w1, s1, y1⟩ := looks_h (hs := hs) (X := rowA 101 2 s ss.length (scs ss) * (all spanA ss * X)) (y.eq (by ac_rfl)) h1 h3
  obtain ⟨w2, s2, y2⟩ := looks_s (hs := ss) (X := rowA 99 2 l hs.length (hcs hs) * (all holdA hs * X)) (y1.eq (by ac_rfl)) h2 h4
  refine ⟨w2, f57.run rfl ?_, y2.eq (by ac_rfl)⟩
  simp [f57, s1, s2]
theorem own_core {outs : List (Value × List UInt8)} {tolds : List (Value × List (Int × Int))}
    (y : Sat W (blkA K 59 [l, s, out, told, k3, k4, k5, k6] * (rowA 99 2 l hs.length (hcs hs) * (rowA 101 2 s ss.length (scs ss) * (rowA 22 1 out outs.length (outs.map (·.1)) * (rowA 41 1 told tolds.length (tolds.map (·.1)) * (all holdA hs * (all spanA ss * (all outA outs * (all toldA tolds * X))))))))) w)
    (h1 : hs.length + outs.length ≤ 2000000000) (h2 : ss.length + tolds.length ≤ 2000000000) (h3 : ∀ h ∈ hs, h.n ≤ 3000000020) (h4 : ∀ h ∈ ss, h.n ≤ 3000000020) (h5 : ∀ o ∈ outs, o.2.length ≤ 3000000000) (h6 : ∀ o ∈ tolds, o.2.length ≤ 3000000000) :
    ∃ l' s' hs' ss' w', C 25 #[.pointer (some ⟨K, 0, none⟩)] w = some (.bool true, w') ∧ hs'.length = hs.length + outs.length ∧ ss'.length = ss.length + tolds.length ∧ (∀ h ∈ hs', h.n ≤ 3000000020) ∧ (∀ h ∈ ss', h.n ≤ 3000000020) ∧
      Sat W (blkA K 59 [l', s', .slice none 0 0, .slice none 0 0, k3, k4, k5, k6] * (rowA 99 2 l' hs'.length (hcs hs') * (rowA 101 2 s' ss'.length (scs ss') * (rowA 22 1 (.slice none 0 0) 0 [] * (rowA 41 1 (.slice none 0 0) 0 [] * (all holdA hs' * (all spanA ss' * X))))))) w' := by
  obtain ⟨Al, cl, rfl, _⟩ := own_form y.swap.row
  obtain ⟨As, cs, rfl, _⟩ := own_form y.swap3.row
  have c0 := y.cell 0 rfl
  have c1 := y.cell 1 rfl
  obtain ⟨l1, H, w1, s1, hH, hHd, y1⟩ := mark_l1 (r3 := .int .i64 hs.length) (r4 := .int .i64 ss.length) (hs := hs) (outs := outs) (X := rowA 101 2 (.slice As ss.length cs) ss.length (scs ss) * (rowA 41 1 told tolds.length (tolds.map (·.1)) * (all spanA ss * (all toldA tolds * X)))) (y.eq (by ac_rfl)) h1 (fun o ho => by have := h5 o ho; omega)
  obtain ⟨s2, G, w2, e2, hG, hGd, y2⟩ := mark_s1 (r3 := .int .i64 hs.length) (r4 := .int .i64 ss.length) (hs := ss) (tolds := tolds) (X := rowA 99 2 l1 (hs ++ H).length (hcs (hs ++ H)) * (rowA 22 1 out outs.length (outs.map (·.1)) * (all holdA (hs ++ H) * X))) (y1.eq (by ac_rfl)) h2 (fun o ho => by have := h6 o ho; omega)
  have lH : (hs ++ H).length = hs.length + outs.length := by rw [List.length_append, hH]
  have lG : (ss ++ G).length = ss.length + tolds.length := by rw [List.length_append, hG]
  have t1 := st50 (v := .slice none 0 0) rfl rfl (y2.cell 2 rfl) (y2.frozen 2)
  have y3 := y2.store 2 (.slice none 0 0) rfl
  have t2 := st57 (v := .slice none 0 0) rfl rfl (y3.cell 3 rfl) (y3.frozen 3)
  have y4 := y3.store 3 (.slice none 0 0) rfl
  obtain ⟨w4, hw4⟩ : ∃ w4, w4 = (w2.setCell ⟨K, 2, none⟩ (.slice none 0 0)).setCell ⟨K, 3, none⟩ (.slice none 0 0) := ⟨_, rfl⟩
  rw [← hw4] at t2 y4
  have y5 := (y4.eq (by ac_rfl : _ = rowA 22 1 out outs.length (outs.map (·.1)) * (rowA 41 1 told tolds.length (tolds.map (·.1)) * (blkA K 59 [l1, s2, .slice none 0 0, .slice none 0 0, k3, k4, k5, k6] * (rowA 99 2 l1 (hs ++ H).length (hcs (hs ++ H)) * (all holdA (hs ++ H) * (rowA 101 2 s2 (ss ++ G).length (scs (ss ++ G)) * (all spanA (ss ++ G) * X)))))))).right.right
  obtain ⟨A1, n1, rfl, _⟩ := own_form y5.swap.row
  have c5 := y5.cell 0 rfl
  obtain ⟨hs', w6, s6, l6, b6, y6⟩ := grow_l5 (r4 := .int .i64 ss.length) (i0 := hs.length) y5 (by omega) (by omega) (fun k h hk => by
    by_cases hkl : k < hs.length
    · rw [List.getElem?_append_left hkl] at hk
      exact ⟨h3 h (List.mem_of_getElem? hk), fun h => by omega⟩
    · rw [List.getElem?_append_right (by omega)] at hk
      obtain ⟨_, o, ho, hn⟩ := hHd h (List.mem_of_getElem? hk)
      have := h5 o ho
      exact ⟨by omega, fun _ => by omega⟩)
  have y7 : Sat W (blkA K 59 [.slice A1 (hs ++ H).length n1, s2, .slice none 0 0, .slice none 0 0, k3, k4, k5, k6] * (rowA 101 2 s2 (ss ++ G).length (scs (ss ++ G)) * (all spanA (ss ++ G) * (rowA 99 2 (.slice A1 (hs ++ H).length n1) hs'.length (hcs hs') * (all holdA hs' * X))))) w6 := y6.eq (by ac_rfl)
  obtain ⟨A2, n2, rfl, _⟩ := own_form y7.swap.row
  have c7 := y7.cell 1 rfl
  obtain ⟨ss', w8, s8, l8, b8, y8⟩ := growS_l7 (i0 := ss.length) y7 (by omega) (by omega) (fun k h hk => by
    by_cases hkl : k < ss.length
    · rw [List.getElem?_append_left hkl] at hk
      exact ⟨h4 h (List.mem_of_getElem? hk), fun h => by omega⟩
    · rw [List.getElem?_append_right (by omega)] at hk
      obtain ⟨_, o, ho, hn⟩ := hGd h (List.mem_of_getElem? hk)
      have := h6 o ho
      exact ⟨by omega, fun _ => by omega⟩)
  obtain ⟨w9, s9, y9⟩ := looks_ok (hs := hs') (ss := ss') (X := X) (y8.eq (by ac_rfl)) (by omega) (by omega) (fun h hh => by have := b6 h hh; omega) (fun h hh => by have := b8 h hh; omega)
  refine ⟨_, _, hs', ss', w9, f25.run rfl ?_, by omega, by omega, b6, b8, ((y9.nilRow 41 1).nilRow 22 1).eq (by ac_rfl)⟩
  simp only [Int.natCast_add, List.length_append] at s6 s8 c5 c7 ⊢
  simp [f25, addL, c0, c1, s1, e2, t1, t2, c5, s6, c7, s8, s9]
end
/-- the law's book -/
structure Bk where
  hs : List Hold
  ss : List Hold
  outs : List (Value × List UInt8)
  tolds : List (Value × List (Int × Int))
  kept : Value
  was : Value
  kl : List UInt8
  keptS : Value
  wasS : Value
  ks : List (Int × Int)
structure Bk.fit (b : Bk) (N : Nat) : Prop where
  hs : b.hs.length + b.outs.length ≤ N
  ss : b.ss.length + b.tolds.length ≤ N
  hn : ∀ h ∈ b.hs, h.n ≤ 3000000020
  sn : ∀ h ∈ b.ss, h.n ≤ 3000000020
  on : ∀ o ∈ b.outs, o.2.length ≤ 3000000000
  tn : ∀ o ∈ b.tolds, o.2.length ≤ 3000000000
  kn : b.kl.length ≤ 3000000000
  sk : b.ks.length ≤ 3000000000
def bookB {base : Nat} (K : Nat) (b : Bk) (l s out told : Value) : Asn base :=
  blkA K 59 [l, s, out, told, b.kept, b.was, b.keptS, b.wasS] * (rowA 99 2 l b.hs.length (hcs b.hs) * (rowA 101 2 s b.ss.length (scs b.ss) * (rowA 22 1 out b.outs.length (b.outs.map (·.1)) * (rowA 41 1 told b.tolds.length (b.tolds.map (·.1)) *
    (all holdA b.hs * (all spanA b.ss * (all outA b.outs * (all toldA b.tolds * (clipA 5 1 b.kept b.kl.length (bv b.kl) * (rowA 5 1 b.was b.kl.length (bv b.kl) * (clipA 40 2 b.keptS b.ks.length (sc b.ks) * rowA 40 2 b.wasS b.ks.length (sc b.ks))))))))))))
def bookA {base : Nat} (K : Nat) (b : Bk) : Asn base := some_ fun q : (Value × Value) × (Value × Value) => bookB K b q.1.1 q.1.2 q.2.1 q.2.2
section
variable {W w : World} {X : Asn W.heap.size} {K : Nat} {b : Bk}
theorem _root_.Go.Sh.Sat.book (x : Sat W (bookA K b * X) w) : ∃ l s out told, Sat W (bookB K b l s out told * X) w := by
  obtain ⟨q, h⟩ := x.forSome
  exact ⟨_, _, _, _, h⟩
theorem _root_.Go.Sh.Sat.toBook {l s out told : Value} (x : Sat W (bookB K b l s out told * X) w) : Sat W (bookA K b * X) w :=
  Sat.fold (P := fun q : (Value × Value) × (Value × Value) => bookB K b q.1.1 q.1.2 q.2.1 q.2.2) (b := ((l, s), (out, told))) x
theorem own_ok {N : Nat} (x : Sat W (bookA K b * X) w) (hf : b.fit N) (hN : N ≤ 2000000000) :
    ∃ b' w', C 25 #[.pointer (some ⟨K, 0, none⟩)] w = some (.bool true, w') ∧ b'.fit N ∧ b'.outs = [] ∧ b'.tolds = [] ∧ Sat W (bookA K b' * X) w' := by
  obtain ⟨l, s, out, told, y⟩ := x.book
  have h1 := hf.hs
  have h2 := hf.ss
  obtain ⟨l', s', hs', ss', w', e1, e2, e3, e4, e5, z⟩ := own_core (l := l) (s := s) (out := out) (told := told) (hs := b.hs) (ss := b.ss) (outs := b.outs) (tolds := b.tolds) (X := clipA 5 1 b.kept b.kl.length (bv b.kl) * (rowA 5 1 b.was b.kl.length (bv b.kl) * (clipA 40 2 b.keptS b.ks.length (sc b.ks) * (rowA 40 2 b.wasS b.ks.length (sc b.ks) * X))))
    (y.eq (by unfold bookB; ac_rfl)) (by omega) (by omega) hf.hn hf.sn hf.on hf.tn
  refine ⟨{ b with hs := hs', ss := ss', outs := [], tolds := [] }, w', e1, ⟨by simp; omega, by simp; omega, e4, e5, by simp, by simp, hf.kn, hf.sk⟩, rfl, rfl, Sat.toBook (l := l') (s := s') (out := .slice none 0 0) (told := .slice none 0 0) (z.eq ?_)⟩
  unfold bookB
  simp only [List.length_nil, List.map_nil, all, emp_star]
  ac_rfl
/-- an answer is held: the one before is as it was; it is taken -/
theorem book_held {N n1 c1 : Nat} {A1 : Option Addr} {v : Value} {yl : List UInt8} (x : Sat W (clipA 5 1 v yl.length (bv yl) * (rowA 5 1 (.slice A1 n1 c1) yl.length (bv yl) * (bookA K b * X))) w) (hf : b.fit N) (hN : N ≤ 2000000000) (hy : yl.length ≤ 3000000000) :
    ∃ b' w', C 49 #[.pointer (some ⟨K, 0, none⟩), v, .slice A1 n1 c1] w = some (.bool true, w') ∧ b'.fit (N + 1) ∧ (b'.kept = v ∧ b'.was = .slice A1 n1 c1 ∧ b'.kl = yl) ∧ Sat W (bookA K b' * X) w' := by
  obtain ⟨Av, cv, rfl, hcv, _⟩ := x.clip
  obtain ⟨l, s, out, told, y⟩ := (x.swap3).book
  have h1 := hf.hs
  have h2 := hf.ss
  obtain ⟨out', w1, e1, z⟩ := held_ok (l := l) (s := s) (out := out) (told := told) (k3 := b.keptS) (k4 := b.wasS) (n := b.outs.length) (xs := b.outs.map (·.1)) (kl := b.kl) (k1 := b.kept) (k2 := b.was)
    (X := rowA 99 2 l b.hs.length (hcs b.hs) * (rowA 101 2 s b.ss.length (scs b.ss) * (rowA 41 1 told b.tolds.length (b.tolds.map (·.1)) * (all holdA b.hs * (all spanA b.ss * (all outA b.outs * (all toldA b.tolds * (clipA 40 2 b.keptS b.ks.length (sc b.ks) * (rowA 40 2 b.wasS b.ks.length (sc b.ks) * (clipA 5 1 (.slice Av yl.length yl.length) yl.length (bv yl) * (rowA 5 1 (.slice A1 n1 c1) yl.length (bv yl) * X)))))))))))
    (y.eq (by unfold bookB; ac_rfl)) (by omega) Av A1 yl.length n1 yl.length c1
  refine ⟨{ b with outs := b.outs ++ [(b.kept, b.kl)], kept := .slice Av yl.length yl.length, was := .slice A1 n1 c1, kl := yl }, w1, e1, ⟨by simp; omega, by simp; omega, hf.hn, hf.sn, ?_, hf.tn, hy, hf.sk⟩, ⟨rfl, rfl, rfl⟩, Sat.toBook (l := l) (s := s) (out := out') (told := told) (z.eq ?_)⟩
  · intro o ho
    simp only [List.mem_append, List.mem_singleton] at ho
    rcases ho with ho | rfl
    · exact hf.on o ho
    · exact hf.kn
  · unfold bookB
    simp only [all_snoc, List.map_append, List.map_cons, List.map_nil, List.length_append, List.length_singleton, outA]
    ac_rfl
/-- bytes that came out are taken -/
theorem book_take {N : Nat} {v : Value} {yl : List UInt8} (x : Sat W (clipA 5 1 v yl.length (bv yl) * (bookA K b * X)) w) (hf : b.fit N) (hN : N ≤ 2000000000) (hy : yl.length ≤ 3000000000) :
    ∃ b' w', C 51 #[.pointer (some ⟨K, 0, none⟩), v] w = some (.tuple #[], w') ∧ b'.fit (N + 1) ∧ Sat W (bookA K b' * X) w' := by
  obtain ⟨Av, cv, rfl, hcv, _⟩ := x.clip
  obtain ⟨l, s, out, told, y⟩ := (x.swap).book
  have h1 := hf.hs
  have h2 := hf.ss
  obtain ⟨out', w1, e1, z⟩ := take_ok (l := l) (s := s) (out := out) (told := told) (k1 := b.kept) (k2 := b.was) (k3 := b.keptS) (k4 := b.wasS) (n := b.outs.length) (xs := b.outs.map (·.1)) Av yl.length yl.length
    (X := rowA 99 2 l b.hs.length (hcs b.hs) * (rowA 101 2 s b.ss.length (scs b.ss) * (rowA 41 1 told b.tolds.length (b.tolds.map (·.1)) * (all holdA b.hs * (all spanA b.ss * (all outA b.outs * (all toldA b.tolds * (clipA 5 1 b.kept b.kl.length (bv b.kl) * (rowA 5 1 b.was b.kl.length (bv b.kl) * (clipA 40 2 b.keptS b.ks.length (sc b.ks) * (rowA 40 2 b.wasS b.ks.length (sc b.ks) * (clipA 5 1 (.slice Av yl.length yl.length) yl.length (bv yl) * X))))))))))))
    (y.eq (by unfold bookB; ac_rfl)) (by omega)
  refine ⟨{ b with outs := b.outs ++ [(.slice Av yl.length yl.length, yl)] }, w1, e1, ⟨by simp; omega, by simp; omega, hf.hn, hf.sn, ?_, hf.tn, hf.kn, hf.sk⟩, Sat.toBook (l := l) (s := s) (out := out') (told := told) (z.eq ?_)⟩
  · intro o ho
    simp only [List.mem_append, List.mem_singleton] at ho
    rcases ho with ho | rfl
    · exact hf.on o ho
    · exact hy
  · unfold bookB
    simp only [all_snoc, List.map_append, List.map_cons, List.map_nil, List.length_append, List.length_singleton, outA]
    ac_rfl
theorem book_tells {N : Nat} {v : Value} {yl : List (Int × Int)} (x : Sat W (clipA 40 2 v yl.length (sc yl) * (bookA K b * X)) w) (hf : b.fit N) (hN : N ≤ 2000000000) (hy : yl.length ≤ 3000000000) :
    ∃ b' w', C 53 #[.pointer (some ⟨K, 0, none⟩), v] w = some (.tuple #[], w') ∧ b'.fit (N + 1) ∧ Sat W (bookA K b' * X) w' := by
  obtain ⟨Av, cv, rfl, hcv, _⟩ := x.clip
  obtain ⟨l, s, out, told, y⟩ := (x.swap).book
  have h1 := hf.hs
  have h2 := hf.ss
  obtain ⟨told', w1, e1, z⟩ := tells_ok (l := l) (s := s) (out := out) (told := told) (k1 := b.kept) (k2 := b.was) (k3 := b.keptS) (k4 := b.wasS) (n := b.tolds.length) (xs := b.tolds.map (·.1)) Av yl.length yl.length
    (X := rowA 99 2 l b.hs.length (hcs b.hs) * (rowA 101 2 s b.ss.length (scs b.ss) * (rowA 22 1 out b.outs.length (b.outs.map (·.1)) * (all holdA b.hs * (all spanA b.ss * (all outA b.outs * (all toldA b.tolds * (clipA 5 1 b.kept b.kl.length (bv b.kl) * (rowA 5 1 b.was b.kl.length (bv b.kl) * (clipA 40 2 b.keptS b.ks.length (sc b.ks) * (rowA 40 2 b.wasS b.ks.length (sc b.ks) * (clipA 40 2 (.slice Av yl.length yl.length) yl.length (sc yl) * X))))))))))))
    (y.eq (by unfold bookB; ac_rfl)) (by omega)
  refine ⟨{ b with tolds := b.tolds ++ [(.slice Av yl.length yl.length, yl)] }, w1, e1, ⟨by simp; omega, by simp; omega, hf.hn, hf.sn, hf.on, ?_, hf.kn, hf.sk⟩, Sat.toBook (l := l) (s := s) (out := out) (told := told') (z.eq ?_)⟩
  · intro o ho
    simp only [List.mem_append, List.mem_singleton] at ho
    rcases ho with ho | rfl
    · exact hf.tn o ho
    · exact hy
  · unfold bookB
    simp only [all_snoc, List.map_append, List.map_cons, List.map_nil, List.length_append, List.length_singleton, toldA]
    ac_rfl
theorem book_heldS {N n1 c1 : Nat} {A1 : Option Addr} {v : Value} {yl : List (Int × Int)} (x : Sat W (clipA 40 2 v yl.length (sc yl) * (rowA 40 2 (.slice A1 n1 c1) yl.length (sc yl) * (bookA K b * X))) w) (hf : b.fit N) (hN : N ≤ 2000000000) (hy : yl.length ≤ 3000000000) :
    ∃ b' w', C 54 #[.pointer (some ⟨K, 0, none⟩), v, .slice A1 n1 c1] w = some (.bool true, w') ∧ b'.fit (N + 1) ∧ Sat W (bookA K b' * X) w' := by
  obtain ⟨Av, cv, rfl, hcv, _⟩ := x.clip
  obtain ⟨l, s, out, told, y⟩ := (x.swap3).book
  have h1 := hf.hs
  have h2 := hf.ss
  obtain ⟨told', w1, e1, z⟩ := heldS_ok (l := l) (s := s) (out := out) (told := told) (k1 := b.kept) (k2 := b.was) (n := b.tolds.length) (xs := b.tolds.map (·.1)) (ks := b.ks) (k3 := b.keptS) (k4 := b.wasS)
    (X := rowA 99 2 l b.hs.length (hcs b.hs) * (rowA 101 2 s b.ss.length (scs b.ss) * (rowA 22 1 out b.outs.length (b.outs.map (·.1)) * (all holdA b.hs * (all spanA b.ss * (all outA b.outs * (all toldA b.tolds * (clipA 5 1 b.kept b.kl.length (bv b.kl) * (rowA 5 1 b.was b.kl.length (bv b.kl) * (clipA 40 2 (.slice Av yl.length yl.length) yl.length (sc yl) * (rowA 40 2 (.slice A1 n1 c1) yl.length (sc yl) * X)))))))))))
    (y.eq (by unfold bookB; ac_rfl)) (by omega) (by have := hf.sk; omega) Av A1 yl.length n1 yl.length c1
  refine ⟨{ b with tolds := b.tolds ++ [(b.keptS, b.ks)], keptS := .slice Av yl.length yl.length, wasS := .slice A1 n1 c1, ks := yl }, w1, e1, ⟨by simp; omega, by simp; omega, hf.hn, hf.sn, hf.on, ?_, hf.kn, hy⟩, Sat.toBook (l := l) (s := s) (out := out) (told := told') (z.eq ?_)⟩
  · intro o ho
    simp only [List.mem_append, List.mem_singleton] at ho
    rcases ho with ho | rfl
    · exact hf.tn o ho
    · exact hf.sk
  · unfold bookB
    simp only [all_snoc, List.map_append, List.map_cons, List.map_nil, List.length_append, List.length_singleton, toldA]
    ac_rfl
/-- what is kept reads as it came -/
theorem book_rd (x : Sat W (bookA K b * X) w) : (∃ A, b.kept = .slice A b.kl.length b.kl.length ∧ Rd w A (bv b.kl)) ∧ ∃ A c, b.was = .slice A b.kl.length c ∧ Rd w A (bv b.kl) := by
  obtain ⟨l, s, out, told, y⟩ := x.book
  have z := y.eq (by unfold bookB; ac_rfl : _ = clipA 5 1 b.kept b.kl.length (bv b.kl) * (rowA 5 1 b.was b.kl.length (bv b.kl) * (blkA K 59 [l, s, out, told, b.kept, b.was, b.keptS, b.wasS] * (rowA 99 2 l b.hs.length (hcs b.hs) * (rowA 101 2 s b.ss.length (scs b.ss) * (rowA 22 1 out b.outs.length (b.outs.map (·.1)) * (rowA 41 1 told b.tolds.length (b.tolds.map (·.1)) * (all holdA b.hs * (all spanA b.ss * (all outA b.outs * (all toldA b.tolds * (clipA 40 2 b.keptS b.ks.length (sc b.ks) * (rowA 40 2 b.wasS b.ks.length (sc b.ks) * X)))))))))))))
  obtain ⟨A, c, e1, _, o⟩ := z.clip
  obtain ⟨A2, c2, e2, _⟩ := own_form z.swap.row
  exact ⟨⟨A, e1, Rd.owned o⟩, A2, c2, e2, Rd.owned (e2 ▸ z.swap.row)⟩
end
end Go.Sh.Ytokpgallfmpmkaa
