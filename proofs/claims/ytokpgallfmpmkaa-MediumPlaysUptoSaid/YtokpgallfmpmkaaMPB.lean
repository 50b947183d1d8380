/- medium: the law's book: looks. Conditions: those of each statement. -/
import Derived.Test.YtokpgallfmpmkaaMPA
namespace Go.Sh.Ytokpgallfmpmkaa
open Go Go.Proofs Go.RowKit
set_option linter.unusedVariables false
set_option linter.unusedSimpArgs false
set_option maxRecDepth 100000
/-- a list that its owner has marked: where it lies, its mark, how long; has it been grown yet -/
structure Hold where
  v : Value
  m : Int
  n : Nat
  done : Bool
def hxs (h : Hold) : List Value := List.replicate h.n (.int .u8 h.m)
def sxs (h : Hold) : List Value := sc (List.replicate h.n (h.m, 0))
def holdA {base : Nat} (h : Hold) : Asn base := if h.done then rowA 5 1 h.v h.n (hxs h) else clipA 5 1 h.v h.n (hxs h)
def spanA {base : Nat} (h : Hold) : Asn base := if h.done then rowA 40 2 h.v h.n (sxs h) else clipA 40 2 h.v h.n (sxs h)
def hcs (hs : List Hold) : List Value := hs.flatMap fun h => [h.v, .int .u8 h.m]
def scs (hs : List Hold) : List Value := hs.flatMap fun h => [h.v, .int .i64 h.m]
theorem two_get {f g : Hold → Value} {hs : List Hold} {i : Nat} {h : Hold} (hi : hs[i]? = some h) : (hs.flatMap fun h => [f h, g h])[i * 2]? = some (f h) ∧ (hs.flatMap fun h => [f h, g h])[i * 2 + 1]? = some (g h) := by
  induction hs generalizing i with
  | nil => simp at hi
  | cons a l ih =>
    cases i with
    | zero => simp at hi; subst hi; exact ⟨rfl, rfl⟩
    | succ i =>
      simp at hi
      have e : (i + 1) * 2 = i * 2 + 1 + 1 := by omega
      rw [e]
      simpa using ih hi
theorem two_len {f g : Hold → Value} (hs : List Hold) : (hs.flatMap fun h => [f h, g h]).length = hs.length * 2 := by
  induction hs with
  | nil => rfl
  | cons a l ih => simp only [List.flatMap_cons, List.length_append, ih, List.length_cons, List.length_nil]; omega
theorem build40a (a : Int) : prun Try.prog (Instr.build 40 #[(0, .int .i64 a)]) = some (.agg #[.int .i64 a, .int .i64 0]) := id (by kernel_rfl)
section
variable {W w : World} {X : Asn W.heap.size} {K n : Nat} {xs : List Value} {l s k1 k2 k3 k4 k5 k6 : Value} {hs : List Hold}
theorem hold_rd {h : Hold} (x : Sat W (holdA h * X) w) : ∃ A c, h.v = .slice A h.n c ∧ Rd w A (hxs h) := by
  unfold holdA at x
  split at x
  · obtain ⟨A, c, e, _⟩ := own_form x.row
    exact ⟨A, c, e, Rd.owned (e ▸ x.row)⟩
  · obtain ⟨A, c, e, hc, o⟩ := x.clip
    exact ⟨A, _, e, Rd.owned o⟩
theorem span_rd {h : Hold} (x : Sat W (spanA h * X) w) : ∃ A c, h.v = .slice A h.n c ∧ Rd w A (sxs h) := by
  unfold spanA at x
  split at x
  · obtain ⟨A, c, e, _⟩ := own_form x.row
    exact ⟨A, c, e, Rd.owned (e ▸ x.row)⟩
  · obtain ⟨A, c, e, hc, o⟩ := x.clip
    exact ⟨A, _, e, Rd.owned o⟩
theorem looks_h (y : Sat W (blkA K 59 [l, s, k1, k2, k3, k4, k5, k6] * (rowA 99 2 l hs.length (hcs hs) * (all holdA hs * X))) w) (hn : hs.length ≤ 4000000000) (hb : ∀ h ∈ hs, h.n ≤ 4000000000) :
    ∃ w', iter (f57.l1 C) [.pointer (some ⟨K, 0, none⟩), .int .i64 0] w = some (.exit 0 [.pointer (some ⟨K, 0, none⟩)] w') ∧ Sat W (blkA K 59 [l, s, k1, k2, k3, k4, k5, k6] * (rowA 99 2 l hs.length (hcs hs) * (all holdA hs * X))) w' := by
  obtain ⟨A, c, rfl, _⟩ := own_form y.swap.row
  have key := iter_down (f := f57.l1 C) (fun d vs w1 => ∃ i : Nat, vs = [.pointer (some ⟨K, 0, none⟩), .int .i64 i] ∧ i + d = hs.length ∧ Sat W (blkA K 59 [.slice A hs.length c, s, k1, k2, k3, k4, k5, k6] * (rowA 99 2 (.slice A hs.length c) hs.length (hcs hs) * (all holdA hs * X))) w1)
    (fun r => ∃ w1, r = .exit 0 [.pointer (some ⟨K, 0, none⟩)] w1 ∧ Sat W (blkA K 59 [.slice A hs.length c, s, k1, k2, k3, k4, k5, k6] * (rowA 99 2 (.slice A hs.length c) hs.length (hcs hs) * (all holdA hs * X))) w1) (by
      rintro d vs w1 ⟨i, rfl, hi, y⟩
      have c0 := y.cell 0 rfl
      cases d with
      | zero =>
        obtain rfl : i = hs.length := by omega
        refine .inr ⟨_, ?_, ⟨w1, rfl, y⟩, by simp⟩
        simp (disch := omega) [f57.l1, addL, c0, lt_f]
      | succ d =>
        have hil : i < hs.length := by omega
        obtain ⟨h, hh⟩ : ∃ h, hs[i]? = some h := ⟨_, List.getElem?_eq_getElem hil⟩
        have hbn := hb h (List.mem_of_getElem? hh)
        have e1 : IntKind.i64.wrap ((i : Int) + 1) = ((i + 1 : Nat) : Int) := (wrap_i64 (by omega) (by omega)).trans (by omega)
        have key2 := iter_down (f := f57.l0 C) (fun d vs w1 => ∃ j : Nat, vs = [.pointer (some ⟨K, 0, none⟩), .int .i64 i, .int .i64 j] ∧ j + d = h.n ∧ Sat W (blkA K 59 [.slice A hs.length c, s, k1, k2, k3, k4, k5, k6] * (rowA 99 2 (.slice A hs.length c) hs.length (hcs hs) * (all holdA hs * X))) w1)
          (fun r => ∃ w1, r = .exit 2 [.pointer (some ⟨K, 0, none⟩), .int .i64 i] w1 ∧ Sat W (blkA K 59 [.slice A hs.length c, s, k1, k2, k3, k4, k5, k6] * (rowA 99 2 (.slice A hs.length c) hs.length (hcs hs) * (all holdA hs * X))) w1) (by
            rintro d vs w1 ⟨j, rfl, hj, y⟩
            have c0 := y.cell 0 rfl
            have rl := Rd.owned y.swap.row
            have hr : Sat W (holdA h * _) w1 := y.eq (by rw [all_get holdA hh]; ac_rfl : _ = holdA h * (blkA K 59 [.slice A hs.length c, s, k1, k2, k3, k4, k5, k6] * (rowA 99 2 (.slice A hs.length c) hs.length (hcs hs) * (all holdA (hs.eraseIdx i) * X))))
            obtain ⟨A1, n1, hv, r1⟩ := hold_rd hr
            obtain ⟨t0, t1⟩ := two_get (f := fun h => h.v) (g := fun h => .int .u8 h.m) hh
            cases A with
            | none =>
              have h0 : hcs hs = [] := rl
              have h1 : (hcs hs).length = _ := two_len hs
              rw [h0] at h1
              simp at h1
              omega
            | some a =>
              have q0 : w1.cell? (a.add (i * 2)) = some h.v := rl _ _ t0
              have q1 : w1.cell? (a.add (i * 2 + 1)) = some (.int .u8 h.m) := rl _ _ t1
              rw [hv] at q0
              have i1 := ix55 a hs.length c .i64 (i : Int) (by omega) (by omega)
              simp only [Int.toNat_natCast] at i1
              cases d with
              | zero =>
                obtain rfl : j = h.n := by omega
                refine .inr ⟨_, ?_, ⟨w1, rfl, y⟩, by simp⟩
                simp (disch := omega) [f57.l0, addL, c0, lt_f, i1, q0]
              | succ d =>
                have e2 : IntKind.i64.wrap ((j : Int) + 1) = ((j + 1 : Nat) : Int) := (wrap_i64 (by omega) (by omega)).trans (by omega)
                have hjn : (j : Int) < (h.n : Int) := by omega
                cases A1 with
                | none =>
                  have h0 : hxs h = [] := r1
                  simp [hxs] at h0
                  omega
                | some a1 =>
                  have i2 := ix22 a1 h.n n1 .i64 (j : Int) (by omega) (by omega)
                  simp only [Int.toNat_natCast, Nat.mul_one] at i2
                  have q2 : w1.cell? (a1.add j) = some (.int .u8 h.m) := r1 j _ (by unfold hxs; rw [List.getElem?_replicate, if_pos (by omega)])
                  refine .inl ⟨d, _, w1.drew, by omega, ?_, ⟨j + 1, rfl, by omega, y.drew⟩⟩
                  simp [f57.l0, addL, c0, i1, q0, q1, q2, i2, hjn, e2, Addr.add_add]) h.n _ w1 ⟨0, rfl, by omega, y⟩
        obtain ⟨r, h3, w3, rfl, y3⟩ := key2
        refine .inl ⟨d, _, w3, by omega, ?_, ⟨i + 1, rfl, by omega, y3⟩⟩
        have hlt : (i : Int) < (hs.length : Int) := by omega
        simp at h3
        simp [f57.l1, addL, c0, hlt, h3, e1]) hs.length _ w ⟨0, rfl, by omega, y⟩
  obtain ⟨r, h3, w3, rfl, y3⟩ := key
  exact ⟨w3, by simpa using h3, y3⟩
theorem looks_s (y : Sat W (blkA K 59 [l, s, k1, k2, k3, k4, k5, k6] * (rowA 101 2 s hs.length (scs hs) * (all spanA hs * X))) w) (hn : hs.length ≤ 4000000000) (hb : ∀ h ∈ hs, h.n ≤ 4000000000) :
    ∃ w', iter (f57.l3 C) [.pointer (some ⟨K, 0, none⟩), .int .i64 0] w = some (.exit 4 [] w') ∧ Sat W (blkA K 59 [l, s, k1, k2, k3, k4, k5, k6] * (rowA 101 2 s hs.length (scs hs) * (all spanA hs * X))) w' := by
  obtain ⟨A, c, rfl, _⟩ := own_form y.swap.row
  have key := iter_down (f := f57.l3 C) (fun d vs w1 => ∃ i : Nat, vs = [.pointer (some ⟨K, 0, none⟩), .int .i64 i] ∧ i + d = hs.length ∧ Sat W (blkA K 59 [l, .slice A hs.length c, k1, k2, k3, k4, k5, k6] * (rowA 101 2 (.slice A hs.length c) hs.length (scs hs) * (all spanA hs * X))) w1)
    (fun r => ∃ w1, r = .exit 4 [] w1 ∧ Sat W (blkA K 59 [l, .slice A hs.length c, k1, k2, k3, k4, k5, k6] * (rowA 101 2 (.slice A hs.length c) hs.length (scs hs) * (all spanA hs * X))) w1) (by
      rintro d vs w1 ⟨i, rfl, hi, y⟩
      have c0 := y.cell 1 rfl
      cases d with
      | zero =>
        obtain rfl : i = hs.length := by omega
        refine .inr ⟨_, ?_, ⟨w1, rfl, y⟩, by simp⟩
        simp (disch := omega) [f57.l3, addL, c0, lt_f]
      | succ d =>
        have hil : i < hs.length := by omega
        obtain ⟨h, hh⟩ : ∃ h, hs[i]? = some h := ⟨_, List.getElem?_eq_getElem hil⟩
        have hbn := hb h (List.mem_of_getElem? hh)
        have e1 : IntKind.i64.wrap ((i : Int) + 1) = ((i + 1 : Nat) : Int) := (wrap_i64 (by omega) (by omega)).trans (by omega)
        have key2 := iter_down (f := f57.l2 C) (fun d vs w1 => ∃ j : Nat, vs = [.pointer (some ⟨K, 0, none⟩), .int .i64 i, .int .i64 j] ∧ j + d = h.n ∧ Sat W (blkA K 59 [l, .slice A hs.length c, k1, k2, k3, k4, k5, k6] * (rowA 101 2 (.slice A hs.length c) hs.length (scs hs) * (all spanA hs * X))) w1)
          (fun r => ∃ w1, r = .exit 6 [.pointer (some ⟨K, 0, none⟩), .int .i64 i] w1 ∧ Sat W (blkA K 59 [l, .slice A hs.length c, k1, k2, k3, k4, k5, k6] * (rowA 101 2 (.slice A hs.length c) hs.length (scs hs) * (all spanA hs * X))) w1) (by
            rintro d vs w1 ⟨j, rfl, hj, y⟩
            have c0 := y.cell 1 rfl
            have rl := Rd.owned y.swap.row
            have hr : Sat W (spanA h * _) w1 := y.eq (by rw [all_get spanA hh]; ac_rfl : _ = spanA h * (blkA K 59 [l, .slice A hs.length c, k1, k2, k3, k4, k5, k6] * (rowA 101 2 (.slice A hs.length c) hs.length (scs hs) * (all spanA (hs.eraseIdx i) * X))))
            obtain ⟨A1, n1, hv, r1⟩ := span_rd hr
            obtain ⟨t0, t1⟩ := two_get (f := fun h => h.v) (g := fun h => .int .i64 h.m) hh
            cases A with
            | none =>
              have h0 : scs hs = [] := rl
              have h1 : (scs hs).length = _ := two_len hs
              rw [h0] at h1
              simp at h1
              omega
            | some a =>
              have q0 : w1.cell? (a.add (i * 2)) = some h.v := rl _ _ t0
              have q1 : w1.cell? (a.add (i * 2 + 1)) = some (.int .i64 h.m) := rl _ _ t1
              rw [hv] at q0
              have i1 := ix56 a hs.length c .i64 (i : Int) (by omega) (by omega)
              simp only [Int.toNat_natCast] at i1
              cases d with
              | zero =>
                obtain rfl : j = h.n := by omega
                refine .inr ⟨_, ?_, ⟨w1, rfl, y⟩, by simp⟩
                simp (disch := omega) [f57.l2, addL, c0, lt_f, i1, q0]
              | succ d =>
                have e2 : IntKind.i64.wrap ((j : Int) + 1) = ((j + 1 : Nat) : Int) := (wrap_i64 (by omega) (by omega)).trans (by omega)
                have hjn : (j : Int) < (h.n : Int) := by omega
                cases A1 with
                | none =>
                  have h0 : sxs h = [] := r1
                  have h1 : (sxs h).length = _ := sc_length _
                  rw [h0] at h1
                  simp at h1
                  omega
                | some a1 =>
                  have i2 := ix41 a1 h.n n1 .i64 (j : Int) (by omega) (by omega)
                  simp only [Int.toNat_natCast] at i2
                  have hlt : j < (List.replicate h.n (h.m, (0 : Int))).length := by simp; omega
                  obtain ⟨z0, z1⟩ := sc_get hlt
                  have q2 := ld40 (w := w1.drew) (a := a1.add (j * 2)) (v0 := .int .i64 h.m) (v1 := .int .i64 0) (by rw [Addr.add_add, Nat.add_zero]; simpa using r1 _ _ z0) (by rw [Addr.add_add]; simpa using r1 _ _ z1)
                  refine .inl ⟨d, _, w1.drew, by omega, ?_, ⟨j + 1, rfl, by omega, y.drew⟩⟩
                  simp [f57.l2, addL, c0, i1, q0, q1, q2, i2, hjn, e2, Addr.add_add, build40a]) h.n _ w1 ⟨0, rfl, by omega, y⟩
        obtain ⟨r, h3, w3, rfl, y3⟩ := key2
        refine .inl ⟨d, _, w3, by omega, ?_, ⟨i + 1, rfl, by omega, y3⟩⟩
        have hlt : (i : Int) < (hs.length : Int) := by omega
        simp at h3
        simp [f57.l3, addL, c0, hlt, h3, e1]) hs.length _ w ⟨0, rfl, by omega, y⟩
  obtain ⟨r, h3, w3, rfl, y3⟩ := key
  exact ⟨w3, by simpa using h3, y3⟩
end
end Go.Sh.Ytokpgallfmpmkaa
