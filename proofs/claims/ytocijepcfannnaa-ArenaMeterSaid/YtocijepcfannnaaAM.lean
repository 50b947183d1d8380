/- ArenaMeter: the law's function answers true. Conditions: its arguments are an int and two lists of ints. -/
import Derived.Test.YtocijepcfannnaaAR
namespace Go.Sh.Ytocijepcfannnaa
open Go Go.Proofs Go.RowKit
set_option linter.unusedVariables false
set_option linter.unusedSimpArgs false

section
variable {W : World} {a1 a2 : Option Addr} {n1 c1 n2 c2 : Nat} {z1 z2 : List Int} {b : Nat} {m : Int}
/-- what holds at the head of the first loop -/
structure I1 (W : World) (b : Nat) (m : Int) (a1 : Option Addr) (n1 c1 : Nat) (v2 : Value) (d : Nat) (vs : List Value) (w : World) : Prop where
  ex : ∃ (s t : Int) (i : Nat), vs = [.int .i64 m, .slice a1 n1 c1, v2, .pointer (some ⟨b, 0, none⟩), .int .i64 s, .int .i64 t, .int .i64 i] ∧ i + d = n1 ∧ 0 ≤ s ∧ s ≤ t ∧ t ≤ m ∧ Ar w b m s t ∧ W.grownBy w none
theorem loop1 (h1 : IsRow .i64 W a1 n1 c1 z1) (y1 : n1 * 8 ≤ 140737488351232) (hb : W.heap.size ≤ b) (hm : m ≤ 1048576) (v2 : Value) : ∀ (d : Nat) (vs : List Value) (w : World), I1 W b m a1 n1 c1 v2 d vs w →
    ∃ r, iter (f7.l0 C) vs w = some r ∧ ∃ (s t : Int) (w' : World), r = .exit 0 [.int .i64 m, v2, .pointer (some ⟨b, 0, none⟩), .int .i64 s, .int .i64 t] w' ∧ 0 ≤ s ∧ s ≤ t ∧ t ≤ m ∧ Ar w' b m s t ∧ W.grownBy w' none := by
  refine iter_down _ _ ?_
  intro d vs w ⟨s, t, i, hvs, hi, hs, hst, htm, A, G⟩
  subst hvs
  cases d with
  | zero =>
    have : i = n1 := by omega
    subst this
    exact .inr ⟨_, by simp [f7.l0], ⟨s, t, w, rfl, hs, hst, htm, A, G⟩, by simp⟩
  | succ d =>
    have hlt : i < n1 := by omega
    obtain ⟨x, rfl, hx, hwf⟩ := h1.get G hlt
    obtain ⟨q0, q1⟩ := wf_i64 hwf
    obtain ⟨n, p1, p2, p3⟩ := pick_ok (z1.getD i 0) 1048576 (by omega) (by omega) q0 q1 w
    obtain ⟨n, rfl⟩ := Int.eq_ofNat_of_zero_le p2
    simp only [List.getD_eq_getElem?_getD] at p1 hx
    have ix := ix24 x n1 c1 .i64 i (by omega) (by omega)
    simp only [Int.toNat_natCast, Nat.mul_one] at ix
    have e1 : IntKind.i64.wrap (s + n) = s + n := wrap_i64 (by omega) (by omega)
    have e2 : IntKind.i64.wrap ((i : Int) + 1) = ((i + 1 : Nat) : Int) := by rw [wrap_i64 (by omega) (by omega)]; omega
    by_cases hf : s + n ≤ m
    · obtain ⟨B, w', k1, k2, k3, k4, k5⟩ := bytes_ok A hs (by omega) (by omega) n (by omega)
      have mx : (if s + (n : Int) > t then s + (n : Int) else t) = max t (s + n) := by omega
      refine .inl ⟨d, [.int .i64 m, .slice (some x) n1 c1, v2, .pointer (some ⟨b, 0, none⟩), .int .i64 (s + n), .int .i64 (max t (s + n)), .int .i64 ((i + 1 : Nat) : Int)], w', by omega, ?_, ⟨_, _, i + 1, rfl, by omega, by omega, by omega, by omega, k2, grown_new G k5 hb⟩⟩
      try simp at k1
      simp [f7.l0, hlt, ix, hx, p1, k1, e1, hf, neq4, max3, mx]
      simpa using e2
    · have k1 := bytes_no A hs (by omega) (by omega) n (by omega)
      have mx : (if s > t then s else t) = t := by omega
      refine .inl ⟨d, [.int .i64 m, .slice (some x) n1 c1, v2, .pointer (some ⟨b, 0, none⟩), .int .i64 s, .int .i64 t, .int .i64 ((i + 1 : Nat) : Int)], w.drew, by omega, ?_, ⟨_, _, i + 1, rfl, by omega, hs, hst, htm, A, grown_step G (grown_drew _ _)⟩⟩
      try simp at k1
      simp [f7.l0, hlt, ix, hx, p1, k1, e1, hf, neq4, max3, mx]
      simpa using e2

structure I2 (W : World) (b : Nat) (m k : Int) (a2 : Option Addr) (n2 c2 : Nat) (d : Nat) (vs : List Value) (w : World) : Prop where
  ex : ∃ (s t : Int) (i : Nat), vs = [.int .i64 m, .slice a2 n2 c2, .pointer (some ⟨b, 0, none⟩), .int .i64 s, .int .i64 t, .int .i64 k, .int .i64 i] ∧ i + d = n2 ∧ k ≤ s ∧ s ≤ t ∧ t ≤ m ∧ Ar w b m s t ∧ W.grownBy w none
theorem loop2 (h2 : IsRow .i64 W a2 n2 c2 z2) (y2 : n2 * 8 ≤ 140737488351232) (hb : W.heap.size ≤ b) (hm : m ≤ 1048576) (k : Int) (hk : 0 ≤ k) : ∀ (d : Nat) (vs : List Value) (w : World), I2 W b m k a2 n2 c2 d vs w →
    ∃ r, iter (f7.l1 C) vs w = some r ∧ ∃ (s t : Int) (w' : World), r = .exit 2 [.int .i64 m, .pointer (some ⟨b, 0, none⟩), .int .i64 k] w' ∧ k ≤ s ∧ s ≤ t ∧ t ≤ m ∧ Ar w' b m s t ∧ W.grownBy w' none := by
  refine iter_down _ _ ?_
  intro d vs w ⟨s, t, i, hvs, hi, hs, hst, htm, A, G⟩
  subst hvs
  cases d with
  | zero =>
    have : i = n2 := by omega
    subst this
    exact .inr ⟨_, by simp [f7.l1], ⟨s, t, w, rfl, hs, hst, htm, A, G⟩, by simp⟩
  | succ d =>
    have hlt : i < n2 := by omega
    obtain ⟨x, rfl, hx, hwf⟩ := h2.get G hlt
    obtain ⟨q0, q1⟩ := wf_i64 hwf
    obtain ⟨n, p1, p2, p3⟩ := pick_ok (z2.getD i 0) 1048576 (by omega) (by omega) q0 q1 w
    obtain ⟨n, rfl⟩ := Int.eq_ofNat_of_zero_le p2
    simp only [List.getD_eq_getElem?_getD] at p1 hx
    have ix := ix24 x n2 c2 .i64 i (by omega) (by omega)
    simp only [Int.toNat_natCast, Nat.mul_one] at ix
    have e0 : IntKind.i64.wrap (2 * (n : Int)) = 2 * n := wrap_i64 (by omega) (by omega)
    have e1 : IntKind.i64.wrap (s + 2 * n) = s + 2 * n := wrap_i64 (by omega) (by omega)
    have e2 : IntKind.i64.wrap ((i : Int) + 1) = ((i + 1 : Nat) : Int) := by rw [wrap_i64 (by omega) (by omega)]; omega
    have er := bin_rem .i64 (i : Int) 3 (by omega)
    -- what stands behind Samples
    have tail : ∀ (s' t' : Int) (w' : World), k ≤ s' → s' ≤ t' → t' ≤ m → Ar w' b m s' t' → W.grownBy w' none →
        ∃ (s'' : Int) (w'' : World), k ≤ s'' ∧ s'' ≤ t' ∧ Ar w'' b m s'' t' ∧ W.grownBy w'' none ∧
          ((if decide ((i : Int).tmod 3 = 2) = true then
              (C 14 #[.pointer (some ⟨b, 0, none⟩), .int .i64 k] w').bind fun r140 =>
              (bin .neq r140.1 (Value.int IntKind.i64 0)).bind fun v142 =>
              (asB v142).bind fun b143 =>
              (if b143 = false then (C 16 #[.pointer (some ⟨b, 0, none⟩)] r140.2).bind fun r145 =>
                (bin .neq r145.1 (.int .i64 k)).bind fun v147 =>
                some (v147, r145.2)
               else some ((Value.bool true), r140.2)).bind fun r148 =>
              (asB r148.1).bind fun c148 =>
              if c148 then some (Res.ret [(Value.bool false)] r148.2)
              else some (Res.norm [.int .i64 m, .slice (some x) n2 c2, .pointer (some ⟨b, 0, none⟩), .int .i64 k, .int .i64 t', .int .i64 k, .int .i64 i] r148.2)
            else some (Res.norm [.int .i64 m, .slice (some x) n2 c2, .pointer (some ⟨b, 0, none⟩), .int .i64 s', .int .i64 t', .int .i64 k, .int .i64 i] w')) =
            some (Res.norm [.int .i64 m, .slice (some x) n2 c2, .pointer (some ⟨b, 0, none⟩), .int .i64 s'', .int .i64 t', .int .i64 k, .int .i64 i] w'')) := by
      intro s' t' w' h1 h2 h3 A' G'
      by_cases hi3 : (i : Int).tmod 3 = 2
      · obtain ⟨w'', r1, r2, r3, r4⟩ := release_ok A' k hk h1
        have r5 := given_ok r2
        exact ⟨k, w'', by omega, by omega, r2, grown_new G' r3 hb, by simp [hi3, r1, r5]⟩
      · exact ⟨s', w', h1, h2, A', G', by simp [hi3]⟩
    by_cases hf : s + 2 * n ≤ m
    · obtain ⟨B, w', k1, k2, k3, k4, k5⟩ := samples_ok A (by omega) (by omega) (by omega) n (by omega)
      have mx : (if s + 2 * (n : Int) > t then s + 2 * (n : Int) else t) = max t (s + 2 * n) := by omega
      obtain ⟨s'', w'', t1, t2, t3, t4, t5⟩ := tail (s + 2 * n) (max t (s + 2 * n)) w' (by omega) (by omega) (by omega) k2 (grown_new G k5 hb)
      have g1 := given_ok t3
      have g2 := peak_ok t3
      have nt : ¬ max t (s + 2 * (n : Int)) > m := by omega
      refine .inl ⟨d, [.int .i64 m, .slice (some x) n2 c2, .pointer (some ⟨b, 0, none⟩), .int .i64 s'', .int .i64 (max t (s + 2 * n)), .int .i64 k, .int .i64 ((i + 1 : Nat) : Int)], w'', by omega, ?_, ⟨_, _, i + 1, rfl, by omega, t1, t2, by omega, t3, t4⟩⟩
      try simp at k1
      try simp at t5
      simp [f7.l1, hlt, ix, hx, p1, k1, e0, e1, hf, neq4, max3, mx, er]
      simp [t5, g1, g2, nt]
      simpa using e2
    · have k1 := samples_no A (by omega) (by omega) (by omega) n (by omega)
      have mx : (if s > t then s else t) = t := by omega
      obtain ⟨s'', w'', t1, t2, t3, t4, t5⟩ := tail s t w.drew (by omega) (by omega) (by omega) A (grown_step G (grown_drew _ _))
      have g1 := given_ok t3
      have g2 := peak_ok t3
      have nt : ¬ t > m := by omega
      refine .inl ⟨d, [.int .i64 m, .slice (some x) n2 c2, .pointer (some ⟨b, 0, none⟩), .int .i64 s'', .int .i64 t, .int .i64 k, .int .i64 ((i + 1 : Nat) : Int)], w'', by omega, ?_, ⟨_, _, i + 1, rfl, by omega, t1, t2, by omega, t3, t4⟩⟩
      try simp at k1
      try simp at t5
      simp [f7.l1, hlt, ix, hx, p1, k1, e0, e1, hf, neq4, max3, mx, er]
      simp [t5, g1, g2, nt]
      simpa using e2

theorem meter_ok (x : Int) (hx : -9223372036854775808 ≤ x) (hx' : x ≤ 9223372036854775807) (h1 : IsRow .i64 W a1 n1 c1 z1) (y1 : n1 * 8 ≤ 140737488351232) (h2 : IsRow .i64 W a2 n2 c2 z2) (y2 : n2 * 8 ≤ 140737488351232) :
    ∃ w', C 7 #[.int .i64 x, .slice a1 n1 c1, .slice a2 n2 c2] W = some (.bool true, w') ∧ W.grownBy w' none := by
  obtain ⟨w1, k1, g1⟩ := awake_ok W
  obtain ⟨m, k2, m0, mN⟩ := pick_ok x 1048576 (by omega) (by omega) hx hx' w1
  obtain ⟨w2, k3, A2, g2, z2⟩ := new_ok m w1 m0 (by omega)
  have G2 := grown_trans g1 g2 (by simp)
  have hb : W.heap.size ≤ w1.heap.size := g1.size
  obtain ⟨r, k4, s, t, w3, rfl, s0, st, tm, A3, G3⟩ := loop1 h1 y1 hb (by omega) (.slice a2 n2 c2) n1 _ w2 ⟨0, 0, 0, rfl, by omega, by omega, by omega, by omega, A2, G2⟩
  have k5 := mark_ok A3
  obtain ⟨r, k6, s', t', w4, rfl, s0', st', tm', A4, G4⟩ := loop2 h2 y2 hb (by omega) s s0 n2 _ w3 ⟨s, t, 0, rfl, by omega, by omega, by omega, by omega, A3, G3⟩
  obtain ⟨w5, k7, A5, g5, _⟩ := release_ok A4 s (by omega) (by omega)
  obtain ⟨q, hq⟩ := Int.eq_ofNat_of_zero_le (show 0 ≤ m - s by omega)
  obtain ⟨B, w6, k8, A6, _, _, g6⟩ := bytes_ok A5 (by omega) (by omega) (by omega) q (by omega)
  have k9 := bytes_no A6 (by omega) (by omega) (by omega) 1 (by omega)
  have k10 := given_ok (w := w6.drew) A6
  have k11 := peak_ok (w := w6.drew) A6
  have e1 : IntKind.i64.wrap (m - s) = m - s := wrap_i64 (by omega) (by omega)
  have e2 : s + (q : Int) = m := by omega
  have e3 : max t' m = m := by omega
  refine ⟨w6.drew, f7.run rfl ?_, grown_new (grown_new G4 g5 hb) (grown_step g6 (grown_drew _ _)) hb⟩
  rw [← hq] at k8
  rw [e2, e3] at k11
  rw [e2] at k10
  simp at k3 k8 k9 k4 k6
  simp [f7, k1, k2, k3, k4, k5, k6, k7, e1, k8, k9, k10, k11]
end

theorem meter_walk (W : World) (x : Int) (hx : (Lit.int .i64 x).wf = true) (a1 : Option Addr) (n1 c1 : Nat) (z1 : List Int) (h1 : IsRow .i64 W a1 n1 c1 z1) (y1 : n1 * 8 ≤ 140737488351232) (a2 : Option Addr) (n2 c2 : Nat) (z2 : List Int) (h2 : IsRow .i64 W a2 n2 c2 z2) (y2 : n2 * 8 ≤ 140737488351232) :
    Calls Try.prog 7 #[.int .i64 x, .slice a1 n1 c1, .slice a2 n2 c2] W fun e w' => e = .returned (.bool true) ∧ Below W.heap.size W w' := by
  obtain ⟨x0, x1⟩ := wf_i64 hx
  obtain ⟨w', h, g⟩ := meter_ok x x0 x1 h1 y1 h2 y2
  exact (calls_of_run (by kernel_rfl) noPrim_ok h).mono fun e v ⟨h1, h2⟩ => ⟨h1, h2 ▸ below_of_grown g⟩
end Go.Sh.Ytocijepcfannnaa
