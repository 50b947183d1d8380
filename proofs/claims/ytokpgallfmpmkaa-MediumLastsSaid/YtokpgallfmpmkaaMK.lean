/- MediumLasts: the law's function answers true. Conditions: its arguments are a list of lists of bytes and two ints. -/
import Derived.Test.YtokpgallfmpmkaaMD
import Derived.Test.YtokpgallfmpmkaaShRows
namespace Go.Sh.Ytokpgallfmpmkaa
open Go Go.Proofs Go.RowKit
set_option linter.unusedVariables false
set_option linter.unusedSimpArgs false
set_option maxRecDepth 100000
theorem im_size2 (x : Value) (w : World) : imethod Try.prog (.iface 82 x) "Size" w = some (94, x) := id (by kernel_rfl)
theorem im_read2 (x : Value) (w : World) : imethod Try.prog (.iface 82 x) "Read" w = some (93, x) := id (by kernel_rfl)
/-- a list that came in -/
structure Inn where
  A : Option Addr
  n : Nat
  c : Nat
  l : List UInt8
structure Inn.ok (x : Inn) (W : World) : Prop where
  len : x.l.length = x.n
  cap : x.n ≤ x.c
  max : x.c ≤ maxLen
  nil : x.A = none → x.c = 0
  rd : Rd W x.A (bv x.l)
def Inn.v (x : Inn) : Value := .slice x.A x.n x.c
/-- what the loop keeps: the medium's bytes and the list beside it are the same -/
structure Kl (W w : World) (M : Nat) (B V : Value) (l : List UInt8) (armed keep : Int) : Prop where
  med : Med w W.heap.size M 0 B l false armed keep (.slice none 0 0) []
  row : w.ownsRow W.heap.size 5 1 V l.length (bv l)
  dis : ∀ k, V.ownBlock = some k → ¬ fp M B (.slice none 0 0) k
  gr : W.grownBy w none
section
variable {W w : World} {M : Nat} {B B' V : Value} {l : List UInt8} {armed keep armed' keep' : Int} {dead : Bool}
/-- bytes put behind the list beside it, where the medium has them already -/
theorem Kl.more {w1 : World} {l0 : List UInt8} (row : w1.ownsRow W.heap.size 5 1 V l0.length (bv l0)) (hb : W.heap.size ≤ w1.heap.size) (dis : ∀ k, V.ownBlock = some k → ¬ fp M B (.slice none 0 0) k)
    (m : Med w1 W.heap.size M 0 B l dead armed keep (.slice none 0 0) []) {A : Option Addr} {n c : Nat} {x : List UInt8} (hx : x.length = n) (hr : Rd w1 A (bv x)) (hnil : A = none → c = 0) (hn : l0.length + n ≤ 268435456) :
    ∃ V' w2, erun Try.prog (Builtin.append_ #[22, 22] 22 #[V, .slice A n c]) w1 = some (V', w2) ∧ w2.ownsRow W.heap.size 5 1 V' (l0 ++ x).length (bv (l0 ++ x)) ∧ Med w2 W.heap.size M 0 B l dead armed keep (.slice none 0 0) [] ∧
      (∀ k, V'.ownBlock = some k → ¬ fp M B (.slice none 0 0) k) ∧ w1.grownBy w2 V.ownBlock := by
  obtain ⟨V', w2, h1, o1, g1, k1⟩ := e_append2 (P := Try.prog) (ty := 22) Try.underlying22 inf5 zero5 size5 bytes5 rfl (by decide) row (A := A) (m := n) (c := c) (news := bv x) (by simp [hx]) hr hnil (bv_one x) (by simp [maxLen]; omega) (by omega) hb
  rw [← bv_append] at o1
  refine ⟨V', w2, h1, by rw [List.length_append, hx]; exact o1, m.grew (grew_of (S := fun j => V.ownBlock = some j) g1 fun j hj => .inl hj) (fun j hf hj => dis j hj hf), fun k hk hf => ?_, g1⟩
  rcases k1 k hk with h | h
  · exact dis k h hf
  · have := (m.fpge k hf).2; omega
theorem dis_step {w1 : World} (row : w.ownsRow W.heap.size 5 1 V l.length (bv l)) (dis : ∀ k, V.ownBlock = some k → ¬ fp M B (.slice none 0 0) k) (hk : ∀ k, fp M B' (.slice none 0 0) k → fp M B (.slice none 0 0) k ∨ w.heap.size ≤ k) : ∀ k, V.ownBlock = some k → ¬ fp M B' (.slice none 0 0) k := fun k hv hf => by
  rcases hk k hf with h | h
  · exact dis k hv h
  · have := (row.lt k hv).2; omega
end
/-- the loop -/
theorem lasts_l0 {W : World} {M : Nat} {A : Option Addr} {c : Nat} {q : List Inn} (hr : Rd W A (q.map Inn.v)) (hok : ∀ x ∈ q, x.ok W) (N : Nat) (hN0 : 0 < N) (hN : N ≤ 200000) (hq : q.length ≤ maxLen) :
    ∀ (d : Nat) (vs : List Value) (w : World), (∃ (i : Nat) (K : Int) (kp : Int) (B V : Value) (l : List UInt8), vs = [.slice A q.length c, .int .i64 N, .int .i64 K, .pointer (some ⟨M, 0, none⟩), V, .int .i64 i] ∧ i + d = min q.length 200000 ∧ l.length ≤ 1000 * i ∧
        0 ≤ K ∧ K ≤ 1200 ∧ (i < N → kp = K) ∧ 0 ≤ kp ∧ Kl W w M B V l (if i < N then (N : Int) - i else 0) kp) →
    ∃ r, iter (f5.l0 C) vs w = some r ∧ ∃ a kp B V l w', r = .exit 0 [.pointer (some ⟨M, 0, none⟩), V] w' ∧ l.length ≤ 200000000 ∧ Kl W w' M B V l a kp := by
  refine iter_down _ _ ?_
  rintro d vs w ⟨i, K, kp, B, V, l, rfl, hi, hli, hK, hK', hkp, hkp0, k⟩
  have hmx : (maxLen : Int) = 9223372036854775807 := by simp [maxLen]
  cases d with
  | zero =>
    refine .inr ⟨_, ?_, ⟨_, kp, B, V, l, w, rfl, by omega, k⟩, by simp⟩
    by_cases h2 : i < q.length
    · simp (disch := omega) [f5.l0, lt_t, lt_f]
    · simp (disch := omega) [f5.l0, lt_f]
  | succ d =>
    have hlt : i < q.length := by omega
    have hi2 : i < 200000 := by omega
    obtain ⟨x, hx⟩ : ∃ x, x = q[i] := ⟨_, rfl⟩
    have xo : x.ok W := hx ▸ hok _ (List.getElem_mem hlt)
    have hcell : (q.map Inn.v)[i]? = some (.slice x.A x.n x.c) := by rw [List.getElem?_map, List.getElem?_eq_getElem hlt, ← hx]; rfl
    have e1 : IntKind.i64.wrap ((i : Int) + 1) = (i : Int) + 1 := wrap_i64 (by omega) (by omega)
    cases A with
    | none => have h0 : q.map Inn.v = [] := hr; rw [h0] at hcell; simp at hcell
    | some a =>
      have i1 := ix50 a q.length c .i64 i (by omega) (by omega)
      simp only [Int.toNat_natCast, Nat.mul_one] at i1
      have q1 : w.cell? (a.add i) = some (.slice x.A x.n x.c) := hr.grown k.gr _ _ hcell
      -- at most a thousand
      obtain ⟨m, hm⟩ : ∃ m : Nat, m = min x.n 1000 := ⟨_, rfl⟩
      obtain ⟨y, hy⟩ : ∃ y, y = x.l.take m := ⟨_, rfl⟩
      have hyl : y.length = m := by rw [hy, List.length_take, xo.len]; omega
      have hry : Rd W x.A (bv y) := by rw [hy, bv_take]; exact xo.rd.take m
      have hcap := xo.cap
      have hmax := xo.max
      have hcut : (x.n ≤ 1000 ∧ m = x.n) ∨ (1000 < x.n ∧ m = 1000) := by omega
      have s0 : 1000 < x.n → prun Try.prog (Instr.sliceAt 22 (.slice x.A x.n x.c) none (some (.int .i64 1000)) none) = some (.slice x.A 1000 x.c) := fun h => by
        have := sl22 x.A x.n x.c none (some (.int .i64 1000)) none 0 1000 x.c (by
          have := bounds_hi (P := Try.prog) x.n x.c .i64 1000 (by omega) (by omega)
          rw [this]; rfl)
        simpa using this
      by_cases hdie : i + 1 = N
      · have hkK := hkp (by omega)
        subst hkK
        have hmed := k.med
        rw [if_pos (by omega), show (N : Int) - i = 1 by omega] at hmed
        obtain ⟨B1, w1, h1, m1, g1, k1⟩ := append_dies hmed (c := x.c) hyl (by omega) (Rd.fp hry k.gr k.med) xo.nil (by omega) hkp0 k.gr.size
        have G1 := grown_fp k.gr k.med g1
        have row1 := own_grew k.row g1 k.dis
        have dis1 := dis_step (w1 := w1) k.row k.dis k1
        obtain ⟨u, hu⟩ : ∃ u : Nat, u = min kp.toNat m := ⟨_, rfl⟩
        have hyt : y.take kp.toNat = y.take u := by
          rw [hu, ← hyl]
          by_cases hle : kp.toNat ≤ y.length
          · rw [Nat.min_eq_left hle]
          · rw [Nat.min_eq_right (by omega), List.take_length, List.take_of_length_le (by omega)]
        rw [hyt] at m1
        have s1 := sl22 x.A m x.c none (some (.int .i64 u)) none 0 u x.c (by
          have := bounds_hi (P := Try.prog) m x.c .i64 u (by omega) (by omega)
          rw [this]; rfl)
        simp only [Nat.sub_zero, cutA] at s1
        obtain ⟨V2, w2, h2, row2, m2, dis2, g2⟩ := Kl.more (x := y.take u) (n := u) (c := x.c) row1 G1.size dis1 m1 (by rw [List.length_take]; omega) (by rw [bv_take]; exact (hry.grown G1).take u) xo.nil (by omega)
        have G2 : W.grownBy w2 none := grown_trans G1 g2 fun j hj => (row1.lt j hj).1
        obtain ⟨w3, h3, m3, g3⟩ := read_dead m2 0 0
        have G3 := grown_fp G2 m2 g3
        have row3 := own_grew row2 g3 dis2
        obtain ⟨w4, h4, m4, g4⟩ := append_dead m3 (.slice none 0 0)
        have G4 := grown_fp G3 m3 g4
        have row4 := own_grew row3 g4 dis2
        obtain ⟨w5, h5, m5, g5⟩ := dead_ok m4
        have G5 := grown_fp G4 m4 g5
        have row5 := own_grew row4 g5 dis2
        obtain ⟨w6, h6, m6, g6⟩ := arm_dead m5 0 0
        have G6 := grown_fp G5 m5 g6
        have row6 := own_grew row5 g6 dis2
        obtain ⟨w7, h7, m7, g7⟩ := revive_ok m6
        have G7 := grown_fp G6 m6 g7
        have row7 := own_grew row6 g7 dis2
        refine .inl ⟨d, _, w7, by omega, ?_, ⟨i + 1, u, kp, B1, V2, l ++ y.take u, rfl, by omega, (by rw [List.length_append, List.length_take]; omega), by omega, by omega, (fun h => by omega), hkp0, ?_⟩⟩
        · have hNi : (N : Int) = (i : Int) + 1 := by omega
          have e1' : IntKind.i64.wrap ((i : Int) + 1) = N := by rw [e1, hNi]
          by_cases hku : (m : Int) < kp
          · have hum : u = m := by omega
            rcases hcut with ⟨hk, hmn⟩ | ⟨hk, hmn⟩
            · rw [hum] at s1 h2 ⊢
              rw [hmn] at s1 h1 h2 hku ⊢
              simp (disch := omega) [f5.l0, lt_t, lt_f, i1, q1, h1, e1', hku, s1, h2, h3, h4, h5, bool_not, h6, h7, hNi]
            · have s0 := s0 hk
              rw [hum] at s1 h2 ⊢
              rw [hmn] at s1 h1 h2 hku ⊢
              simp at s1 h1 h2 hku
              simp (disch := omega) [f5.l0, lt_t, lt_f, i1, q1, s0, h1, e1', hku, s1, h2, h3, h4, h5, bool_not, h6, h7, hNi]
          · have hum : kp = u := by omega
            rcases hcut with ⟨hk, hmn⟩ | ⟨hk, hmn⟩
            · rw [hmn] at s1 h1 hku
              rw [← hum] at s1
              simp (disch := omega) [f5.l0, lt_t, lt_f, i1, q1, h1, e1', hku, s1, h2, h3, h4, h5, bool_not, h6, h7, hNi, ← hum]
            · have s0 := s0 hk
              rw [hmn] at s1 h1 hku
              rw [← hum] at s1
              simp at s1 h1 hku
              simp (disch := omega) [f5.l0, lt_t, lt_f, i1, q1, s0, h1, e1', hku, s1, h2, h3, h4, h5, bool_not, h6, h7, hNi, ← hum]
        · rw [if_neg (by omega)]
          exact ⟨m7, row7, dis2, G7⟩
      · have hne : (i : Int) + 1 ≠ N := by omega
        obtain ⟨am, ham⟩ : ∃ am : Int, am = if i < N then (N : Int) - i else 0 := ⟨_, rfl⟩
        have hmed := k.med
        rw [← ham] at hmed
        have ham0 : 0 ≤ am := by rw [ham]; split <;> omega
        have ham1 : am ≠ 1 := by rw [ham]; split <;> omega
        have hamN : am ≤ 200000 := by rw [ham]; split <;> omega
        obtain ⟨B1, w1, h1, m1, g1, k1⟩ := append_ok hmed (c := x.c) hyl (Rd.fp hry k.gr k.med) xo.nil (by omega) ham1 ham0 (by omega) k.gr.size
        have G1 := grown_fp k.gr k.med g1
        have row1 := own_grew k.row g1 k.dis
        have dis1 := dis_step (w1 := w1) k.row k.dis k1
        obtain ⟨V2, w2, h2, row2, m2, dis2, g2⟩ := Kl.more (x := y) (n := m) (c := x.c) row1 G1.size dis1 m1 hyl (hry.grown G1) xo.nil (by omega)
        have G2 : W.grownBy w2 none := grown_trans G1 g2 fun j hj => (row1.lt j hj).1
        obtain ⟨AV, cV, rfl, _, _⟩ := own_form k.row
        refine .inl ⟨d, _, w2, by omega, ?_, ⟨i + 1, K, kp, B1, V2, l ++ y, rfl, by omega, (by rw [List.length_append, hyl]; omega), hK, hK', (fun h => hkp (by omega)), hkp0, ?_⟩⟩
        · rcases hcut with ⟨hk, hmn⟩ | ⟨hk, hmn⟩
          · rw [hmn] at h1 h2
            simp (disch := omega) [f5.l0, lt_t, lt_f, i1, q1, h1, e1, hne, h2]
          · have s0 := s0 hk
            rw [hmn] at h1 h2
            simp (disch := omega) [f5.l0, lt_t, lt_f, i1, q1, s0, h1, e1, hne, h2]
        · have e : (if am = 0 then (0 : Int) else am - 1) = if i + 1 < N then (N : Int) - (i + 1 : Nat) else 0 := by
            rw [ham]
            by_cases h1 : i + 1 < N
            · rw [if_pos h1, if_pos (show i < N by omega), if_neg (by omega)]; omega
            · rw [if_neg h1]
              by_cases h2 : i < N
              · omega
              · rw [if_neg h2]; rfl
          rw [e] at m2
          exact ⟨m2, row2, dis2, G2⟩
theorem lasts_ok {W : World} {A : Option Addr} {c : Nat} {q : List Inn} (hr : Rd W A (q.map Inn.v)) (hok : ∀ x ∈ q, x.ok W) (hq : q.length ≤ maxLen)
    (o1 o2 : Int) (h1 : -9223372036854775808 ≤ o1) (h1' : o1 ≤ 9223372036854775807) (h2 : -9223372036854775808 ≤ o2) (h2' : o2 ≤ 9223372036854775807) :
    ∃ w', C 5 #[.slice A q.length c, .int .i64 o1, .int .i64 o2] W = some (.bool true, w') ∧ W.grownBy w' none := by
  obtain ⟨w1, s1, g1⟩ := shown_ok W
  obtain ⟨w2, s2, m2, g2⟩ := new_ok w1 (base := W.heap.size) g1.size
  have G2 : W.grownBy w2 none := grown_trans g1 g2 (by simp)
  obtain ⟨r1, s3, a3, b3⟩ := place_ok o1 200000 (by omega) (by omega) h1 h1' w2
  obtain ⟨r2, s4, a4, b4⟩ := place_ok o2 1200 (by omega) (by omega) h2 h2' w2
  obtain ⟨r1, rfl⟩ := Int.eq_ofNat_of_zero_le a3
  have e1 : IntKind.i64.wrap (1 + (r1 : Int)) = ((r1 + 1 : Nat) : Int) := (wrap_i64 (by omega) (by omega)).trans (by omega)
  obtain ⟨w5, s5, m5, g5⟩ := arm_ok m2 ((r1 + 1 : Nat) : Int) r2 (by omega) a4
  have G5 := grown_fp G2 m2 g5
  obtain ⟨r, s6, ar, kp, B, V, l, w6, rfl, hl, k6⟩ := lasts_l0 (c := c) hr hok (r1 + 1) (by omega) (by omega) hq (min q.length 200000) _ w5 ⟨0, r2, r2, _, _, [], rfl, by omega, by simp, a4, by omega, fun _ => rfl, a4, by
    have e : (if 0 < r1 + 1 then (((r1 + 1 : Nat) : Int)) - (0 : Nat) else 0) = ((r1 + 1 : Nat) : Int) := by rw [if_pos (by omega)]; omega
    rw [e]
    exact ⟨m5, World.ownsRow_nil _ _ _ _, (fun k hk => by cases hk), G5⟩⟩
  obtain ⟨v7, w7, s7, m7, g7, O7⟩ := bytes_ok k6.med (by omega)
  have G7 := grown_fp k6.gr k6.med g7
  have row7 := own_grew k6.row g7 k6.dis
  obtain ⟨v8, L8, w8, s8, m8, g8, k8, O8, d8⟩ := read_in m7 0 l.length (by omega) (by omega) (by simp) G7.size
  have G8 := grown_fp G7 m7 g8
  have row8 := own_grew row7 g8 k6.dis
  have dis8 := dis_on row7 k6.dis k8
  obtain ⟨P, w9, s9, m9, g9, b9, p9⟩ := piece_ok m8 0 l.length (by omega) (by omega)
  have G9 := grown_fp G8 m8 g9
  have row9 := own_grew row8 g9 dis8
  have O7b := O7.grew2 (g8.trans g9 k8) fun k hv hk hlt hf => by have := (k6.med.fpge k hf).2; omega
  have O8b := O8.grew2 g9 fun k hv hk hlt hf => d8 k hf hv
  obtain ⟨hf, hhf⟩ : ∃ hf : Nat, hf = l.length / 2 := ⟨_, rfl⟩
  obtain ⟨hy, hhy⟩ : ∃ hy : Nat, hy = l.length - hf := ⟨_, rfl⟩
  have eq2 : (l.length : Int).tdiv 2 = hf := by rw [Int.tdiv_eq_ediv_of_nonneg (by omega)]; omega
  have e2 : IntKind.i64.wrap ((l.length : Int) - hf) = hy := (wrap_i64 (by omega) (by omega)).trans (by omega)
  have e2' : IntKind.i64.wrap (hf : Int) = hf := wrap_i64 (by omega) (by omega)
  have e3 : IntKind.i64.wrap ((hy : Int) + 1) = (hy : Int) + 1 := wrap_i64 (by omega) (by omega)
  obtain ⟨v10, L10, w10, s10, m10, g10, k10, O10, d10⟩ := pread_in m9 b9 hf hy (by omega) (by omega) (by omega) (by simp) G9.size
  have G10 := grown_fp G9 m9 g10
  have row10 := own_grew row9 g10 dis8
  have dis10 := dis_on row9 dis8 k10
  have b10 := b9.grew g10 (m9.neP b9)
  obtain ⟨w11, s11, m11, g11⟩ := pread_out m10 b10 hf (hy + 1) (by omega) (by omega)
  have G11 := grown_fp G10 m10 g11
  have row11 := own_grew row10 g11 dis10
  have b11 := b10.grew g11 (m10.neP b10)
  have O10b := O10.grew2 g11 fun k hv hk hlt hf => d10 k hf hv
  have s12 := psize_ok (w := w11.drew) b11
  obtain ⟨AV, cV, rfl, hcV, _⟩ := own_form row11
  obtain ⟨A7, c7, rfl, _, r7, _, _⟩ := O7b.out
  obtain ⟨A8, c8, rfl, _, r8, _, _⟩ := O8b.out
  obtain ⟨A10, c10, rfl, _, r10, _, _⟩ := O10b.out
  have t7 := tx22_9 (c := c7) rfl r7
  have t8 := tx22_9 (c := c8) (n := l.length) (by simp) r8
  have t9 := tx22_9 (c := cV) rfl (Rd.owned row9)
  have hlen10 : ((l.drop (0 + hf)).take hy).length = hy := by simp; omega
  have t10 := tx22_9 (c := c10) (w := w11.drew) hlen10 r10
  have hsl := sl22 AV l.length cV (some (.int .i64 hf)) none none hf l.length cV (by
    have := bounds_lo (P := Try.prog) l.length cV .i64 hf (by omega) (by omega)
    rw [this]; rfl)
  have rs := (Rd.owned row11).sliced hf l.length cV 1 (by omega) hcV
  have ers : ((bv l).drop (hf * 1)).take ((l.length - hf) * 1) = bv ((l.drop (0 + hf)).take hy) := by rw [bv_take, bv_drop, Nat.mul_one, Nat.mul_one, Nat.zero_add, hhy]
  rw [ers] at rs
  rw [← hhy] at hsl
  have t11 := tx22_9 (c := cV - hf) (w := w11.drew) hlen10 rs
  have htl : (l.drop 0).take l.length = l := by simp
  rw [htl] at t8
  refine ⟨w11.drew, f5.run rfl ?_, grown_step G11 (grown_drew _ _)⟩
  simp at s5 s6 s8 s9 hsl t11 t10 s12
  simp (disch := omega) [f5, s1, s2, bool_not, s3, e1, s4, s5, s6, s7, s8, build40, s9, t7, t8, t9, bin_quo, eq2, e2, e2', e3, im_read2, im_size2, s10, s11, t10, hsl, t11, s12, wantedV, pickV]

theorem lasts_walk (W : World) {H : Type} {enc : TypeId × Value → H} (a0 : Option Addr) (len0 cap0 : Nat) (z0 : Dat enc Try.prog W 50 [.slice a0 len0 cap0]) (y0 : len0 * 24 ≤ 140737488351232)
    (o1 : Int) (w1 : (Lit.int .i64 o1).wf = true) (o2 : Int) (w2 : (Lit.int .i64 o2).wf = true) :
    Calls Try.prog 5 #[.slice a0 len0 cap0, .int .i64 o1, .int .i64 o2] W fun e w' => e = .returned (.bool true) ∧ Below W.heap.size W w' := by
  obtain ⟨x0, x1⟩ := wf_i64 w1
  obtain ⟨u0, u1⟩ := wf_i64 w2
  obtain ⟨A, len, cap, he, _, _, _, rows, h1, h2, h3⟩ := dat_slice Try.underlying50 z0
  simp only [List.cons.injEq, Value.slice.injEq, and_true] at he
  obtain ⟨rfl, rfl, rfl⟩ := he
  obtain ⟨q, rfl, hq, hw⟩ := choose_rows (fun x : Inn => [x.v]) (fun x => x.ok W) (rows := rows) (by
    intro r hr
    obtain ⟨_, hd⟩ := h2 r hr
    obtain ⟨A, n, c, l, rfl, e1, e2, e3, e4, e5⟩ := dat_bytes Try.underlying22 Try.underlying5 (by kernel_rfl) hd
    exact ⟨⟨A, n, c, l⟩, rfl, e1, e2, e3, e4, e5⟩)
  have hf : (q.map fun x : Inn => [x.v]).flatten = q.map Inn.v := by
    clear h1 h2 h3 hq hw
    induction q with
    | nil => rfl
    | cons x r ih => simpa using ih
  rw [hf] at h3
  have hlen : q.length = len0 := hq.trans h1
  subst hlen
  obtain ⟨w', h, g⟩ := lasts_ok (c := cap0) h3 hw (by simp [maxLen]; omega) o1 o2 x0 x1 u0 u1
  exact (calls_of_run (by kernel_rfl) mu_ok h).mono fun e v ⟨h1, h2⟩ => ⟨h1, h2 ▸ below_of_grown g⟩
end Go.Sh.Ytokpgallfmpmkaa
