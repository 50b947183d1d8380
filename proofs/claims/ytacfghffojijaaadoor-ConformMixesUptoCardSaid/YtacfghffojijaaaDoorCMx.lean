/- dailiesref06: what it answers. Conditions: those of each statement. -/
import Derived.Test.YtacfghffojijaaaDoorCPx
namespace Go.Sh.YtacfghffojijaaaDoor
open Go Go.Proofs Go.RowKit
set_option linter.unusedVariables false
set_option linter.unusedSimpArgs false
set_option maxRecDepth 100000
theorem rhalf_ok (n : Int) (h0 : 0 ≤ n) (h1 : n ≤ 1099511627776) (w : World) : C 40 #[.int .i64 n] w = some (.int .i64 ((n + 1) / 2), w) := by
  have e2 : n.tdiv 2 = n / 2 := Int.tdiv_eq_ediv_of_nonneg (by omega)
  have e3 : IntKind.i64.wrap (n / 2) = n / 2 := wrap_i64 (by omega) (by omega)
  have e4 : n.tmod 2 = n % 2 := Int.tmod_eq_emod_of_nonneg (by omega)
  have e5 : IntKind.i64.wrap (n % 2) = n % 2 := wrap_i64 (by omega) (by omega)
  have e6 : IntKind.i64.wrap (n / 2 + n % 2) = (n + 1) / 2 := (wrap_i64 (by omega) (by omega)).trans (by omega)
  refine f40.run rfl ?_
  simp [f40, bin_quo, bin_rem, e2, e3, e4, e5, e6]
theorem shl10 : prun Tryd.prog (do eqGuard .shl 3 (Operand.const (Value.int IntKind.i64 1)) (Operand.tmp 3) (Value.int IntKind.i64 1) (Value.int IntKind.i64 10); binOp .shl 3 (Value.int IntKind.i64 1) (Value.int IntKind.i64 10)) = some (.int .i64 1024) := id (by kernel_rfl)
theorem shl12 : prun Tryd.prog (do eqGuard .shl 3 (Operand.const (Value.int IntKind.i64 1)) (Operand.tmp 3) (Value.int IntKind.i64 1) (Value.int IntKind.i64 12); binOp .shl 3 (Value.int IntKind.i64 1) (Value.int IntKind.i64 12)) = some (.int .i64 4096) := id (by kernel_rfl)
theorem top_ok {D : Nat} (hD : D = 10 ∨ D = 12) (w : World) : C 41 #[.int .i64 D] w = some (.int .i64 ((2 : Int) ^ D - 1), w) := by
  refine f41.run rfl ?_
  rcases hD with rfl | rfl
  · have h := shl10
    have e : ((10 : Nat) : Int) = 10 := rfl
    have e2 : IntKind.i64.wrap 1023 = 1023 := rfl
    have e3 : ((2 : Int) ^ 10 - 1) = 1023 := rfl
    rw [e, e3]
    simp [f41, h, e2]
  · have h := shl12
    have e : ((12 : Nat) : Int) = 12 := rfl
    have e2 : IntKind.i64.wrap 4095 = 4095 := rfl
    have e3 : ((2 : Int) ^ 12 - 1) = 4095 := rfl
    rw [e, e3]
    simp [f41, h, e2]
theorem count_ok (W H D : Int) (al : Bool) (w : World) : ∃ w', C 26 #[sv W H D al] w = some (.int .i64 (pl al), w') ∧ w.grownBy w' none := by
  refine ⟨w.alloc (.cells #[.int .i64 W, .int .i64 H, .int .i64 D, .bool al] 27), f26.run rfl ?_, World.grownBy_alloc w _ none⟩
  cases al <;> simp [f26, box_any, Value.cells, addL, pl]
theorem wide_ok {W : Int} (H D : Int) (al : Bool) (h0 : 1 ≤ W) (h1 : W ≤ 4096) (p : Nat) (w : World) : ∃ w', C 27 #[sv W H D al, .int .i64 p] w = some (.int .i64 (wd W p), w') ∧ w.grownBy w' none := by
  refine ⟨w.alloc (.cells #[.int .i64 W, .int .i64 H, .int .i64 D, .bool al] 27), f27.run rfl ?_, World.grownBy_alloc w _ none⟩
  have a1 := rhalf_ok W (by omega) (by omega) (w.alloc (.cells #[.int .i64 W, .int .i64 H, .int .i64 D, .bool al] 27))
  by_cases c1 : p = 1
  · subst c1; simp [f27, box_any, Value.cells, addL, wd, a1]
  · by_cases c2 : p = 2
    · subst c2; simp [f27, box_any, Value.cells, addL, wd, a1]
    · have e1 : ¬ ((p : Int) = 1) := by omega
      have e2 : ¬ ((p : Int) = 2) := by omega
      simp [f27, box_any, Value.cells, addL, wd, c1, c2, e1, e2]
theorem rtotal_ok {W H : Int} (D : Int) (al : Bool) (h0 : 1 ≤ W) (h1 : W ≤ 4096) (h2 : 1 ≤ H) (h3 : H ≤ 4096) (w : World) : ∃ w', C 39 #[sv W H D al] w = some (.int .i64 (ts W H (pl al)), w') ∧ w.grownBy w' none := by
  obtain ⟨W0, hW0⟩ : ∃ W0, W0 = w.alloc (.cells #[.int .i64 W, .int .i64 H, .int .i64 D, .bool al] 27) := ⟨_, rfl⟩
  have g0 : w.grownBy W0 none := hW0 ▸ World.grownBy_alloc w _ none
  have b0 : Blk W0 w.heap.size 27 [.int .i64 W, .int .i64 H, .int .i64 D, .bool al] := hW0 ▸ Blk.new w 27 [.int .i64 W, .int .i64 H, .int .i64 D, .bool al]
  have hp := pl_le al
  have key := iter_down (f := f39.l0 C) (fun d st w2 => ∃ i : Nat, st = [.pointer (some ⟨w.heap.size, 0, none⟩), .int .i64 (ts W H i), .int .i64 i] ∧ i + d = pl al ∧ W0.grownBy w2 none)
    (fun r => ∃ w2, r = .exit 0 [.int .i64 (ts W H (pl al))] w2 ∧ W0.grownBy w2 none) (by
      rintro d st w2 ⟨i, rfl, hi, G⟩
      have b2 := b0.grown G (by simp)
      obtain ⟨w3, a3, g3⟩ := count_ok W H D al w2
      cases d with
      | zero =>
        obtain rfl : i = pl al := by omega
        exact .inr ⟨_, by simp [f39.l0, ld27b b2 rfl, a3], ⟨w3, rfl, grown_trans G g3 (by simp)⟩, by simp⟩
      | succ d =>
        obtain ⟨u, hu⟩ : ∃ u, u = w3.drew := ⟨_, rfl⟩
        have gu : w3.grownBy u none := hu ▸ grown_drew w3 none
        have bu := (b2.grown g3 (by simp)).grown gu (by simp)
        obtain ⟨w4, a4, g4⟩ := wide_ok H D al h0 h1 i u
        have b4 := bu.grown g4 (by simp)
        have hw := wd_le h0 h1 i
        have hm := prod_bound (a := wd W i) (b := H) (by omega) (by omega) (by omega) h3
        have ht := ts_le h0 h1 h2 h3 i
        have e1 : IntKind.i64.wrap (wd W i * H) = wd W i * H := wrap_i64 (by omega) (by omega)
        have e2 : IntKind.i64.wrap (ts W H i + wd W i * H) = ts W H (i + 1) := wrap_i64 (by omega) (by omega)
        have e3 : IntKind.i64.wrap ((i : Int) + 1) = ((i + 1 : Nat) : Int) := (wrap_i64 (by omega) (by omega)).trans (by omega)
        refine .inl ⟨d, _, w4, by omega, ?_, ⟨i + 1, rfl, by omega, grown_trans (grown_trans (grown_trans G g3 (by simp)) gu (by simp)) g4 (by simp)⟩⟩
        simp (disch := omega) [f39.l0, lt_t, ld27b b2 rfl, a3, ← hu, ld27b bu rfl, a4, addL, bu.cell_eq 1 rfl, b4.cell_eq 1 rfl, e1, e2, e3]) (pl al) _ W0 ⟨0, rfl, by omega, grown_refl _ _⟩
  obtain ⟨r, h4, w4, rfl, g4⟩ := key
  refine ⟨w4, f39.run rfl ?_, grown_trans g0 g4 (by simp)⟩
  simp [ts] at h4
  simp [f39, box_any, Value.cells, ← hW0, h4]
open Classical in
theorem rshaped_ok (W H D : Int) (al : Bool) (w : World) : ∃ w', C 25 #[sv W H D al] w = some (.int .i64 (if Shd W H D al then 0 else 61), w') ∧ w.grownBy w' none := by
  obtain ⟨W0, hW0⟩ : ∃ W0, W0 = w.alloc (.cells #[.int .i64 W, .int .i64 H, .int .i64 D, .bool al] 27) := ⟨_, rfl⟩
  have g0 : w.grownBy W0 none := hW0 ▸ World.grownBy_alloc w _ none
  have b0 : Blk W0 w.heap.size 27 [.int .i64 W, .int .i64 H, .int .i64 D, .bool al] := hW0 ▸ Blk.new w 27 [.int .i64 W, .int .i64 H, .int .i64 D, .bool al]
  by_cases c : 1 ≤ W ∧ W ≤ 4096 ∧ 1 ≤ H ∧ H ≤ 4096 ∧ (D = 10 ∨ D = 12)
  · obtain ⟨c1, c2, c3, c4, c5⟩ := c
    obtain ⟨w1, a3, g1⟩ := rtotal_ok D al c1 c2 c3 c4 W0
    refine ⟨w1, f25.run rfl ?_, grown_trans g0 g1 (by simp)⟩
    have q1 : (W < 1) = False := eq_false (by omega)
    have q2 : (4096 < W) = False := eq_false (by omega)
    have q3 : (H < 1) = False := eq_false (by omega)
    have q4 : (4096 < H) = False := eq_false (by omega)
    by_cases c6 : ts W H (pl al) ≤ 4194304
    · have hS : Shd W H D al := ⟨c1, c2, c3, c4, c5, c6⟩
      have q5 : (4194304 < ts W H (pl al)) = False := eq_false (by omega)
      rcases c5 with rfl | rfl <;>
      simp [f25, box_any, Value.cells, ← hW0, addL, b0.cell_eq 0 rfl, b0.cell_eq 1 rfl, b0.cell_eq 2 rfl, ld27b b0 rfl, q1, q2, q3, q4, q5, a3, hS]
    · have hS : ¬ Shd W H D al := fun h => c6 h.2.2.2.2.2
      have q5 : (4194304 < ts W H (pl al)) = True := eq_true (by omega)
      rcases c5 with rfl | rfl <;>
      simp [f25, box_any, Value.cells, ← hW0, addL, b0.cell_eq 0 rfl, b0.cell_eq 1 rfl, b0.cell_eq 2 rfl, ld27b b0 rfl, q1, q2, q3, q4, q5, a3, hS]
  · have hS : ¬ Shd W H D al := fun h => c ⟨h.1, h.2.1, h.2.2.1, h.2.2.2.1, h.2.2.2.2.1⟩
    refine ⟨W0, f25.run rfl ?_, g0⟩
    by_cases q1 : W < 1
    · simp [f25, box_any, Value.cells, ← hW0, addL, b0.cell_eq 0 rfl, b0.cell_eq 1 rfl, b0.cell_eq 2 rfl, q1, hS]
    · by_cases q2 : 4096 < W
      · simp [f25, box_any, Value.cells, ← hW0, addL, b0.cell_eq 0 rfl, b0.cell_eq 1 rfl, b0.cell_eq 2 rfl, q1, q2, hS]
      · by_cases q3 : H < 1
        · simp [f25, box_any, Value.cells, ← hW0, addL, b0.cell_eq 0 rfl, b0.cell_eq 1 rfl, b0.cell_eq 2 rfl, q1, q2, q3, hS]
        · by_cases q4 : 4096 < H
          · simp [f25, box_any, Value.cells, ← hW0, addL, b0.cell_eq 0 rfl, b0.cell_eq 1 rfl, b0.cell_eq 2 rfl, q1, q2, q3, q4, hS]
          · have d1 : ¬ D = 10 := fun h => c ⟨by omega, by omega, by omega, by omega, .inl h⟩
            have d2 : ¬ D = 12 := fun h => c ⟨by omega, by omega, by omega, by omega, .inr h⟩
            simp [f25, box_any, Value.cells, ← hW0, addL, b0.cell_eq 0 rfl, b0.cell_eq 1 rfl, b0.cell_eq 2 rfl, q1, q2, q3, q4, d1, d2, hS]
open Classical in
theorem beyond_ok {w : World} {D : Nat} (hD : D = 10 ∨ D = 12) {A : Option Addr} {c : Nat} {l : List Int} (hr : Rd w A (uv l)) (hl : l.length ≤ maxLen) (h0 : ∀ v ∈ l, 0 ≤ v ∧ v ≤ 65535) :
    ∃ w', C 28 #[.slice A l.length c, .int .i64 D] w = some (.bool (decide (∃ v ∈ l, (2 : Int) ^ D ≤ v)), w') ∧ w.grownBy w' none := by
  have hmx : (maxLen : Int) = 9223372036854775807 := by simp [maxLen]
  have key := iter_down (f := f28.l0 C) (fun d st w2 => ∃ i : Nat, st = [.slice A l.length c, .int .i64 D, .int .i64 i] ∧ i + d = l.length ∧ w.grownBy w2 none ∧ ∀ j v, j < i → l[j]? = some v → ¬ (2 : Int) ^ D ≤ v)
    (fun r => (∃ w2, r = .exit 0 [] w2 ∧ w.grownBy w2 none ∧ ¬ ∃ v ∈ l, (2 : Int) ^ D ≤ v) ∨ ∃ w2, r = .ret [.bool true] w2 ∧ w.grownBy w2 none ∧ ∃ v ∈ l, (2 : Int) ^ D ≤ v) (by
      rintro d st w2 ⟨i, rfl, hi, G, hno⟩
      cases d with
      | zero =>
        obtain rfl : i = l.length := by omega
        refine .inr ⟨_, by simp [f28.l0], .inl ⟨w2, rfl, G, ?_⟩, by simp⟩
        rintro ⟨v, hv, hle⟩
        obtain ⟨j, hj⟩ := List.getElem?_of_mem hv
        exact hno j v (List.getElem?_eq_some_iff.mp hj).1 hj hle
      | succ d =>
        have hil : i < l.length := by omega
        obtain ⟨v, hiv⟩ : ∃ v, l[i]? = some v := ⟨_, List.getElem?_eq_getElem hil⟩
        have huv : (uv l)[i]? = some (.int .u16 v) := by simp [uv, hiv]
        obtain ⟨v0, v1⟩ := h0 v (List.mem_of_getElem? hiv)
        obtain ⟨u, hu⟩ : ∃ u, u = w2.drew := ⟨_, rfl⟩
        have gu : w2.grownBy u none := hu ▸ grown_drew w2 none
        have Gu := grown_trans G gu (by simp)
        cases A with
        | none => have h : uv l = [] := hr; rw [h] at huv; simp at huv
        | some a =>
          have cl := hr.grown Gu i _ huv
          have ix := ix38 a l.length c .i64 i (by omega) (by omega)
          simp only [Int.toNat_natCast, Nat.mul_one] at ix
          have a1 := top_ok hD u
          have e2 : IntKind.i64.wrap v = v := wrap_i64 (by omega) (by omega)
          have e3 : IntKind.i64.wrap ((i : Int) + 1) = ((i + 1 : Nat) : Int) := (wrap_i64 (by omega) (by omega)).trans (by omega)
          by_cases hc : (2 : Int) ^ D ≤ v
          · refine .inr ⟨_, ?_, .inr ⟨u, rfl, Gu, v, List.mem_of_getElem? hiv, hc⟩, by simp⟩
            have q : ((2 : Int) ^ D - 1 < v) = True := eq_true (by omega)
            simp (disch := omega) [f28.l0, lt_t, ← hu, ix, cl, cv39_3, e2, a1, q]
          · refine .inl ⟨d, _, u, by omega, ?_, ⟨i + 1, rfl, by omega, Gu, fun j x hj hx => ?_⟩⟩
            · have q : ((2 : Int) ^ D - 1 < v) = False := eq_false (by omega)
              simp (disch := omega) [f28.l0, lt_t, ← hu, ix, cl, cv39_3, e2, a1, q, e3]
            · by_cases hji : j = i
              · subst hji
                rw [hiv] at hx
                cases hx
                exact hc
              · exact hno j x (by omega) hx) l.length _ w ⟨0, rfl, by omega, grown_refl _ _, fun j v hj => by omega⟩
  obtain ⟨r, h1, hr⟩ := key
  rcases hr with ⟨w2, rfl, G, hno⟩ | ⟨w2, rfl, G, hex⟩
  · refine ⟨w2, f28.run rfl ?_, G⟩
    simp only [show ((0 : Nat) : Int) = 0 from rfl] at h1
    rw [decide_eq_false hno]
    simp [f28, h1]
  · refine ⟨w2, f28.run rfl ?_, G⟩
    simp only [show ((0 : Nat) : Int) = 0 from rfl] at h1
    rw [decide_eq_true hex]
    simp [f28, h1]
end Go.Sh.YtacfghffojijaaaDoor

namespace Go.Sh.YtacfghffojijaaaDoor
open Go Go.Proofs Go.RowKit
set_option linter.unusedVariables false
set_option linter.unusedSimpArgs false
set_option maxRecDepth 100000
theorem rvalid_ok {W H D : Int} {al : Bool} {A : Option Addr} {c : Nat} {q : List Pl} {w : World} (hr : Rd w A (q.map Pl.v)) (hq : ∀ x ∈ q, x.ok w) (hlen : q.length ≤ maxLen) :
    ∃ w', C 18 #[fv W H D al A q.length c] w = some (.int .i64 (vcode W H D al q), w') ∧ w.grownBy w' none := by
  have hmx : (maxLen : Int) = 9223372036854775807 := by simp [maxLen]
  obtain ⟨W0, hW0⟩ : ∃ W0, W0 = w.alloc (.cells #[.int .i64 W, .int .i64 H, .int .i64 D, .bool al, .slice A q.length c] 30) := ⟨_, rfl⟩
  have g0 : w.grownBy W0 none := hW0 ▸ World.grownBy_alloc w _ none
  have b0 : Blk W0 w.heap.size 30 [.int .i64 W, .int .i64 H, .int .i64 D, .bool al, .slice A q.length c] := hW0 ▸ Blk.new w 30 [.int .i64 W, .int .i64 H, .int .i64 D, .bool al, .slice A q.length c]
  obtain ⟨w1, a1, g1⟩ := rshaped_ok W H D al W0
  have G1 := grown_trans g0 g1 (by simp)
  by_cases hS : Shd W H D al
  · rw [if_pos hS] at a1
    obtain ⟨h0, h1, h2, h3, hD, hts⟩ := hS
    obtain ⟨u, hu⟩ : ∃ u, u = w1.drew := ⟨_, rfl⟩
    have gu : w1.grownBy u none := hu ▸ grown_drew w1 none
    have b1 := b0.grown g1 (by simp)
    have bu := b1.grown gu (by simp)
    obtain ⟨w2, a2, g2⟩ := count_ok W H D al u
    have b2 := bu.grown g2 (by simp)
    have G2 := grown_trans (grown_trans G1 gu (by simp)) g2 (by simp)
    have hple := pl_le al
    by_cases hpl : q.length = pl al
    · have hplI : ((q.length : Int) = (pl al : Int)) = True := eq_true (by omega)
      have key := iter_down (f := f18.l0 C) (fun d st w3 => ∃ i : Nat, st = [.pointer (some ⟨w.heap.size, 0, none⟩), .int .i64 i] ∧ i + d = q.length ∧ w2.grownBy w3 none ∧ ∀ p x, p < i → q[p]? = some x → (x.l.length : Int) = wd W p * H)
        (fun r => (∃ w3, r = .exit 0 [.pointer (some ⟨w.heap.size, 0, none⟩)] w3 ∧ w2.grownBy w3 none ∧ ∀ p x, q[p]? = some x → (x.l.length : Int) = wd W p * H) ∨ ∃ w3, r = .ret [.int .i64 63] w3 ∧ w2.grownBy w3 none ∧ ∃ p x, q[p]? = some x ∧ (x.l.length : Int) ≠ wd W p * H) (by
          rintro d st w3 ⟨i, rfl, hi, G, hno⟩
          have b3 := b2.grown G (by simp)
          cases d with
          | zero =>
            obtain rfl : i = q.length := by omega
            exact .inr ⟨_, by simp [f18.l0, addL, b3.cell_eq 4 rfl], .inl ⟨w3, rfl, G, fun p x hp => hno p x (List.getElem?_eq_some_iff.mp hp).1 hp⟩, by simp⟩
          | succ d =>
            have hil : i < q.length := by omega
            obtain ⟨x, hix⟩ : ∃ x, q[i]? = some x := ⟨_, List.getElem?_eq_getElem hil⟩
            have G3 := grown_trans G2 G (by simp)
            obtain ⟨u3, hu3⟩ : ∃ u3, u3 = w3.drew := ⟨_, rfl⟩
            have gu3 : w3.grownBy u3 none := hu3 ▸ grown_drew w3 none
            have Gu3 := grown_trans G3 gu3 (by simp)
            have bu3 := b3.grown gu3 (by simp)
            obtain ⟨w4, a4, g4⟩ := wide_ok H D al h0 h1 i u3
            have b4 := bu3.grown g4 (by simp)
            obtain ⟨aA, rfl, ix, cl⟩ := plane_at (hr.grown Gu3) hix hlen c
            obtain ⟨aA', e', _, cl4⟩ := plane_at ((hr.grown Gu3).grown g4) hix hlen c
            cases e'
            have hwd := wd_le h0 h1 i
            have hm := prod_bound (a := wd W i) (b := H) (by omega) (by omega) (by omega) h3
            have e1 : IntKind.i64.wrap (wd W i * H) = wd W i * H := wrap_i64 (by omega) (by omega)
            have e3 : IntKind.i64.wrap ((i : Int) + 1) = ((i + 1 : Nat) : Int) := (wrap_i64 (by omega) (by omega)).trans (by omega)
            by_cases hc : (x.l.length : Int) = wd W i * H
            · refine .inl ⟨d, _, w4, by omega, ?_, ⟨i + 1, rfl, by omega, grown_trans (grown_trans G gu3 (by simp)) g4 (by simp), fun p y hp hy => ?_⟩⟩
              · simp (disch := omega) [f18.l0, lt_t, ix, cl, cl4, ← hu3, addL, ld27b bu3 rfl, a4, b3.cell_eq 4 rfl, bu3.cell_eq 4 rfl, b4.cell_eq 4 rfl, bu3.cell_eq 1 rfl, b4.cell_eq 1 rfl, e1, hc, e3]
              · by_cases hpi : p = i
                · subst hpi; rw [hix] at hy; cases hy; exact hc
                · exact hno p y (by omega) hy
            · refine .inr ⟨_, ?_, .inr ⟨w4, rfl, grown_trans (grown_trans G gu3 (by simp)) g4 (by simp), i, x, hix, hc⟩, by simp⟩
              simp (disch := omega) [f18.l0, lt_t, ix, cl, cl4, ← hu3, addL, ld27b bu3 rfl, a4, b3.cell_eq 4 rfl, bu3.cell_eq 4 rfl, b4.cell_eq 4 rfl, bu3.cell_eq 1 rfl, b4.cell_eq 1 rfl, e1, hc]) q.length _ w2 ⟨0, rfl, by omega, grown_refl _ _, fun p x hp => by omega⟩
      obtain ⟨r, h4, hcase⟩ := key
      rcases hcase with ⟨w3, rfl, g3, hall⟩ | ⟨w3, rfl, g3, hex⟩
      · -- samples
        have G3 := grown_trans G2 g3 (by simp)
        obtain ⟨D, rfl⟩ : ∃ Dn : Nat, D = Dn := ⟨D.toNat, by omega⟩
        have hDn : D = 10 ∨ D = 12 := by omega
        have key2 := iter_down (f := f18.l1 C) (fun d st w4 => ∃ i : Nat, st = [.pointer (some ⟨w.heap.size, 0, none⟩), .int .i64 i] ∧ i + d = q.length ∧ w3.grownBy w4 none ∧ ∀ p x, p < i → q[p]? = some x → ∀ v ∈ x.l, v < (2 : Int) ^ D)
          (fun r => (∃ w4, r = .exit 2 [] w4 ∧ w3.grownBy w4 none ∧ ∀ x ∈ q, ∀ v ∈ x.l, v < (2 : Int) ^ D) ∨ ∃ w4, r = .ret [.int .i64 64] w4 ∧ w3.grownBy w4 none ∧ ∃ x ∈ q, ∃ v ∈ x.l, (2 : Int) ^ D ≤ v) (by
            rintro d st w4 ⟨i, rfl, hi, G, hno⟩
            have b4 := (b2.grown g3 (by simp)).grown G (by simp)
            cases d with
            | zero =>
              obtain rfl : i = q.length := by omega
              refine .inr ⟨_, by simp [f18.l1, addL, b4.cell_eq 4 rfl], .inl ⟨w4, rfl, G, fun x hx => ?_⟩, by simp⟩
              obtain ⟨p, hp⟩ := List.getElem?_of_mem hx
              exact hno p x (List.getElem?_eq_some_iff.mp hp).1 hp
            | succ d =>
              have hil : i < q.length := by omega
              obtain ⟨x, hix⟩ : ∃ x, q[i]? = some x := ⟨_, List.getElem?_eq_getElem hil⟩
              have hxo := hq x (List.mem_of_getElem? hix)
              have G4 := grown_trans G3 G (by simp)
              obtain ⟨u4, hu4⟩ : ∃ u4, u4 = w4.drew := ⟨_, rfl⟩
              have gu4 : w4.grownBy u4 none := hu4 ▸ grown_drew w4 none
              have Gu4 := grown_trans G4 gu4 (by simp)
              have bu4 := b4.grown gu4 (by simp)
              obtain ⟨w5, a5, g5⟩ := beyond_ok hDn (c := x.c) ((hxo.rd).grown Gu4) (by have := hxo.len; simp [maxLen]; omega) (fun v hv => hxo.rng v hv)
              obtain ⟨aA, rfl, ix, cl⟩ := plane_at (hr.grown Gu4) hix hlen c
              have e3 : IntKind.i64.wrap ((i : Int) + 1) = ((i + 1 : Nat) : Int) := (wrap_i64 (by omega) (by omega)).trans (by omega)
              by_cases hc : ∃ v ∈ x.l, (2 : Int) ^ D ≤ v
              · rw [decide_eq_true hc] at a5
                refine .inr ⟨_, ?_, .inr ⟨w5, rfl, grown_trans (grown_trans G gu4 (by simp)) g5 (by simp), x, List.mem_of_getElem? hix, hc⟩, by simp⟩
                simp (disch := omega) [f18.l1, lt_t, ix, cl, ← hu4, addL, b4.cell_eq 4 rfl, bu4.cell_eq 4 rfl, bu4.cell_eq 2 rfl, a5]
              · rw [decide_eq_false hc] at a5
                refine .inl ⟨d, _, w5, by omega, ?_, ⟨i + 1, rfl, by omega, grown_trans (grown_trans G gu4 (by simp)) g5 (by simp), fun p y hp hy v hv => ?_⟩⟩
                · simp (disch := omega) [f18.l1, lt_t, ix, cl, ← hu4, addL, b4.cell_eq 4 rfl, bu4.cell_eq 4 rfl, bu4.cell_eq 2 rfl, a5, e3]
                · by_cases hpi : p = i
                  · subst hpi
                    rw [hix] at hy
                    cases hy
                    by_cases h2 : (2 : Int) ^ D ≤ v
                    · exact absurd ⟨v, hv, h2⟩ hc
                    · omega
                  · exact hno p y (by omega) hy v hv) q.length _ w3 ⟨0, rfl, by omega, grown_refl _ _, fun p x hp => by omega⟩
        obtain ⟨r, h5, hcase⟩ := key2
        have b3 := b2.grown g3 (by simp)
        have hS : Shd W H D al := ⟨h0, h1, h2, h3, hD, hts⟩
        have hn63 : ¬ ∃ p x, q[p]? = some x ∧ (x.l.length : Int) ≠ wd W p * H := fun ⟨p, x, hp, hne⟩ => hne (hall p x hp)
        have z0 : ((0 : Nat) : Int) = 0 := rfl
        rw [z0] at h4 h5
        rcases hcase with ⟨w4, rfl, g4, hw⟩ | ⟨w4, rfl, g4, hw⟩
        · refine ⟨w4, f18.run rfl ?_, grown_trans G3 g4 (by simp)⟩
          have hn64 : ¬ ∃ x ∈ q, ∃ v ∈ x.l, (2 : Int) ^ (D : Int).toNat ≤ v := fun ⟨x, hx, v, hv, h6⟩ => by have := hw x hx v hv; rw [Int.toNat_natCast] at h6; omega
          have hv : vcode W H D al q = 0 := by
            unfold vcode
            rw [if_neg (fun h => h hS), if_neg (fun h => h hpl), if_neg hn63, if_neg hn64]
          rw [hv]
          simp [f18, box_any, Value.cells, ← hW0, addL, ld27b b0 rfl, a1, ← hu, b1.cell_eq 4 rfl, bu.cell_eq 4 rfl, b2.cell_eq 4 rfl, ld27b b1 rfl, ld27b bu rfl, a2, hplI, h4, h5]
        · refine ⟨w4, f18.run rfl ?_, grown_trans G3 g4 (by simp)⟩
          have h64 : ∃ x ∈ q, ∃ v ∈ x.l, (2 : Int) ^ (D : Int).toNat ≤ v := by rw [Int.toNat_natCast]; exact hw
          have hv : vcode W H D al q = 64 := by
            unfold vcode
            rw [if_neg (fun h => h hS), if_neg (fun h => h hpl), if_neg hn63, if_pos h64]
          rw [hv]
          simp [f18, box_any, Value.cells, ← hW0, addL, ld27b b0 rfl, a1, ← hu, b1.cell_eq 4 rfl, bu.cell_eq 4 rfl, b2.cell_eq 4 rfl, ld27b b1 rfl, ld27b bu rfl, a2, hplI, h4, h5]
      · refine ⟨w3, f18.run rfl ?_, grown_trans G2 g3 (by simp)⟩
        have hS : Shd W H D al := ⟨h0, h1, h2, h3, hD, hts⟩
        have hv : vcode W H D al q = 63 := by
          unfold vcode
          rw [if_neg (fun h => h hS), if_neg (fun h => h hpl), if_pos hex]
        rw [hv]
        have z0 : ((0 : Nat) : Int) = 0 := rfl
        rw [z0] at h4
        simp [f18, box_any, Value.cells, ← hW0, addL, ld27b b0 rfl, a1, ← hu, b1.cell_eq 4 rfl, bu.cell_eq 4 rfl, b2.cell_eq 4 rfl, ld27b b1 rfl, ld27b bu rfl, a2, hplI, h4]
    · refine ⟨w2, f18.run rfl ?_, G2⟩
      have hS : Shd W H D al := ⟨h0, h1, h2, h3, hD, hts⟩
      have hv : vcode W H D al q = 62 := by
        unfold vcode
        rw [if_neg (fun h => h hS), if_pos hpl]
      have hne : ¬ ((q.length : Int) = (pl al : Int)) := by omega
      rw [hv]
      simp [f18, box_any, Value.cells, ← hW0, addL, ld27b b0 rfl, a1, ← hu, b1.cell_eq 4 rfl, bu.cell_eq 4 rfl, b2.cell_eq 4 rfl, ld27b b1 rfl, ld27b bu rfl, a2, hne]
  · rw [if_neg hS] at a1
    refine ⟨w1, f18.run rfl ?_, G1⟩
    have hv : vcode W H D al q = 61 := by
      unfold vcode
      rw [if_pos hS]
    rw [hv]
    simp [f18, box_any, Value.cells, ← hW0, addL, ld27b b0 rfl, a1]
end Go.Sh.YtacfghffojijaaaDoor

namespace Go.Sh.YtacfghffojijaaaDoor
open Go Go.Proofs Go.RowKit
set_option linter.unusedVariables false
set_option linter.unusedSimpArgs false
set_option maxRecDepth 100000
section
variable {part of : Int} (hof : 1 ≤ of) (hof' : of ≤ 101) (hp0 : 0 ≤ part) (hp1 : part ≤ of)
variable {w0 : World} {A B : Option Addr} {ca cb : Nat} {qa qb : List Pl} (ra : Rd w0 A (qa.map Pl.v)) (rb : Rd w0 B (qb.map Pl.v)) (oa : ∀ x ∈ qa, x.ok w0) (ob : ∀ x ∈ qb, x.ok w0) {a b : Nat} {W H D W' H' D' : Int} {al al' : Bool}
variable (la : qa.length ≤ 4) (lb : qb.length = qa.length) (heq : ∀ (p : Nat) (x y : Pl), qa[p]? = some x → qb[p]? = some y → x.l.length = y.l.length)
include hof hof' hp0 hp1 ra rb oa ob la lb heq
theorem rmix_l0 (v8 v11 : Value) {i : Nat} {x y : Pl} (hx : qa[i]? = some x) (hy : qb[i]? = some y) {base : Nat} (hb0 : w0.heap.size ≤ base) {P : Option Addr} {xs : List Value} {w : World} (G0 : w0.grownBy w none)
    (o : w.ownsRow base 39 1 (.slice P x.l.length x.l.length) x.l.length xs) (ba : Blk w a 30 (fcs W H D al (.slice A qa.length ca))) (bb : Blk w b 30 (fcs W' H' D' al' (.slice B qb.length cb))) :
    ∃ w', iter (f10.l0 C) [.int .i64 part, .int .i64 of, .pointer (some ⟨a, 0, none⟩), .pointer (some ⟨b, 0, none⟩), v8, v11, .int .i64 i, .slice P x.l.length x.l.length, .int .i64 0] w = some (.exit 2 [.int .i64 part, .int .i64 of, .pointer (some ⟨a, 0, none⟩), .pointer (some ⟨b, 0, none⟩), v8, v11, .int .i64 i, .slice P x.l.length x.l.length] w') ∧
      w'.ownsRow base 39 1 (.slice P x.l.length x.l.length) x.l.length (uv (mixl part of x.l y.l)) ∧ Grew (fun k => (Value.slice P x.l.length x.l.length).ownBlock = some k) w w' := by
  have hmx : (maxLen : Int) = 9223372036854775807 := by simp [maxLen]
  have hxy := heq i x y hx hy
  have hml := mixl_length part of hxy
  have hxo := oa x (List.mem_of_getElem? hx)
  have hlen := hxo.len
  have hxs0 : xs.length = x.l.length := by simpa using o.1
  have key := iter_down (f := f10.l0 C) (fun d st w1 => ∃ (j : Nat) (xs' : List Value), st = [.int .i64 part, .int .i64 of, .pointer (some ⟨a, 0, none⟩), .pointer (some ⟨b, 0, none⟩), v8, v11, .int .i64 i, .slice P x.l.length x.l.length, .int .i64 j] ∧ j + d = x.l.length ∧ xs'.length = d ∧
      w1.ownsRow base 39 1 (.slice P x.l.length x.l.length) x.l.length ((uv (mixl part of x.l y.l)).take j ++ xs') ∧ Grew (fun k => (Value.slice P x.l.length x.l.length).ownBlock = some k) w w1)
    (fun r => ∃ w1, r = .exit 2 [.int .i64 part, .int .i64 of, .pointer (some ⟨a, 0, none⟩), .pointer (some ⟨b, 0, none⟩), v8, v11, .int .i64 i, .slice P x.l.length x.l.length] w1 ∧ w1.ownsRow base 39 1 (.slice P x.l.length x.l.length) x.l.length (uv (mixl part of x.l y.l)) ∧ Grew (fun k => (Value.slice P x.l.length x.l.length).ownBlock = some k) w w1) (by
      rintro d st w1 ⟨j, xs', rfl, hj, hxs, E, G⟩
      cases d with
      | zero =>
        obtain rfl : j = x.l.length := by omega
        have : xs' = [] := by simpa using hxs
        subst this
        have ht : (uv (mixl part of x.l y.l)).take x.l.length = uv (mixl part of x.l y.l) := List.take_of_length_le (by simp [uv, hml])
        rw [ht, List.append_nil] at E
        exact .inr ⟨_, by simp [f10.l0], ⟨w1, rfl, E, G⟩, by simp⟩
      | succ d =>
        cases xs' with
        | nil => simp at hxs
        | cons z xs' =>
          have hjl : j < x.l.length := by omega
          have hjy : j < y.l.length := by omega
          obtain ⟨s, hs⟩ : ∃ s, x.l[j]? = some s := ⟨_, List.getElem?_eq_getElem hjl⟩
          obtain ⟨t, ht⟩ : ∃ t, y.l[j]? = some t := ⟨_, List.getElem?_eq_getElem hjy⟩
          obtain ⟨s0, s1⟩ := hxo.rng s (List.mem_of_getElem? hs)
          obtain ⟨t0, t1⟩ := (ob y (List.mem_of_getElem? hy)).rng t (List.mem_of_getElem? ht)
          obtain ⟨u, hu⟩ : ∃ u, u = w1.drew := ⟨_, rfl⟩
          have gu : w1.grownBy u none := hu ▸ grown_drew w1 none
          have Gall : Grew (fun k => base ≤ k) w u := (G.weak fun k hk => .inl (o.lt k hk).1).step (grew_new gu)
          have G0u : w0.grownBy u none := ((grew_new (S := fun k => base ≤ k) G0).step Gall).none2 hb0
          have bau : Blk u a 30 (fcs W H D al (.slice A qa.length ca)) := (ba.grew G (fun e => own_blk_ne o ba (by decide) e)).grown gu (by simp)
          have bbu : Blk u b 30 (fcs W' H' D' al' (.slice B qb.length cb)) := (bb.grew G (fun e => own_blk_ne o bb (by decide) e)).grown gu (by simp)
          obtain ⟨aA, aX, e1, i1, c1, k1, d1⟩ := at_ok (ra.grown G0u) (fun x hx => (oa x hx).grown G0u) hx hjl (by omega) hs ca
          obtain ⟨aB, aY, e2, i2, c2, k2, d2⟩ := at_ok (rb.grown G0u) (fun x hx => (ob x hx).grown G0u) hy hjy (by omega) ht cb
          subst e1
          subst e2
          have E' := own_new E gu
          obtain ⟨pa, w2, e, hba, st2, o2, g2⟩ := own_store (P := Tryd.prog) E' (t := 39) inf39 size39 hjl (v := .int .u16 (mv part of s t)) rfl rfl
          subst e
          have hset : ((uv (mixl part of x.l y.l)).take j ++ z :: xs').set j (.int .u16 (mv part of s t)) = (uv (mixl part of x.l y.l)).take (j + 1) ++ xs' := by
            have hm : (uv (mixl part of x.l y.l))[j]? = some (.int .u16 (mv part of s t)) := by
              unfold uv mixl
              rw [List.getElem?_map, List.getElem?_zipWith, hs, ht]
              rfl
            have hlj : ((uv (mixl part of x.l y.l)).take j).length = j := by simp [uv, hml]; omega
            rw [List.set_append_right _ _ (by omega), hlj, Nat.sub_self, List.set_cons_zero, List.take_add_one, hm]
            simp
          rw [hset] at o2
          have i5 := ix38 pa x.l.length x.l.length .i64 j (by omega) (by omega)
          simp only [Int.toNat_natCast, Nat.mul_one] at i5
          have m1 := prodb (a := s) (b := of - part) (m := 65535) (k := 101) s0 s1 (by omega) (by omega) (by omega)
          have m2 := prodb (a := t) (b := part) (m := 65535) (k := 101) t0 t1 hp0 (by omega) (by omega)
          have e1 : IntKind.i64.wrap (of - part) = of - part := wrap_i64 (by omega) (by omega)
          have e2 : IntKind.i64.wrap s = s := wrap_i64 (by omega) (by omega)
          have e2' : IntKind.i64.wrap t = t := wrap_i64 (by omega) (by omega)
          have e3 : IntKind.i64.wrap (s * (of - part)) = s * (of - part) := wrap_i64 (by omega) (by omega)
          have e4 : IntKind.i64.wrap (t * part) = t * part := wrap_i64 (by omega) (by omega)
          have e5 : IntKind.i64.wrap (s * (of - part) + t * part) = s * (of - part) + t * part := wrap_i64 (by omega) (by omega)
          have f1 : of.tdiv 2 = of / 2 := Int.tdiv_eq_ediv_of_nonneg (by omega)
          have e6 : IntKind.i64.wrap (of / 2) = of / 2 := wrap_i64 (by omega) (by omega)
          have e7 : IntKind.i64.wrap (s * (of - part) + t * part + of / 2) = s * (of - part) + t * part + of / 2 := wrap_i64 (by omega) (by omega)
          have f2 : (s * (of - part) + t * part + of / 2).tdiv of = (s * (of - part) + t * part + of / 2) / of := Int.tdiv_eq_ediv_of_nonneg (by omega)
          have hle : (s * (of - part) + t * part + of / 2) / of ≤ s * (of - part) + t * part + of / 2 := Int.ediv_le_self _ (by omega)
          have hge : 0 ≤ (s * (of - part) + t * part + of / 2) / of := Int.ediv_nonneg (by omega) (by omega)
          have e8 : IntKind.i64.wrap ((s * (of - part) + t * part + of / 2) / of) = (s * (of - part) + t * part + of / 2) / of := wrap_i64 (by omega) (by omega)
          have hmv : mv part of s t = IntKind.u16.wrap ((s * (of - part) + t * part + of / 2) / of) := by unfold mv; rw [f1, f2]
          rw [hmv] at st2
          have ne0 : of ≠ 0 := by omega
          have e9 : IntKind.i64.wrap ((j : Int) + 1) = ((j + 1 : Nat) : Int) := (wrap_i64 (by omega) (by omega)).trans (by omega)
          refine .inl ⟨d, _, w2, by omega, ?_, ⟨j + 1, xs', rfl, by omega, by simpa using hxs, o2, (G.step (grew_new gu)).step (grew_of g2 fun k hk => .inl hk)⟩⟩
          simp (disch := omega) [f10.l0, lt_t, ← hu, addL, bau.cell_eq 4 rfl, bbu.cell_eq 4 rfl, i1, i2, k1, k2, i5, c1, c2, d1, d2, cv39_3, e1, e2, e2', e3, e4, e5, bin_quo, f1, e6, e7, ne0, f2, e8, cv3_39, st2, e9]) x.l.length _ w ⟨0, xs, rfl, by omega, hxs0, by simpa using o, Grew.refl _ _⟩
  obtain ⟨r, h1, w1, rfl, E1, G1⟩ := key
  exact ⟨w1, h1, E1, G1⟩
theorem rmix_l1 {f : Nat} (hsm : ∀ x ∈ qa, x.l.length ≤ 140737488355328) (v8 : Value) {w1 : World} (G01 : w0.grownBy w1 none) (hfw : w0.heap.size ≤ f) :
    ∀ (d : Nat) (st : List Value) (w : World), (∃ (i : Nat) (V : Value) (q : List (Value × List Value)), st = [.int .i64 part, .int .i64 of, .pointer (some ⟨a, 0, none⟩), .pointer (some ⟨b, 0, none⟩), v8, .pointer (some ⟨f, 0, none⟩), .int .i64 i] ∧ i + d = qa.length ∧ q.length = i ∧
        Mid part of qa qb q i ∧ Fr w w1.heap.size V q ∧ Blk w f 30 (fcs W H D al V) ∧ Blk w a 30 (fcs W H D al (.slice A qa.length ca)) ∧ Blk w b 30 (fcs W' H' D' al' (.slice B qb.length cb)) ∧ a ≠ f ∧ b ≠ f ∧ Grew (fun k => k = f) w1 w) →
    ∃ r, iter (f10.l1 C) st w = some r ∧ ∃ V q w', r = .exit 0 [v8, .pointer (some ⟨f, 0, none⟩)] w' ∧ q.length = qa.length ∧ Mid part of qa qb q qa.length ∧ Fr w' w1.heap.size V q ∧ Blk w' f 30 (fcs W H D al V) ∧ Grew (fun k => k = f) w1 w' := by
  refine iter_down _ _ ?_
  rintro d st w ⟨i, V, q, rfl, hi, hq, mid, F, bf, ba, bb, naf, nbf, G⟩
  have hmx : (maxLen : Int) = 9223372036854775807 := by simp [maxLen]
  cases d with
  | zero =>
    obtain rfl : i = qa.length := by omega
    exact .inr ⟨_, by simp [f10.l1, addL, ba.cell_eq 4 rfl], ⟨V, q, w, rfl, hq, mid, F, bf, G⟩, by simp⟩
  | succ d =>
    have hil : i < qa.length := by omega
    obtain ⟨x, hx⟩ : ∃ x, qa[i]? = some x := ⟨_, List.getElem?_eq_getElem hil⟩
    obtain ⟨y, hy⟩ : ∃ y, qb[i]? = some y := ⟨_, List.getElem?_eq_getElem (by omega)⟩
    have hxy := heq i x y hx hy
    have hml := mixl_length part of hxy
    have G0 : w0.grownBy w none := ((grew_new (S := fun k => k = f) G01).step G).toNew fun k hk => by omega
    obtain ⟨aA, rfl, ix, cl⟩ := plane_at (ra.grown G0) hx (by omega) ca
    have hbig := hsm x (List.mem_of_getElem? hx)
    obtain ⟨w2, m1, m2, m3⟩ := mk38 (w := w) w.heap.size x.l.length (by omega) (by simp [maxLen]; omega) (Nat.le_refl _)
    rw [made_samples] at m2
    have hs0 : w0.heap.size ≤ w.heap.size := G0.size
    obtain ⟨w3, l3, o3, G3⟩ := rmix_l0 hof hof' hp0 hp1 ra rb oa ob la lb heq v8 (.pointer (some ⟨f, 0, none⟩)) hx hy hs0 (grown_trans G0 m3 (by simp)) m2 (ba.grown m3 (by simp)) (bb.grown m3 (by simp))
    have g3 : w.grownBy w3 none := ((grew_new (S := fun k => w.heap.size ≤ k) m3).step (G3.weak fun k hk => .inl (by simp [Value.ownBlock] at hk; omega))).toNew fun _ h => h
    have b3f := bf.grown g3 (by simp)
    have F3 := F.new g3
    have Gw3 := G.step (grew_new g3)
    have hlr : (uv (mixl part of x.l y.l)).length = x.l.length := by simp [uv, hml]
    obtain ⟨V', w4, w5, p1, p2, F5, b5f, G5, cV, k5⟩ := F3.push b3f (p := (.slice (some ⟨w.heap.size, 0, none⟩) x.l.length x.l.length, uv (mixl part of x.l y.l))) (by
        show w3.ownsRow w1.heap.size 39 1 (.slice (some ⟨w.heap.size, 0, none⟩) x.l.length x.l.length) (uv (mixl part of x.l y.l)).length (uv (mixl part of x.l y.l)); rw [hlr]; exact own_base o3 G.size) (fun k hk hf => by
      have h1 := F.pl.ge hf
      simp [Value.ownBlock] at hk
      omega) (by omega) Gw3.size
    have e3 : IntKind.i64.wrap ((i : Int) + 1) = ((i + 1 : Nat) : Int) := (wrap_i64 (by omega) (by omega)).trans (by omega)
    have fb : ∀ {c : Nat} {cs : List Value}, Blk w c 30 cs → c ≠ f → Blk w5 c 30 cs := fun hb hne => (hb.grown g3 (by simp)).grew G5 (by
      rintro (e | e)
      · exact hne e
      · exact own_blk_ne F3.row (hb.grown g3 (by simp)) (by decide) e)
    refine .inl ⟨d, _, w5, by omega, ?_, ⟨i + 1, V', q ++ [(.slice (some ⟨w.heap.size, 0, none⟩) x.l.length x.l.length, uv (mixl part of x.l y.l))], rfl, by omega, by simp [hq], ?_, F5, b5f, fb ba naf, fb bb nbf, naf, nbf, ?_⟩⟩
    · simp only at p1
      simp (disch := omega) [f10.l1, lt_t, addL, ba.cell_eq 4 rfl, ix, cl, m1, l3, b3f.cell_eq 4 rfl, bs28_1, p1, p2, e3]
    · intro p r x' y' hp hx' hy'
      by_cases hpq : p < q.length
      · rw [List.getElem?_append_left hpq] at hp
        obtain ⟨h1, h2, h3⟩ := mid p r x' y' hp hx' hy'
        exact ⟨h1, h2, fun _ => h3 (by omega)⟩
      · have hpi : p = i := by have := (List.getElem?_eq_some_iff.mp hp).1; simp at this; omega
        subst hpi
        rw [List.getElem?_append_right (by omega), show p - q.length = 0 by omega] at hp
        simp at hp
        rw [hx] at hx'
        rw [hy] at hy'
        cases hx'
        cases hy'
        subst hp
        exact ⟨⟨_, rfl⟩, hlr, fun _ => rfl⟩
    · exact Gw3.trans G5 fun k hk => by
        rcases hk with rfl | hk
        · exact .inl rfl
        · exact .inr (F3.row.lt k hk).1
end
theorem rmix_ok {part of : Int} (hof : 1 ≤ of) (hof' : of ≤ 101) (hp0 : 0 ≤ part) (hp1 : part ≤ of) {w : World} {W H D : Int} {al : Bool} {A : Option Addr} {ca : Nat} {qa : List Pl} {W' H' D' : Int} {al' : Bool} {B : Option Addr} {cb : Nat} {qb : List Pl}
    (ra : Rd w A (qa.map Pl.v)) (rb : Rd w B (qb.map Pl.v)) (oa : ∀ x ∈ qa, x.ok w) (ob : ∀ x ∈ qb, x.ok w) (la : qa.length ≤ maxLen) (lb : qb.length ≤ maxLen) :
    ∃ v w', C 10 #[fv W H D al A qa.length ca, fv W' H' D' al' B qb.length cb, .int .i64 part, .int .i64 of] w = some (.tuple #[v, .int .i64 (mcode W H D al qa W' H' D' al' qb)], w') ∧ w.grownBy w' none ∧
      ((mcode W H D al qa W' H' D' al' qb ≠ 0 ∧ v = fv 0 0 0 false none 0 0) ∨ (mcode W H D al qa W' H' D' al' qb = 0 ∧ ∃ AV cV q, v = fv W H D al AV q.length cV ∧ q.length = qa.length ∧ Mid part of qa qb q qa.length ∧ Fr w' w.heap.size (.slice AV q.length cV) q)) := by
  obtain ⟨W0, hW0⟩ : ∃ W0, W0 = w.alloc (.cells #[.int .i64 W, .int .i64 H, .int .i64 D, .bool al, .slice A qa.length ca] 30) := ⟨_, rfl⟩
  have g0 : w.grownBy W0 none := hW0 ▸ World.grownBy_alloc w _ none
  have b0 : Blk W0 w.heap.size 30 (fcs W H D al (.slice A qa.length ca)) := hW0 ▸ Blk.new w 30 (fcs W H D al (.slice A qa.length ca))
  obtain ⟨W1, hW1⟩ : ∃ W1, W1 = W0.alloc (.cells #[.int .i64 W', .int .i64 H', .int .i64 D', .bool al', .slice B qb.length cb] 30) := ⟨_, rfl⟩
  have g1 : W0.grownBy W1 none := hW1 ▸ World.grownBy_alloc W0 _ none
  have b1 : Blk W1 W0.heap.size 30 (fcs W' H' D' al' (.slice B qb.length cb)) := hW1 ▸ Blk.new W0 30 (fcs W' H' D' al' (.slice B qb.length cb))
  obtain ⟨W2, hW2⟩ : ∃ W2, W2 = W1.alloc (.cells #[.int .i64 0, .int .i64 0, .int .i64 0, .bool false, .slice none 0 0] 30) := ⟨_, rfl⟩
  have g2 : W1.grownBy W2 none := hW2 ▸ World.grownBy_alloc W1 _ none
  have b2 : Blk W2 W1.heap.size 30 (fcs 0 0 0 false (.slice none 0 0)) := hW2 ▸ Blk.new W1 30 (fcs 0 0 0 false (.slice none 0 0))
  have hs0 : W0.heap.size = w.heap.size + 1 := by rw [hW0]; simp
  have hs1 : W1.heap.size = w.heap.size + 1 + 1 := by rw [hW1]; simp [hs0]
  have ba2 := (b0.grown g1 (by simp)).grown g2 (by simp)
  have bb2 := b1.grown g2 (by simp)
  have G2 : w.grownBy W2 none := grown_trans (grown_trans g0 g1 (by simp)) g2 (by simp)
  have cond1 : (of < 1) = False := eq_false (by omega)
  have cond2 : (101 < of) = False := eq_false (by omega)
  have cond3 : (part < 0) = False := eq_false (by omega)
  have cond4 : (of < part) = False := eq_false (by omega)
  obtain ⟨w3, a3, g3⟩ := rvalid_ok (W := W) (H := H) (D := D) (al := al) (c := ca) (ra.grown G2) (fun x hx => (oa x hx).grown G2) la
  have G3 := grown_trans G2 g3 (by simp)
  have br3 := b2.grown g3 (by simp)
  have ba3 := ba2.grown g3 (by simp)
  have bb3 := bb2.grown g3 (by simp)
  have clear : ∀ {u : World}, w.grownBy u none → Blk u W1.heap.size 30 (fcs 0 0 0 false (.slice none 0 0)) → ∃ u', erun Tryd.prog (Instr.storeAt 30 (.pointer (some ⟨W1.heap.size, 0, none⟩)) (fv 0 0 0 false none 0 0)) u = some ((), u') ∧ Blk u' W1.heap.size 30 (fcs 0 0 0 false (.slice none 0 0)) ∧ w.grownBy u' none := fun G b => by
    obtain ⟨u', s, b', g⟩ := st30 b rfl 0 0 0 false none 0 0
    exact ⟨u', s, b', grown_trans G g fun k hk => by cases hk; omega⟩
  by_cases va : vcode W H D al qa = 0
  · obtain ⟨w4, a4, g4⟩ := rvalid_ok (W := W') (H := H') (D := D') (al := al') (c := cb) (rb.grown G3) (fun x hx => (ob x hx).grown G3) lb
    have G4 := grown_trans G3 g4 (by simp)
    have br4 := br3.grown g4 (by simp)
    have ba4 := ba3.grown g4 (by simp)
    have bb4 := bb3.grown g4 (by simp)
    by_cases vb : vcode W' H' D' al' qb = 0
    · by_cases hsh : W = W' ∧ H = H' ∧ D = D' ∧ al = al'
      · obtain ⟨rfl, rfl, rfl, rfl⟩ := hsh
        have hm : mcode W H D al qa W H D al qb = 0 := by unfold mcode; rw [if_neg (fun h => h va), if_neg (fun h => h vb), if_pos ⟨rfl, rfl, rfl, rfl⟩]
        obtain ⟨hS, hla, hea, _⟩ := vcode_zero va
        obtain ⟨_, hlb, heb, _⟩ := vcode_zero vb
        have hle := pl_le al
        obtain ⟨W5, w6, a5, a6, b6, g6⟩ := hold w4 W H D al none 0 0
        have G6 := grown_trans G4 g6 (by simp)
        have ba6 := ba4.grown g6 (by simp)
        have bb6 := bb4.grown g6 (by simp)
        have br6 := br4.grown g6 (by simp)
        have l4 := br4.lt
        have s4 := G4.size
        obtain ⟨r, h7, V, q, w7, rfl, hq, mid, F7, b7, G7⟩ := rmix_l1 hof hof' hp0 hp1 ra rb oa ob (by omega) (by omega) (fun p x y hx hy => by have h1 := hea p x hx; have h2 := heb p y hy; omega) (ca := ca) (cb := cb) (a := w.heap.size) (b := W0.heap.size) (W := W) (H := H) (D := D) (al := al) (W' := W) (H' := H) (D' := D) (al' := al) (f := w4.heap.size) (fun x hx => by
          obtain ⟨p, hp⟩ := List.getElem?_of_mem hx
          have h1 := hea p x hp
          have h2 := wd_le hS.1 hS.2.1 p
          have h3 := prod_bound (a := wd W p) (b := H) (by omega) (by omega) (by have := hS.2.2.1; omega) hS.2.2.2.1
          omega) (.pointer (some ⟨W1.heap.size, 0, none⟩)) G6 s4 qa.length _ w6 ⟨0, .slice none 0 0, [], rfl, by omega, rfl, (fun p r x y hr => by simp at hr), ⟨World.ownsRow_nil _ _ _ _, Rows.nil⟩, b6, ba6, bb6, by omega, by omega, Grew.refl _ _⟩
        have br7 := br6.grew G7 (fun e => by omega)
        obtain ⟨AV, cV, rfl, _⟩ := own_form F7.row
        obtain ⟨w8, s8, b8, g8⟩ := st30 br7 rfl W H D al AV q.length cV
        have G7' : w.grownBy w7 none := ((grew_new (S := fun k => w.heap.size ≤ k) G6).step (G7.weak fun k hk => .inl (by omega))).toNew fun _ h => h
        have F8 := F7.grew (grew_of (S := fun k => k = W1.heap.size) g8 fun k hk => by cases hk; exact .inl rfl) fun k hk e => F7.ne_blk br7 (by decide) (by decide) (e ▸ hk)
        have F8' : Fr w8 w.heap.size (.slice AV q.length cV) q := ⟨own_base F8.row G6.size, ⟨fun p hp => own_base (F8.pl.own p hp) G6.size, F8.pl.dis⟩⟩
        refine ⟨fv W H D al AV q.length cV, w8, f10.run rfl ?_, grown_trans G7' g8 fun k hk => by cases hk; omega, .inr ⟨hm, AV, cV, q, rfl, hq, mid, F8'⟩⟩
        rw [hm]
        rw [va] at a3
        rw [vb] at a4
        simp only [f10]
        simp only [show ((0 : Nat) : Int) = 0 from rfl] at h7
        simp [box_any, Value.cells, ← hW0, ← hW1, alloc30 W1, ← hW2, cond1, cond2, cond3, cond4, ld30b ba2, a3, ld30b bb3, a4, addL, ld27b ba4 rfl, ld27b bb4 rfl, build30, a5, a6, h7, ld30b b7, s8, loads_two b8]
      · have hm : mcode W H D al qa W' H' D' al' qb = 204 := by unfold mcode; rw [if_neg (fun h => h va), if_neg (fun h => h vb), if_neg hsh]
        obtain ⟨w9, s9, b9, g9⟩ := clear G4 br4
        refine ⟨fv 0 0 0 false none 0 0, w9, f10.run rfl ?_, g9, .inl ⟨by rw [hm]; decide, rfl⟩⟩
        rw [hm]
        rw [va] at a3
        rw [vb] at a4
        have hne : (W == W' && (H == H' && (D == D' && al == al'))) = false := by
          apply Bool.eq_false_iff.mpr
          intro h
          simp only [Bool.and_eq_true, beq_iff_eq] at h
          exact hsh h
        have hne' : (W == W' && H == H' && D == D' && al == al') = false := by rw [Bool.and_assoc, Bool.and_assoc]; exact hne
        simp only [f10]
        simp [box_any, Value.cells, ← hW0, ← hW1, alloc30 W1, ← hW2, cond1, cond2, cond3, cond4, ld30b ba2, a3, ld30b bb3, a4, addL, ld27b ba4 rfl, ld27b bb4 rfl, hne, hne', build30z, s9, loads_two b9, - Bool.and_eq_true]
    · have hm : mcode W H D al qa W' H' D' al' qb = vcode W' H' D' al' qb := by unfold mcode; rw [if_neg (fun h => h va), if_pos vb]
      obtain ⟨w9, s9, b9, g9⟩ := clear G4 br4
      refine ⟨fv 0 0 0 false none 0 0, w9, f10.run rfl ?_, g9, .inl ⟨by rw [hm]; exact vb, rfl⟩⟩
      rw [hm]
      rw [va] at a3
      simp only [f10]
      simp [box_any, Value.cells, ← hW0, ← hW1, alloc30 W1, ← hW2, cond1, cond2, cond3, cond4, ld30b ba2, a3, ld30b bb3, a4, vb, build30z, s9, loads_two b9]
  · have hm : mcode W H D al qa W' H' D' al' qb = vcode W H D al qa := by unfold mcode; rw [if_pos va]
    obtain ⟨w9, s9, b9, g9⟩ := clear G3 br3
    refine ⟨fv 0 0 0 false none 0 0, w9, f10.run rfl ?_, g9, .inl ⟨by rw [hm]; exact va, rfl⟩⟩
    rw [hm]
    simp only [f10]
    simp [box_any, Value.cells, ← hW0, ← hW1, alloc30 W1, ← hW2, cond1, cond2, cond3, cond4, ld30b ba2, a3, va, build30z, s9, loads_two b9]
end Go.Sh.YtacfghffojijaaaDoor

namespace Go.Sh.YtacfghffojijaaaDoor
open Go Go.Proofs Go.RowKit
set_option linter.unusedVariables false
set_option linter.unusedSimpArgs false
set_option maxRecDepth 100000
/-- how many samples the first planes have, each counted once more -/
def wt (q : List Pl) : Nat → Int
  | 0 => 1
  | k + 1 => wt q k + 1 + ((q[k]?.map fun x => (x.l.length : Int)).getD 0)
theorem wt_pos (q : List Pl) (k : Nat) : (k : Int) + 1 ≤ wt q k := by
  induction k with
  | zero => simp [wt]
  | succ k ih =>
    simp only [wt]
    cases h : q[k]? with
    | none => simp; omega
    | some x => simp; omega
theorem wt_mono (q : List Pl) {i j : Nat} (h : i ≤ j) : wt q i ≤ wt q j := by
  induction j with
  | zero =>
    have : i = 0 := by omega
    rw [this]
    exact Int.le_refl _
  | succ j ih =>
    by_cases hij : i = j + 1
    · subst hij; exact Int.le_refl _
    · have := ih (by omega)
      simp only [wt]
      cases h : q[j]? with
      | none => simp; omega
      | some x => simp; omega
/-- the weight: it is exact, where it is at most the bound; else it is above the bound -/
theorem weight_ok {W H D : Int} {al : Bool} {A : Option Addr} {c : Nat} {q : List Pl} {w : World} (hr : Rd w A (q.map Pl.v)) (hq : ∀ x ∈ q, x.ok w) (hlen : q.length ≤ maxLen) (hsm : ∀ x ∈ q, x.l.length ≤ 140737488355328) :
    ∃ (k : Int) (w' : World), C 6 #[fv W H D al A q.length c] w = some (.int .i64 k, w') ∧ w.grownBy w' none ∧ 1 ≤ k ∧ k ≤ 140739635838977 ∧ (k ≤ 2147483647 → k = wt q q.length) := by
  have hmx : (maxLen : Int) = 9223372036854775807 := by simp [maxLen]
  obtain ⟨W0, hW0⟩ : ∃ W0, W0 = w.alloc (.cells #[.int .i64 W, .int .i64 H, .int .i64 D, .bool al, .slice A q.length c] 30) := ⟨_, rfl⟩
  have g0 : w.grownBy W0 none := hW0 ▸ World.grownBy_alloc w _ none
  have b0 : Blk W0 w.heap.size 30 (fcs W H D al (.slice A q.length c)) := hW0 ▸ Blk.new w 30 (fcs W H D al (.slice A q.length c))
  have key := iter_down (f := f6.l0 C) (fun d st w1 => ∃ i : Nat, st = [.pointer (some ⟨w.heap.size, 0, none⟩), .int .i64 (wt q i), .int .i64 i] ∧ i + d = q.length ∧ w1 = W0 ∧ wt q i ≤ 140739635838977)
    (fun r => ∃ k, r = .exit 0 [.int .i64 k] W0 ∧ 1 ≤ k ∧ k ≤ 140739635838977 ∧ (k ≤ 2147483647 → k = wt q q.length)) (by
      rintro d st w1 ⟨i, rfl, hi, rfl, hb⟩
      have hp := wt_pos q i
      cases d with
      | zero =>
        obtain rfl : i = q.length := by omega
        exact .inr ⟨_, by simp [f6.l0, addL, b0.cell_eq 4 rfl], ⟨_, rfl, by omega, hb, fun _ => rfl⟩, by simp⟩
      | succ d =>
        have hil : i < q.length := by omega
        obtain ⟨x, hx⟩ : ∃ x, q[i]? = some x := ⟨_, List.getElem?_eq_getElem hil⟩
        obtain ⟨aA, rfl, ix, cl⟩ := plane_at (hr.grown g0) hx hlen c
        have hl := hsm x (List.mem_of_getElem? hx)
        have hs : wt q (i + 1) = wt q i + 1 + x.l.length := by simp [wt, hx]
        by_cases hc : wt q i ≤ 2147483647
        · have e1 : IntKind.i64.wrap (wt q i + 1) = wt q i + 1 := wrap_i64 (by omega) (by omega)
          have e2 : IntKind.i64.wrap (wt q i + 1 + x.l.length) = wt q (i + 1) := (wrap_i64 (by omega) (by omega)).trans hs.symm
          have e3 : IntKind.i64.wrap ((i : Int) + 1) = ((i + 1 : Nat) : Int) := (wrap_i64 (by omega) (by omega)).trans (by omega)
          refine .inl ⟨d, _, w1, by omega, ?_, ⟨i + 1, rfl, by omega, rfl, by omega⟩⟩
          simp (disch := omega) [f6.l0, lt_t, addL, b0.cell_eq 4 rfl, hc, ix, cl, e1, e2, e3]
        · refine .inr ⟨_, ?_, ⟨wt q i, rfl, by omega, hb, fun h => absurd h hc⟩, by simp⟩
          simp (disch := omega) [f6.l0, lt_t, addL, b0.cell_eq 4 rfl, hc]) q.length _ W0 ⟨0, rfl, by omega, rfl, by simp [wt]⟩
  obtain ⟨r, h1, k, rfl, k1, k2, k3⟩ := key
  refine ⟨k, W0, f6.run rfl ?_, g0, k1, k2, k3⟩
  simp [wt] at h1
  simp [f6, box_any, Value.cells, ← hW0, h1]
end Go.Sh.YtacfghffojijaaaDoor

namespace Go.Sh.YtacfghffojijaaaDoor
open Go Go.Proofs Go.RowKit
set_option linter.unusedVariables false
set_option linter.unusedSimpArgs false
set_option maxRecDepth 100000
theorem over_l0 (x1 x2 x3 x4 : Value) {w0 : World} {base n : Nat} {A : Option Addr} {xs : List Value} (o : w0.ownsRow base 39 1 (.slice A n n) n xs) (hn : n ≤ 140737488355328) :
    ∃ w', iter (f11.l0 C) [x1, x2, x3, x4, .slice A n n, .int .i64 0] w0 = some (.exit 2 [x1, x2, x3, x4, .slice A n n] w') ∧ w'.ownsRow base 39 1 (.slice A n n) n (List.replicate n (.int .u16 7)) ∧ Grew (fun k => (Value.slice A n n).ownBlock = some k) w0 w' := by
  have hxs : xs.length = n := by simpa using o.1
  have key := iter_down (f := f11.l0 C) (fun d st w1 => ∃ (j : Nat) (ys : List Value), st = [x1, x2, x3, x4, .slice A n n, .int .i64 j] ∧ j + d = n ∧ ys.length = d ∧ w1.ownsRow base 39 1 (.slice A n n) n (List.replicate j (.int .u16 7) ++ ys) ∧ Grew (fun k => (Value.slice A n n).ownBlock = some k) w0 w1)
    (fun r => ∃ w1, r = .exit 2 [x1, x2, x3, x4, .slice A n n] w1 ∧ w1.ownsRow base 39 1 (.slice A n n) n (List.replicate n (.int .u16 7)) ∧ Grew (fun k => (Value.slice A n n).ownBlock = some k) w0 w1) (by
      rintro d st w1 ⟨j, ys, rfl, hj, hys, E, G⟩
      cases d with
      | zero =>
        obtain rfl : j = n := by omega
        have : ys = [] := by simpa using hys
        subst this
        rw [List.append_nil] at E
        exact .inr ⟨_, by simp [f11.l0], ⟨w1, rfl, E, G⟩, by simp⟩
      | succ d =>
        cases ys with
        | nil => simp at hys
        | cons z ys =>
          obtain ⟨pa, w2, e, hba, s2, o2, g2⟩ := own_store (P := Tryd.prog) E (t := 39) inf39 size39 (j := j) (by omega) (v := .int .u16 7) rfl rfl
          subst e
          have hset : (List.replicate j (Value.int .u16 7) ++ z :: ys).set j (.int .u16 7) = List.replicate (j + 1) (.int .u16 7) ++ ys := by
            rw [List.set_append_right _ _ (by simp), List.length_replicate, Nat.sub_self, List.set_cons_zero, List.replicate_succ']
            simp
          rw [hset] at o2
          have i5 := ix38 pa n n .i64 j (by omega) (by omega)
          simp only [Int.toNat_natCast, Nat.mul_one] at i5
          have e3 : IntKind.i64.wrap ((j : Int) + 1) = ((j + 1 : Nat) : Int) := (wrap_i64 (by omega) (by omega)).trans (by omega)
          refine .inl ⟨d, _, w2, by omega, ?_, ⟨j + 1, ys, rfl, by omega, by simpa using hys, o2, G.step (grew_of g2 fun k hk => .inl hk)⟩⟩
          simp (disch := omega) [f11.l0, lt_t, i5, s2, e3]) n _ w0 ⟨0, xs, rfl, by omega, hxs, by simpa using o, Grew.refl _ _⟩
  obtain ⟨r, h1, w1, rfl, o1, G1⟩ := key
  exact ⟨w1, h1, o1, G1⟩
/-- as many planes as are there, of sevens -/
def Sev (q : List Pl) (r : List (Value × List Value)) : Prop := ∀ (p : Nat) y x, r[p]? = some y → q[p]? = some x → ∃ (A : Option Addr), y = (.slice A x.l.length x.l.length, List.replicate x.l.length (.int .u16 7))
theorem over_l1 {f s a : Nat} {w0 : World} {W H D : Int} {al : Bool} {A : Option Addr} {ca : Nat} {qa : List Pl} (ra : Rd w0 A (qa.map Pl.v)) (la : qa.length ≤ 4294967296) (hsm : ∀ x ∈ qa, x.l.length ≤ 140737488355328) {w1 : World} (G01 : w0.grownBy w1 none) (hfw : w0.heap.size ≤ f) :
    ∀ (d : Nat) (st : List Value) (w : World), (∃ (i : Nat) (V : Value) (q : List (Value × List Value)), st = [.pointer (some ⟨a, 0, none⟩), .pointer (some ⟨s, 0, none⟩), .pointer (some ⟨f, 0, none⟩), .int .i64 i] ∧ i + d = qa.length ∧ q.length = i ∧ Sev qa q ∧ Fr w w1.heap.size V q ∧ Blk w f 30 (fcs W H D al V) ∧ Blk w a 30 (fcs W H D al (.slice A qa.length ca)) ∧ a ≠ f ∧ Grew (fun k => k = f) w1 w) →
    ∃ r, iter (f11.l1 C) st w = some r ∧ ∃ V q w', r = .exit 0 [.pointer (some ⟨s, 0, none⟩), .pointer (some ⟨f, 0, none⟩)] w' ∧ q.length = qa.length ∧ Sev qa q ∧ Fr w' w1.heap.size V q ∧ Blk w' f 30 (fcs W H D al V) ∧ Grew (fun k => k = f) w1 w' := by
  refine iter_down _ _ ?_
  rintro d st w ⟨i, V, q, rfl, hi, hq, hall, F, bf, ba, naf, G⟩
  have hmx : (maxLen : Int) = 9223372036854775807 := by simp [maxLen]
  cases d with
  | zero =>
    obtain rfl : i = qa.length := by omega
    exact .inr ⟨_, by simp [f11.l1, addL, ba.cell_eq 4 rfl], ⟨V, q, w, rfl, hq, hall, F, bf, G⟩, by simp⟩
  | succ d =>
    have hil : i < qa.length := by omega
    obtain ⟨x, hx⟩ : ∃ x, qa[i]? = some x := ⟨_, List.getElem?_eq_getElem hil⟩
    have hbig := hsm x (List.mem_of_getElem? hx)
    have G0 : w0.grownBy w none := ((grew_new (S := fun k => k = f) G01).step G).toNew fun k hk => by omega
    obtain ⟨aA, rfl, ix, cl⟩ := plane_at (ra.grown G0) hx (by omega) ca
    obtain ⟨w2, m1, m2, m3⟩ := mk38 (w := w) w.heap.size x.l.length (by omega) (by simp [maxLen]; omega) (Nat.le_refl _)
    rw [made_samples] at m2
    obtain ⟨w3, l3, o3, G3⟩ := over_l0 (.pointer (some ⟨a, 0, none⟩)) (.pointer (some ⟨s, 0, none⟩)) (.pointer (some ⟨f, 0, none⟩)) (.int .i64 i) m2 hbig
    have g3 : w.grownBy w3 none := ((grew_new (S := fun k => w.heap.size ≤ k) m3).step (G3.weak fun k hk => .inl (by simp [Value.ownBlock] at hk; omega))).toNew fun _ h => h
    have b3f := bf.grown g3 (by simp)
    have F3 := F.new g3
    have Gw3 := G.step (grew_new g3)
    have hlr : (List.replicate x.l.length (Value.int .u16 7)).length = x.l.length := by simp
    obtain ⟨V', w4, w5, p1, p2, F5, b5f, G5, cV, k5⟩ := F3.push b3f (p := (.slice (some ⟨w.heap.size, 0, none⟩) x.l.length x.l.length, List.replicate x.l.length (.int .u16 7))) (by
        show w3.ownsRow w1.heap.size 39 1 (.slice (some ⟨w.heap.size, 0, none⟩) x.l.length x.l.length) (List.replicate x.l.length (Value.int .u16 7)).length (List.replicate x.l.length (Value.int .u16 7)); rw [hlr]; exact own_base o3 G.size) (fun k hk hf => by
      have h1 := F.pl.ge hf
      simp [Value.ownBlock] at hk
      omega) (by omega) Gw3.size
    have e3 : IntKind.i64.wrap ((i : Int) + 1) = ((i + 1 : Nat) : Int) := (wrap_i64 (by omega) (by omega)).trans (by omega)
    refine .inl ⟨d, _, w5, by omega, ?_, ⟨i + 1, V', q ++ [(.slice (some ⟨w.heap.size, 0, none⟩) x.l.length x.l.length, List.replicate x.l.length (.int .u16 7))], rfl, by omega, by simp [hq], ?_, F5, b5f, (ba.grown g3 (by simp)).grew G5 (by
        rintro (e | e)
        · exact naf e
        · exact own_blk_ne F3.row (ba.grown g3 (by simp)) (by decide) e), naf, ?_⟩⟩
    · simp only at p1
      simp (disch := omega) [f11.l1, lt_t, addL, ba.cell_eq 4 rfl, ix, cl, m1, l3, b3f.cell_eq 4 rfl, bs28_1, p1, p2, e3]
    · intro p y x' hp hx'
      by_cases hpq : p < q.length
      · rw [List.getElem?_append_left hpq] at hp
        exact hall p y x' hp hx'
      · have hpi : p = i := by have := (List.getElem?_eq_some_iff.mp hp).1; simp at this; omega
        subst hpi
        rw [List.getElem?_append_right (by omega), show p - q.length = 0 by omega] at hp
        simp at hp
        rw [hx] at hx'
        cases hx'
        exact ⟨_, hp.symm⟩
    · exact Gw3.trans G5 fun k hk => by
        rcases hk with rfl | hk
        · exact .inl rfl
        · exact .inr (F3.row.lt k hk).1
theorem over_ok {W H D : Int} {al : Bool} {A : Option Addr} {ca : Nat} {qa : List Pl} {w : World} (ra : Rd w A (qa.map Pl.v)) (oa : ∀ x ∈ qa, x.ok w) (la : qa.length ≤ 4294967296) (hsm : ∀ x ∈ qa, x.l.length ≤ 140737488355328) :
    ∃ (A' : Option Addr) (c : Nat) (q : List Pl) (w' : World), C 11 #[fv W H D al A qa.length ca] w = some (fv W H D al A' q.length c, w') ∧ q.length = qa.length ∧ (∀ (p : Nat) (x y : Pl), qa[p]? = some x → q[p]? = some y → y.l = List.replicate x.l.length 7) ∧ Rd w' A' (q.map Pl.v) ∧ (∀ x ∈ q, x.ok w') ∧ w.grownBy w' none := by
  obtain ⟨W0, hW0⟩ : ∃ W0, W0 = w.alloc (.cells #[.int .i64 W, .int .i64 H, .int .i64 D, .bool al, .slice A qa.length ca] 30) := ⟨_, rfl⟩
  have g0 : w.grownBy W0 none := hW0 ▸ World.grownBy_alloc w _ none
  have b0 : Blk W0 w.heap.size 30 (fcs W H D al (.slice A qa.length ca)) := hW0 ▸ Blk.new w 30 (fcs W H D al (.slice A qa.length ca))
  obtain ⟨W1, hW1⟩ : ∃ W1, W1 = W0.alloc (.cells #[.int .i64 0, .int .i64 0, .int .i64 0, .bool false, .slice none 0 0] 30) := ⟨_, rfl⟩
  have g1 : W0.grownBy W1 none := hW1 ▸ World.grownBy_alloc W0 _ none
  have b1 : Blk W1 W0.heap.size 30 (fcs 0 0 0 false (.slice none 0 0)) := hW1 ▸ Blk.new W0 30 (fcs 0 0 0 false (.slice none 0 0))
  have hs0 : W0.heap.size = w.heap.size + 1 := by rw [hW0]; simp
  have hs1 : W1.heap.size = w.heap.size + 2 := by rw [hW1]; simp [hs0]
  have ba1 := b0.grown g1 (by simp)
  have G1 := grown_trans g0 g1 (by simp)
  obtain ⟨W2, w3, a2, a3, b3, g3⟩ := hold W1 W H D al none 0 0
  have G3 := grown_trans G1 g3 (by simp)
  have ba3 := ba1.grown g3 (by simp)
  have br3 := b1.grown g3 (by simp)
  obtain ⟨r, h5, V, q, w5, rfl, hq, hall, F5, b5, G5⟩ := over_l1 ra la hsm (f := W1.heap.size) (s := W0.heap.size) (a := w.heap.size) (W := W) (H := H) (D := D) (al := al) (ca := ca) G3 (by omega) qa.length _ w3 ⟨0, .slice none 0 0, [], rfl, by omega, rfl, (fun p y x hp => by simp at hp), ⟨World.ownsRow_nil _ _ _ _, Rows.nil⟩, b3, ba3, by omega, Grew.refl _ _⟩
  have br5 := br3.grew G5 (fun e => by omega)
  obtain ⟨A', c, rfl, _⟩ := own_form F5.row
  obtain ⟨w6, s6, b6, g6⟩ := st30 br5 rfl W H D al A' q.length c
  have G5' : w.grownBy w5 none := ((grew_new (S := fun k => w.heap.size ≤ k) G3).step (G5.weak fun k hk => .inl (by omega))).toNew fun _ h => h
  have F6 := F5.grew (grew_of (S := fun k => k = W0.heap.size) g6 fun k hk => by cases hk; exact .inl rfl) fun k hk e => F5.ne_blk br5 (by decide) (by decide) (e ▸ hk)
  obtain ⟨ql, k1, k2, k3, k4⟩ := fr_pl F6 (fun p => List.replicate ((qa[p]?.map fun x => x.l.length).getD 0) 7) (fun p r hr => by
    have hp := (List.getElem?_eq_some_iff.mp hr).1
    obtain ⟨x, hx⟩ : ∃ x, qa[p]? = some x := ⟨_, List.getElem?_eq_getElem (by omega)⟩
    obtain ⟨P, rfl⟩ := hall p r x hr hx
    have hl := hsm x (List.mem_of_getElem? hx)
    simp only [hx, Option.map_some, Option.getD_some]
    refine ⟨⟨P, by simp⟩, by simp [uv], by simp; omega, fun u hu => ?_⟩
    rw [List.eq_of_mem_replicate hu]
    omega)
  refine ⟨A', c, ql, w6, f11.run rfl ?_, by omega, fun p x y hx hy => by rw [k2 p y hy]; simp only [hx, Option.map_some, Option.getD_some], k3, k4, grown_trans G5' g6 fun k hk => by cases hk; omega⟩
  rw [k1]
  simp only [f11]
  simp only [show ((0 : Nat) : Int) = 0 from rfl] at h5
  simp [box_any, Value.cells, ← hW0, alloc30 W0, ← hW1, addL, ld27b ba1 rfl, build30, a2, a3, h5, ld30b b5, s6, ld30b b6]
end Go.Sh.YtacfghffojijaaaDoor

namespace Go.Sh.YtacfghffojijaaaDoor
open Go Go.Proofs Go.RowKit
set_option linter.unusedVariables false
set_option linter.unusedSimpArgs false
set_option maxRecDepth 100000
theorem mk38c {w : World} (base : Nat) (n : Nat) (hbytes : 2 * n ≤ 281474976710656) (h63 : n ≤ maxLen) (hbase : base ≤ w.heap.size) :
    ∃ w', erun Tryd.prog (Instr.makeSlice 38 (.int .i64 0) (.int .i64 (n : Int))) w = some (.slice (some ⟨w.heap.size, 0, none⟩) 0 n, w') ∧ w'.ownsRow base 39 1 (.slice (some ⟨w.heap.size, 0, none⟩) 0 n) 0 [] ∧ w.grownBy w' none := by
  obtain ⟨w', h1, h2, h3⟩ := run_make_own (P := Tryd.prog) w base 38 39 _ _ 1 Tryd.underlying38 inf39 zero39 size39 .i64 .i64 n (by rw [bytes39]; exact hbytes) h63 hbase
  exact ⟨w', erun_of_run h1, h2, h3⟩
theorem bs38_2 (w : World) : erun Tryd.prog (Instr.buildSlice 38 2 #[(0, (Value.int IntKind.u16 60001)), (1, (Value.int IntKind.u16 60002))]) w = some (.slice (some ⟨w.heap.size, 0, none⟩) 2 2, w.alloc (.cells #[.int .u16 60001, .int .u16 60002] 39)) := id (by kernel_rfl)
abbrev mk2 : List Value := [.int .u16 60001, .int .u16 60002]
/-- a row of samples is copied, with the marks behind it -/
theorem copy_row {x : Pl} {w : World} (ox : x.ok w) (hnil : x.A = none → x.c = 0) (hsm : x.l.length ≤ 4294967296) :
    ∃ (v1 : Value) (w2 w3 : World) (A2 : Option Addr) (c2 : Nat) (w5 : World),
      erun Tryd.prog (Instr.makeSlice 38 (.int .i64 0) (.int .i64 ((x.l.length + 2 : Nat) : Int))) w = some (.slice (some ⟨w.heap.size, 0, none⟩) 0 (x.l.length + 2), w2) ∧
      erun Tryd.prog (Builtin.append_ #[38, 38] 38 #[.slice (some ⟨w.heap.size, 0, none⟩) 0 (x.l.length + 2), x.v]) w2 = some (v1, w3) ∧
      erun Tryd.prog (Builtin.append_ #[38, 38] 38 #[v1, .slice (some ⟨w3.drew.heap.size, 0, none⟩) 2 2]) (w3.drew.alloc (.cells #[.int .u16 60001, .int .u16 60002] 39)) = some (.slice A2 (x.l.length + 2) c2, w5) ∧
      w5.ownsRow w.heap.size 39 1 (.slice A2 (x.l.length + 2) c2) (x.l.length + 2) (uv x.l ++ mk2) ∧ w.grownBy w2 none ∧ w.grownBy w3 none ∧ w.grownBy (w3.drew.alloc (.cells #[.int .u16 60001, .int .u16 60002] 39)) none ∧ w.grownBy w5 none ∧ x.l.length + 2 ≤ c2 := by
  have hu : (uv x.l).length = x.l.length * 1 := by simp [uv]
  have h1 : ∀ u ∈ uv x.l, u.oneCell' = true := fun u hu => by
    unfold uv at hu
    obtain ⟨y, _, rfl⟩ := List.mem_map.mp hu
    rfl
  obtain ⟨w2, m1, m2, m3⟩ := mk38c (w := w) w.heap.size (x.l.length + 2) (by omega) (by simp [maxLen]; omega) (Nat.le_refl _)
  obtain ⟨v1, w3, a3, o3, g3, k3⟩ := e_append2 (P := Tryd.prog) (ty := 38) Tryd.underlying38 inf39 zero39 size39 bytes39 rfl (by decide) m2 (A := x.A) (m := x.l.length) (c := x.c) hu (ox.rd.grown m3) hnil h1 (by simp [maxLen]; omega) (by omega) m3.size
  have G3 : w.grownBy w3 none := grown_trans m3 g3 fun k hk => by simp [Value.ownBlock] at hk; omega
  obtain ⟨u, hu'⟩ : ∃ u, u = w3.drew := ⟨_, rfl⟩
  have gu : w3.grownBy u none := hu' ▸ grown_drew w3 none
  obtain ⟨W4, hW4⟩ : ∃ W4, W4 = u.alloc (.cells #[.int .u16 60001, .int .u16 60002] 39) := ⟨_, rfl⟩
  have g4 : u.grownBy W4 none := hW4 ▸ World.grownBy_alloc u _ none
  have b4 : Blk W4 u.heap.size 39 mk2 := hW4 ▸ Blk.new u 39 mk2
  have r4 : Rd W4 (some ⟨u.heap.size, 0, none⟩) mk2 := by
    intro j v hv
    rw [addL, Nat.zero_add]
    exact b4.cell_eq j hv
  have o4 := own_new (own_new o3 gu) g4
  rw [Nat.zero_add, List.nil_append] at o4
  have G4 := grown_trans (grown_trans G3 gu (by simp)) g4 (by simp)
  obtain ⟨v2, w5, a5, o5, g5, k5⟩ := e_append2 (P := Tryd.prog) (ty := 38) Tryd.underlying38 inf39 zero39 size39 bytes39 rfl (by decide) o4 (A := some ⟨u.heap.size, 0, none⟩) (m := 2) (c := 2) (news := mk2) rfl r4 (fun h => by cases h) (fun v hv => by simp at hv; rcases hv with rfl | rfl <;> rfl) (by simp [maxLen]; omega) (by omega) G4.size
  obtain ⟨A2, c2, rfl, hc⟩ := own_form o5
  have G5 : w.grownBy w5 none := grown_trans G4 g5 fun k hk => (o4.lt k hk).1
  refine ⟨v1, w2, w3, A2, c2, w5, m1, a3, ?_, o5, m3, G3, ?_, G5, ?_⟩
  · rw [← hu', ← hW4]; exact a5
  · rw [← hu', ← hW4]; exact G4
  · first | exact hc | exact hc.1 | exact hc.2 | omega
end Go.Sh.YtacfghffojijaaaDoor

namespace Go.Sh.YtacfghffojijaaaDoor
open Go Go.Proofs Go.RowKit
set_option linter.unusedVariables false
set_option linter.unusedSimpArgs false
set_option maxRecDepth 100000
def clip2 : Value → Value
  | .slice A n c => .slice A (n - 2) c
  | v => v
/-- copies of planes, with marks behind each, in a list of its own that shows them without their marks -/
structure Cp (w : World) (base : Nat) (V : Value) (q : List (Value × List Value)) : Prop where
  row : w.ownsRow base 38 1 V q.length (q.map fun p => clip2 p.1)
  pl : Rows w base 39 q
def Cpd (qa : List Pl) (q : List (Value × List Value)) : Prop := ∀ (p : Nat) y x, q[p]? = some y → qa[p]? = some x → ∃ (A : Option Addr) (c : Nat), y = (.slice A (x.l.length + 2) c, uv x.l ++ mk2) ∧ x.l.length + 2 ≤ c
theorem copied_l0 {a : Nat} {w0 : World} {W H D : Int} {al : Bool} {A : Option Addr} {ca : Nat} {qa : List Pl} (ra : Rd w0 A (qa.map Pl.v)) (oa : ∀ x ∈ qa, x.ok w0) (hnil : ∀ x ∈ qa, x.A = none → x.c = 0) (la : qa.length ≤ 4294967296) (hsm : ∀ x ∈ qa, x.l.length ≤ 4294967296) (ba : Blk w0 a 30 (fcs W H D al (.slice A qa.length ca))) (v2 : Value) :
    ∀ (d : Nat) (st : List Value) (w : World), (∃ (i : Nat) (V : Value) (q : List (Value × List Value)), st = [.pointer (some ⟨a, 0, none⟩), v2, V, .int .i64 i] ∧ i + d = qa.length ∧ q.length = i ∧ Cpd qa q ∧ Cp w w0.heap.size V q ∧ w0.grownBy w none) →
    ∃ r, iter (f7.l0 C) st w = some r ∧ ∃ V q w', r = .exit 0 [.pointer (some ⟨a, 0, none⟩), v2, V] w' ∧ q.length = qa.length ∧ Cpd qa q ∧ Cp w' w0.heap.size V q ∧ w0.grownBy w' none := by
  refine iter_down _ _ ?_
  rintro d st w ⟨i, V, q, rfl, hi, hq, hall, F, G⟩
  have hmx : (maxLen : Int) = 9223372036854775807 := by simp [maxLen]
  have b := ba.grown G (by simp)
  cases d with
  | zero =>
    obtain rfl : i = qa.length := by omega
    exact .inr ⟨_, by simp [f7.l0, addL, b.cell_eq 4 rfl], ⟨V, q, w, rfl, hq, hall, F, G⟩, by simp⟩
  | succ d =>
    have hil : i < qa.length := by omega
    obtain ⟨x, hx⟩ : ∃ x, qa[i]? = some x := ⟨_, List.getElem?_eq_getElem hil⟩
    have hxm := List.mem_of_getElem? hx
    have hbig := hsm x hxm
    obtain ⟨aA, rfl, ix, cl⟩ := plane_at (ra.grown G) hx (by omega) ca
    obtain ⟨v1, w2, w3, A2, c2, w5, m1, a3, a5, o5, g2, g3, g4, g5, hc2⟩ := copy_row ((oa x hxm).grown G) (hnil x hxm) hbig
    have b2 := b.grown g2 (by simp)
    have b3 := b.grown g3 (by simp)
    obtain ⟨u, hu⟩ : ∃ u, u = w3.drew := ⟨_, rfl⟩
    rw [← hu] at a5 g4
    have gu : w3.grownBy u none := hu ▸ grown_drew w3 none
    have bu := b3.grown gu (by simp)
    obtain ⟨W4, hW4⟩ : ∃ W4, W4 = u.alloc (.cells #[.int .u16 60001, .int .u16 60002] 39) := ⟨_, rfl⟩
    rw [← hW4] at a5 g4
    have b4 := b.grown g4 (by simp)
    have b5 := b.grown g5 (by simp)
    obtain ⟨aA2, e2, _, cl2⟩ := plane_at ((ra.grown G).grown g2) hx (by omega) ca
    cases e2
    obtain ⟨aAu, eu, _, clu⟩ := plane_at (((ra.grown G).grown g3).grown gu) hx (by omega) ca
    cases eu
    obtain ⟨aA4, e4, _, cl4⟩ := plane_at ((ra.grown G).grown g4) hx (by omega) ca
    cases e4
    obtain ⟨aA5, e5, _, cl5⟩ := plane_at ((ra.grown G).grown g5) hx (by omega) ca
    cases e5
    obtain ⟨a2, e6, _⟩ := own_cell o5 (j := x.l.length) (v := .int .u16 60001) (by rw [List.getElem?_append_right (by simp [uv])]; simp [uv])
    subst e6
    have hsl := sl38 (some a2) (x.l.length + 2) c2 none (some (.int .i64 x.l.length)) none 0 x.l.length c2 (by have := bounds_hi (P := Tryd.prog) (x.l.length + 2) c2 .i64 x.l.length (by omega) (by omega); simpa using this)
    have hc0 : ¬ c2 = 0 := by omega
    have hG5 := G.size
    have orow := own_base (own_new F.row g5) (Nat.le_refl _)
    obtain ⟨V', w6, p1, o6, g6, k6⟩ := own_push (P := Tryd.prog) (ty := 28) Tryd.underlying28 inf38 zero38 size38 bytes38 rfl (own_new F.row g5) (x := .slice (some a2) x.l.length c2) rfl (by simp [maxLen]; omega) (by omega) (by have := g5.size; omega)
    have hlr : (uv x.l ++ mk2).length = x.l.length + 2 := by simp [uv]
    have pl5 : Rows w5 w0.heap.size 39 (q ++ [(.slice (some a2) (x.l.length + 2) c2, uv x.l ++ mk2)]) := (F.pl.new g5).push (by
      show w5.ownsRow w0.heap.size 39 1 (.slice (some a2) (x.l.length + 2) c2) (uv x.l ++ mk2).length (uv x.l ++ mk2)
      rw [hlr]
      exact own_base o5 hG5) (fun k hk hf => by
        have h1 := F.pl.ge hf
        have h2 := (o5.lt k hk).1
        omega)
    have F6 : Cp w6 w0.heap.size V' (q ++ [(.slice (some a2) (x.l.length + 2) c2, uv x.l ++ mk2)]) := by
      refine ⟨?_, ?_⟩
      · simpa [clip2] using o6
      · exact pl5.grew (grew_of (S := fun k => V.ownBlock = some k) g6 fun k hk => .inl hk) fun k hk hs => pl5.ne_own (own_new F.row g5) (by decide) hs hk
    have G6 : w0.grownBy w6 none := grown_trans (grown_trans G g5 (by simp)) g6 fun k hk => (F.row.lt k hk).1
    have e1 : IntKind.i64.wrap ((x.l.length : Int) + 2) = (x.l.length : Int) + 2 := wrap_i64 (by omega) (by omega)
    have e3 : IntKind.i64.wrap ((i : Int) + 1) = ((i + 1 : Nat) : Int) := (wrap_i64 (by omega) (by omega)).trans (by omega)
    rw [show (((x.l.length + 2 : Nat)) : Int) = (x.l.length : Int) + 2 by omega] at m1
    unfold Pl.v at a3
    refine .inl ⟨d, _, w6, by omega, ?_, ⟨i + 1, V', q ++ [(.slice (some a2) (x.l.length + 2) c2, uv x.l ++ mk2)], rfl, by omega, by simp [hq], ?_, F6, G6⟩⟩
    · simp [hc0] at hsl
      simp (disch := omega) [f7.l0, lt_t, addL, b.cell_eq 4 rfl, ix, cl, e1, m1, b2.cell_eq 4 rfl, cl2, a3, ← hu, bu.cell_eq 4 rfl, clu, bs38_2, ← hW4, b4.cell_eq 4 rfl, cl4, a5, b5.cell_eq 4 rfl, cl5, hsl, bs28_1, p1, chkThen, e3]
    · intro p y x' hp hx'
      by_cases hpq : p < q.length
      · rw [List.getElem?_append_left hpq] at hp
        exact hall p y x' hp hx'
      · have hpi : p = i := by have := (List.getElem?_eq_some_iff.mp hp).1; simp at this; omega
        subst hpi
        rw [List.getElem?_append_right (by omega), show p - q.length = 0 by omega] at hp
        simp at hp
        rw [hx] at hx'
        cases hx'
        exact ⟨_, _, hp.symm, hc2⟩
theorem build30s (W H D : Int) (al : Bool) (A : Option Addr) (n c : Nat) : prun Tryd.prog (Instr.build 30 #[(0, sv W H D al), (1, .slice A n c)]) = some (fv W H D al A n c) := id (by kernel_rfl)
theorem Cp.grew {S : Nat → Prop} {w w' : World} {base : Nat} {V : Value} {q : List (Value × List Value)} (h : Cp w base V q) (hg : Grew S w w') (h1 : ∀ k, V.ownBlock = some k → ¬ S k) (h2 : ∀ k, rfp q k → ¬ S k) : Cp w' base V q := ⟨own_grew h.row hg h1, h.pl.grew hg h2⟩
theorem Cp.new {w w' : World} {base : Nat} {V : Value} {q : List (Value × List Value)} (h : Cp w base V q) (hg : w.grownBy w' none) : Cp w' base V q := h.grew (grew_new (S := fun _ => False) hg) (fun _ _ h => h) fun _ _ h => h
theorem copied_ok {W H D : Int} {al : Bool} {A : Option Addr} {ca : Nat} {qa : List Pl} {w : World} (ra : Rd w A (qa.map Pl.v)) (oa : ∀ x ∈ qa, x.ok w) (hnil : ∀ x ∈ qa, x.A = none → x.c = 0) (la : qa.length ≤ 4294967296) (hsm : ∀ x ∈ qa, x.l.length ≤ 4294967296) :
    ∃ (A' : Option Addr) (c : Nat) (q : List (Value × List Value)) (w' : World), C 7 #[fv W H D al A qa.length ca] w = some (fv W H D al A' q.length c, w') ∧ q.length = qa.length ∧ Cpd qa q ∧ Cp w' w.heap.size (.slice A' q.length c) q ∧ w.grownBy w' none := by
  obtain ⟨W0, hW0⟩ : ∃ W0, W0 = w.alloc (.cells #[.int .i64 W, .int .i64 H, .int .i64 D, .bool al, .slice A qa.length ca] 30) := ⟨_, rfl⟩
  have g0 : w.grownBy W0 none := hW0 ▸ World.grownBy_alloc w _ none
  have b0 : Blk W0 w.heap.size 30 (fcs W H D al (.slice A qa.length ca)) := hW0 ▸ Blk.new w 30 (fcs W H D al (.slice A qa.length ca))
  obtain ⟨W1, hW1⟩ : ∃ W1, W1 = W0.alloc (.cells #[.int .i64 0, .int .i64 0, .int .i64 0, .bool false, .slice none 0 0] 30) := ⟨_, rfl⟩
  have g1 : W0.grownBy W1 none := hW1 ▸ World.grownBy_alloc W0 _ none
  have b1 : Blk W1 W0.heap.size 30 (fcs 0 0 0 false (.slice none 0 0)) := hW1 ▸ Blk.new W0 30 (fcs 0 0 0 false (.slice none 0 0))
  have hs0 : W0.heap.size = w.heap.size + 1 := by rw [hW0]; simp
  have ba1 := b0.grown g1 (by simp)
  have G1 := grown_trans g0 g1 (by simp)
  obtain ⟨r, h5, V, q, w5, rfl, hq, hall, F5, G5⟩ := copied_l0 (ra.grown G1) (fun x hx => (oa x hx).grown G1) hnil la hsm ba1 (.pointer (some ⟨W0.heap.size, 0, none⟩)) qa.length _ W1 ⟨0, .slice none 0 0, [], rfl, by omega, rfl, (fun p y x hp => by simp at hp), ⟨World.ownsRow_nil _ _ _ _, Rows.nil⟩, grown_refl _ _⟩
  have b5 := ba1.grown G5 (by simp)
  have br5 := b1.grown G5 (by simp)
  obtain ⟨A', c, rfl, _⟩ := own_form F5.row
  obtain ⟨w6, s6, b6, g6⟩ := st30 br5 rfl W H D al A' q.length c
  have F6 := F5.grew (grew_of (S := fun k => k = W0.heap.size) g6 fun k hk => by cases hk; exact .inl rfl) (fun k hk e => own_blk_ne F5.row br5 (by decide) (e ▸ hk)) fun k hk e => F5.pl.ne_blk br5 (by decide) (e ▸ hk)
  refine ⟨A', c, q, w6, f7.run rfl ?_, hq, hall, ⟨own_base F6.row G1.size, ⟨fun p hp => own_base (F6.pl.own p hp) G1.size, F6.pl.dis⟩⟩, grown_trans (grown_trans G1 G5 (by simp)) g6 fun k hk => by cases hk; omega⟩
  simp only [f7]
  simp only [show ((0 : Nat) : Int) = 0 from rfl] at h5
  simp [box_any, Value.cells, ← hW0, alloc30 W0, ← hW1, addL, ld27b b5 rfl, h5, build30s, s6, ld30b b6]
end Go.Sh.YtacfghffojijaaaDoor

namespace Go.Sh.YtacfghffojijaaaDoor
open Go Go.Proofs Go.RowKit
set_option linter.unusedVariables false
set_option linter.unusedSimpArgs false
set_option maxRecDepth 100000
theorem still_l0 (x1 x2 x3 : Value) {w0 : World} {base n c : Nat} {A : Option Addr} {xs : List Value} (o : w0.ownsRow base 39 1 (.slice A n c) n xs) (hn : n ≤ 140737488355328) :
    ∃ w', iter (f9.l0 C) [x1, x2, x3, .slice A n c, .int .i64 0] w0 = some (.exit 2 [x1, x2, x3] w') ∧ w'.ownsRow base 39 1 (.slice A n c) n (List.replicate n (.int .u16 7)) ∧ Grew (fun k => (Value.slice A n c).ownBlock = some k) w0 w' := by
  have hxs : xs.length = n := by simpa using o.1
  have key := iter_down (f := f9.l0 C) (fun d st w1 => ∃ (j : Nat) (ys : List Value), st = [x1, x2, x3, .slice A n c, .int .i64 j] ∧ j + d = n ∧ ys.length = d ∧ w1.ownsRow base 39 1 (.slice A n c) n (List.replicate j (.int .u16 7) ++ ys) ∧ Grew (fun k => (Value.slice A n c).ownBlock = some k) w0 w1)
    (fun r => ∃ w1, r = .exit 2 [x1, x2, x3] w1 ∧ w1.ownsRow base 39 1 (.slice A n c) n (List.replicate n (.int .u16 7)) ∧ Grew (fun k => (Value.slice A n c).ownBlock = some k) w0 w1) (by
      rintro d st w1 ⟨j, ys, rfl, hj, hys, E, G⟩
      cases d with
      | zero =>
        obtain rfl : j = n := by omega
        have : ys = [] := by simpa using hys
        subst this
        rw [List.append_nil] at E
        exact .inr ⟨_, by simp [f9.l0], ⟨w1, rfl, E, G⟩, by simp⟩
      | succ d =>
        cases ys with
        | nil => simp at hys
        | cons z ys =>
          obtain ⟨pa, w2, e, hba, s2, o2, g2⟩ := own_store (P := Tryd.prog) E (t := 39) inf39 size39 (j := j) (by omega) (v := .int .u16 7) rfl rfl
          subst e
          have hset : (List.replicate j (Value.int .u16 7) ++ z :: ys).set j (.int .u16 7) = List.replicate (j + 1) (.int .u16 7) ++ ys := by
            rw [List.set_append_right _ _ (by simp), List.length_replicate, Nat.sub_self, List.set_cons_zero, List.replicate_succ']
            simp
          rw [hset] at o2
          have i5 := ix38 pa n c .i64 j (by omega) (by omega)
          simp only [Int.toNat_natCast, Nat.mul_one] at i5
          have e3 : IntKind.i64.wrap ((j : Int) + 1) = ((j + 1 : Nat) : Int) := (wrap_i64 (by omega) (by omega)).trans (by omega)
          refine .inl ⟨d, _, w2, by omega, ?_, ⟨j + 1, ys, rfl, by omega, by simpa using hys, o2, G.step (grew_of g2 fun k hk => .inl hk)⟩⟩
          simp (disch := omega) [f9.l0, lt_t, i5, s2, e3]) n _ w0 ⟨0, xs, rfl, by omega, hxs, by simpa using o, Grew.refl _ _⟩
  obtain ⟨r, h1, w1, rfl, o1, G1⟩ := key
  exact ⟨w1, h1, o1, G1⟩
def Stl (qa : List Pl) (q0 q : List (Value × List Value)) (i : Nat) : Prop := ∀ (p : Nat) y x, q[p]? = some y → qa[p]? = some x → (∃ z, q0[p]? = some z ∧ y.1 = z.1) ∧ y.2 = if p < i then List.replicate (x.l.length + 2) (.int .u16 7) else uv x.l ++ mk2
theorem still_l1 {a : Nat} {w1 : World} {base : Nat} {W H D : Int} {al : Bool} {AV : Option Addr} {cV : Nat} {qa : List Pl} {q0 : List (Value × List Value)} (hall : Cpd qa q0) (la : qa.length ≤ 4294967296) (hsm : ∀ x ∈ qa, x.l.length ≤ 4294967296) :
    ∀ (d : Nat) (st : List Value) (w : World), (∃ (i : Nat) (q : List (Value × List Value)), st = [.pointer (some ⟨a, 0, none⟩), .bool true, .int .i64 i] ∧ i + d = qa.length ∧ q.length = qa.length ∧ Stl qa q0 q i ∧ Cp w base (.slice AV qa.length cV) q ∧ Blk w a 30 (fcs W H D al (.slice AV qa.length cV)) ∧ (∀ k, rfp q k → rfp q0 k) ∧ Grew (rfp q0) w1 w) →
    ∃ r, iter (f9.l1 C) st w = some r ∧ ∃ q w', r = .exit 0 [.bool true] w' ∧ q.length = qa.length ∧ Stl qa q0 q qa.length ∧ Cp w' base (.slice AV qa.length cV) q ∧ Grew (rfp q0) w1 w' := by
  refine iter_down _ _ ?_
  rintro d st w ⟨i, q, rfl, hi, hq, hst, F, b, hrf, G⟩
  have hmx : (maxLen : Int) = 9223372036854775807 := by simp [maxLen]
  cases d with
  | zero =>
    obtain rfl : i = qa.length := by omega
    exact .inr ⟨_, by simp [f9.l1, addL, b.cell_eq 4 rfl], ⟨q, w, rfl, hq, hst, F, G⟩, by simp⟩
  | succ d =>
    have hil : i < qa.length := by omega
    have hiq : i < q.length := by omega
    obtain ⟨x, hx⟩ : ∃ x, qa[i]? = some x := ⟨_, List.getElem?_eq_getElem hil⟩
    obtain ⟨y, hy⟩ : ∃ y, q[i]? = some y := ⟨_, List.getElem?_eq_getElem hiq⟩
    have hbig := hsm x (List.mem_of_getElem? hx)
    obtain ⟨⟨z, hz, hyz⟩, hy2⟩ := hst i y x hy hx
    rw [if_neg (by omega)] at hy2
    obtain ⟨A, c, hzz, hc⟩ := hall i z x hz hx
    have hy1 : y.1 = .slice A (x.l.length + 2) c := by rw [hyz, hzz]
    obtain ⟨u, hu⟩ : ∃ u, u = w.drew := ⟨_, rfl⟩
    have gu : w.grownBy u none := hu ▸ grown_drew w none
    have bu := b.grown gu (by simp)
    have Fu := F.new gu
    have row := Fu.row
    rw [hq] at row
    obtain ⟨aV, rfl, cl⟩ := own_cell row (j := i) (v := clip2 y.1) (by simp [hy])
    rw [hy1] at cl
    simp only [clip2, Nat.add_sub_cancel] at cl
    have o := Fu.pl.part hy
    have hlen : y.2.length = x.l.length + 2 := by rw [hy2]; simp [uv]
    rw [hlen, hy1, hy2] at o
    obtain ⟨a2, e6, m1⟩ := own_cell o (j := x.l.length) (v := .int .u16 60001) (by rw [List.getElem?_append_right (by simp [uv])]; simp [uv])
    subst e6
    obtain ⟨a2', e7, m2⟩ := own_cell o (j := x.l.length + 1) (v := .int .u16 60002) (by rw [List.getElem?_append_right (by simp [uv])]; simp [uv])
    cases e7
    have ix := ix28 aV qa.length cV .i64 i (by omega) (by omega)
    have k1 := ix38 a2 (x.l.length + 2) c .i64 x.l.length (by omega) (by omega)
    have k2 := ix38 a2 (x.l.length + 2) c .i64 ((x.l.length + 1 : Nat) : Int) (by omega) (by omega)
    simp only [Int.toNat_natCast, Nat.mul_one] at ix k1 k2
    have hc0 : ¬ c = 0 := by omega
    have hsl := sl38 (some a2) x.l.length c none (some (.int .i64 ((x.l.length + 2 : Nat) : Int))) none 0 (x.l.length + 2) c (by have := bounds_hi (P := Tryd.prog) x.l.length c .i64 ((x.l.length + 2 : Nat) : Int) (by omega) (by omega); rw [Int.toNat_natCast] at this; exact this)
    obtain ⟨w2, l2, o2, G2⟩ := still_l0 (.pointer (some ⟨a, 0, none⟩)) (.bool true) (.int .i64 i) o (by omega)
    have Gs : Grew (fun k => y.1.ownBlock = some k) w w2 := (grew_new gu).step (by rw [hy1]; exact G2)
    have hlr : (List.replicate (x.l.length + 2) (Value.int .u16 7)).length = x.l.length + 2 := by simp
    have E2 := F.pl.set hy Gs (p' := (y.1, List.replicate (x.l.length + 2) (.int .u16 7))) (by
      rw [hlr]
      simp only
      rw [hy1]
      exact o2) (fun k hk => .inl hk)
    have hrow2 := own_grew F.row Gs fun k h1 h2 => own_own_ne F.row (F.pl.part hy) (by decide) h1 h2
    have hmap : (q.set i (y.1, List.replicate (x.l.length + 2) (.int .u16 7))).map (fun p => clip2 p.1) = q.map fun p => clip2 p.1 := by
      rw [List.map_set]
      apply List.ext_getElem?
      intro k
      by_cases hk : i = k
      · subst hk; rw [List.getElem?_set_self (by simpa using hiq)]; simp [hy]
      · rw [List.getElem?_set_ne hk]
    have F2 : Cp w2 base (.slice (some aV) qa.length cV) (q.set i (y.1, List.replicate (x.l.length + 2) (.int .u16 7))) := ⟨by rw [List.length_set, hmap]; exact hrow2, E2⟩
    have hsub : ∀ k, y.1.ownBlock = some k → rfp q0 k := fun k hk => hrf k ⟨y, List.mem_of_getElem? hy, hk⟩
    have b2 := b.grew Gs (fun e => own_blk_ne (F.pl.part hy) b (by decide) e)
    have e1 : IntKind.i64.wrap ((x.l.length : Int) + 2) = ((x.l.length + 2 : Nat) : Int) := (wrap_i64 (by omega) (by omega)).trans (by omega)
    have e2 : IntKind.i64.wrap ((x.l.length : Int)) = (x.l.length : Int) := wrap_i64 (by omega) (by omega)
    have e2' : IntKind.i64.wrap ((x.l.length : Int) + 2 - 2) = (x.l.length : Int) := (wrap_i64 (by omega) (by omega)).trans (by omega)
    have e4 : IntKind.i64.wrap ((x.l.length : Int) + 2 - 1) = (x.l.length : Int) + 1 := (wrap_i64 (by omega) (by omega)).trans (by omega)
    have e4' : IntKind.i64.wrap ((x.l.length : Int) + 1) = (x.l.length : Int) + 1 := (wrap_i64 (by omega) (by omega)).trans (by omega)
    have e3 : IntKind.i64.wrap ((i : Int) + 1) = ((i + 1 : Nat) : Int) := (wrap_i64 (by omega) (by omega)).trans (by omega)
    refine .inl ⟨d, _, w2, by omega, ?_, ⟨i + 1, q.set i (y.1, List.replicate (x.l.length + 2) (.int .u16 7)), rfl, by omega, by simpa using hq, ?_, F2, b2, ?_, G.step (Gs.weak fun k hk => .inl (hsub k hk))⟩⟩
    · simp [hc0] at hsl
      simp at k2
      simp (disch := omega) [f9.l1, lt_t, addL, b.cell_eq 4 rfl, ← hu, bu.cell_eq 4 rfl, ix, cl, e1, hsl, e2, e2', k1, m1, e4, e4', k2, m2, l2, e3]
    · intro p y' x' hp hx'
      by_cases hip : i = p
      · subst hip
        rw [List.getElem?_set_self hiq] at hp
        cases hp
        rw [hx] at hx'
        cases hx'
        exact ⟨⟨z, hz, hyz⟩, by rw [if_pos (by omega)]⟩
      · rw [List.getElem?_set_ne hip] at hp
        obtain ⟨h1, h2⟩ := hst p y' x' hp hx'
        refine ⟨h1, h2.trans ?_⟩
        by_cases hpi : p < i
        · rw [if_pos hpi, if_pos (by omega)]
        · rw [if_neg hpi, if_neg (by omega)]
    · rintro k ⟨r, hr, hk⟩
      obtain ⟨j, hj⟩ := List.getElem?_of_mem hr
      by_cases hij : i = j
      · subst hij
        rw [List.getElem?_set_self hiq] at hj
        cases hj
        exact hsub k hk
      · rw [List.getElem?_set_ne hij] at hj
        exact hrf k ⟨r, List.mem_of_getElem? hj, hk⟩
end Go.Sh.YtacfghffojijaaaDoor

namespace Go.Sh.YtacfghffojijaaaDoor
open Go Go.Proofs Go.RowKit
set_option linter.unusedVariables false
set_option linter.unusedSimpArgs false
set_option maxRecDepth 100000
theorem pl_of {w : World} {A : Option Addr} {vals : List Value} (h : Rd w A vals) (F : Nat → List Int)
    (hF : ∀ (p : Nat) v, vals[p]? = some v → ∃ P c, v = .slice P (F p).length c ∧ (F p).length ≤ c ∧ Rd w P (uv (F p)) ∧ (F p).length ≤ 9223372036854775807 ∧ ∀ u ∈ F p, 0 ≤ u ∧ u ≤ 65535) :
    ∃ ql : List Pl, ql.length = vals.length ∧ (∀ (p : Nat) x, ql[p]? = some x → x.l = F p) ∧ Rd w A (ql.map Pl.v) ∧ ∀ x ∈ ql, x.ok w := by
  have key : ∀ (k : Nat), k ≤ vals.length → ∃ ql : List Pl, ql.length = k ∧ (∀ (p : Nat) x, ql[p]? = some x → x.l = F p) ∧ ql.map Pl.v = vals.take k ∧ ∀ x ∈ ql, x.ok w := by
    intro k
    induction k with
    | zero => exact fun _ => ⟨[], rfl, by simp, by simp, by simp⟩
    | succ k ih =>
      intro hk
      obtain ⟨ql, h1, h2, h3, h4⟩ := ih (by omega)
      obtain ⟨v, hv⟩ : ∃ v, vals[k]? = some v := ⟨_, List.getElem?_eq_getElem (by omega)⟩
      obtain ⟨P, c, rfl, hc, hr, hl, hu⟩ := hF k v hv
      refine ⟨ql ++ [⟨P, c, F k⟩], by simp [h1], fun p x hp => ?_, ?_, fun x hx => ?_⟩
      · by_cases hpk : p < ql.length
        · rw [List.getElem?_append_left hpk] at hp
          exact h2 p x hp
        · have : p = k := by have := (List.getElem?_eq_some_iff.mp hp).1; simp at this; omega
          subst this
          rw [List.getElem?_append_right (by omega), h1, Nat.sub_self] at hp
          simp at hp
          rw [← hp]
      · rw [List.take_add_one, hv]
        simp [h3, Pl.v]
      · rcases List.mem_append.mp hx with hx | hx
        · exact h4 x hx
        · simp at hx
          subst hx
          exact ⟨hr, hc, hl, hu⟩
  obtain ⟨ql, h1, h2, h3, h4⟩ := key vals.length (Nat.le_refl _)
  rw [List.take_length] at h3
  exact ⟨ql, h1, h2, by rw [h3]; exact h, h4⟩
theorem own_rd {w : World} {base n c : Nat} {e : TypeId} {size : Nat} {A : Option Addr} {xs : List Value} (h : w.ownsRow base e size (.slice A n c) n xs) : Rd w A xs := by
  cases A with
  | none =>
    show xs = []
    cases xs with
    | nil => rfl
    | cons p q =>
      obtain ⟨a, e, _⟩ := own_cell h (j := 0) (v := p) (by simp)
      cases e
  | some a =>
    intro j v hv
    obtain ⟨a', e, hc⟩ := own_cell h (j := j) (v := v) hv
    cases e
    exact hc
theorem rd_left {w : World} {A : Option Addr} {xs ys : List Value} (h : Rd w A (xs ++ ys)) : Rd w A xs := by
  cases A with
  | none =>
    have h' : xs ++ ys = [] := h
    show xs = []
    exact (List.append_eq_nil_iff.mp h').1
  | some a =>
    intro j v hv
    exact h j v (by rw [List.getElem?_append_left (List.getElem?_eq_some_iff.mp hv).1]; exact hv)
/-- the planes of a copied frame, as planes that came in -/
theorem cp_pl {w : World} {base : Nat} {AV : Option Addr} {cV : Nat} {q : List (Value × List Value)} (h : Cp w base (.slice AV q.length cV) q) (F : Nat → List Int)
    (hF : ∀ (p : Nat) y, q[p]? = some y → (∃ A c, y.1 = .slice A ((F p).length + 2) c ∧ (F p).length + 2 ≤ c) ∧ (∃ z, y.2 = uv (F p) ++ z ∧ z.length = 2) ∧ (F p).length ≤ 4294967296 ∧ ∀ u ∈ F p, 0 ≤ u ∧ u ≤ 65535) :
    ∃ ql : List Pl, ql.length = q.length ∧ (∀ (p : Nat) x, ql[p]? = some x → x.l = F p) ∧ Rd w AV (ql.map Pl.v) ∧ ∀ x ∈ ql, x.ok w := by
  obtain ⟨ql, h1, h2⟩ := pl_of (own_rd h.row) F (fun p v hv => by
    rw [List.getElem?_map] at hv
    obtain ⟨y, hy, rfl⟩ := Option.map_eq_some_iff.mp hv
    obtain ⟨⟨A, c, e1, hc⟩, ⟨z, e2, hz⟩, hl, hu⟩ := hF p y hy
    have o := h.pl.part hy
    have hlen : y.2.length = (F p).length + 2 := by rw [e2]; simp [uv, hz]
    rw [hlen, e1, e2] at o
    exact ⟨A, c, by rw [e1]; simp [clip2], by omega, rd_left (own_rd o), by omega, hu⟩)
  exact ⟨ql, by simpa using h1, h2⟩
theorem still_ok {w : World} {base : Nat} {W H D : Int} {al : Bool} {AV : Option Addr} {cV : Nat} {A : Option Addr} {ca : Nat} {qa : List Pl} {q0 : List (Value × List Value)} (ra : Rd w A (qa.map Pl.v)) (oa : ∀ x ∈ qa, x.ok w) (la : qa.length ≤ 4294967296) (hsm : ∀ x ∈ qa, x.l.length ≤ 4294967296)
    (hq : q0.length = qa.length) (hall : Cpd qa q0) (F : Cp w base (.slice AV qa.length cV) q0) :
    ∃ q w', C 9 #[fv W H D al AV qa.length cV, fv W H D al A qa.length ca] w = some (.bool true, w') ∧ q.length = qa.length ∧ Stl qa q0 q qa.length ∧ Cp w' base (.slice AV qa.length cV) q ∧ Grew (rfp q0) w w' := by
  have hmx : (maxLen : Int) = 9223372036854775807 := by simp [maxLen]
  obtain ⟨W0, hW0⟩ : ∃ W0, W0 = w.alloc (.cells #[.int .i64 W, .int .i64 H, .int .i64 D, .bool al, .slice AV qa.length cV] 30) := ⟨_, rfl⟩
  have g0 : w.grownBy W0 none := hW0 ▸ World.grownBy_alloc w _ none
  have b0 : Blk W0 w.heap.size 30 (fcs W H D al (.slice AV qa.length cV)) := hW0 ▸ Blk.new w 30 (fcs W H D al (.slice AV qa.length cV))
  obtain ⟨W1, hW1⟩ : ∃ W1, W1 = W0.alloc (.cells #[.int .i64 W, .int .i64 H, .int .i64 D, .bool al, .slice A qa.length ca] 30) := ⟨_, rfl⟩
  have g1 : W0.grownBy W1 none := hW1 ▸ World.grownBy_alloc W0 _ none
  have b1 : Blk W1 W0.heap.size 30 (fcs W H D al (.slice A qa.length ca)) := hW1 ▸ Blk.new W0 30 (fcs W H D al (.slice A qa.length ca))
  have hs0 : W0.heap.size = w.heap.size + 1 := by rw [hW0]; simp
  have b01 := b0.grown g1 (by simp)
  have G1 := grown_trans g0 g1 (by simp)
  have F1 := F.new G1
  have F1' := F1
  rw [← hq] at F1'
  obtain ⟨ql, k1, k2, k3, k4⟩ := cp_pl F1' (fun p => (qa[p]?.map Pl.l).getD []) (fun p y hy => by
    have hp := (List.getElem?_eq_some_iff.mp hy).1
    obtain ⟨x, hx⟩ : ∃ x, qa[p]? = some x := ⟨_, List.getElem?_eq_getElem (by omega)⟩
    obtain ⟨A', c', rfl, hc⟩ := hall p y x hy hx
    have hxm := List.mem_of_getElem? hx
    simp only [hx, Option.map_some, Option.getD_some]
    exact ⟨⟨A', c', rfl, hc⟩, ⟨mk2, rfl, rfl⟩, hsm x hxm, (oa x hxm).rng⟩)
  have hlq : ql.length = qa.length := by omega
  obtain ⟨w2, a2, g2⟩ := same_ok k3 (ra.grown G1) k4 (fun x hx => (oa x hx).grown G1) (ca := cV) (cb := ca) W H D al (by omega) hlq.symm (fun p x y hx hy => by
    rw [k2 p x hx]
    simp only [hy, Option.map_some, Option.getD_some])
  rw [hlq] at a2
  have b2 := b01.grown g2 (by simp)
  obtain ⟨r, h3, q, w3, rfl, hq3, hst, F3, G3⟩ := still_l1 (w1 := w2) (base := base) (a := w.heap.size) (W := W) (H := H) (D := D) (al := al) (AV := AV) (cV := cV) hall la hsm qa.length _ w2 ⟨0, q0, rfl, by omega, hq, (fun p y x hy hx => by
    obtain ⟨A', c', rfl, hc⟩ := hall p y x hy hx
    exact ⟨⟨_, hy, rfl⟩, by rw [if_neg (by omega)]⟩), F1.new g2, b2, fun _ h => h, Grew.refl _ _⟩
  refine ⟨q, w3, f9.run rfl ?_, hq3, hst, F3, (grew_new (grown_trans G1 g2 (by simp))).step G3⟩
  simp only [f9]
  simp only [show ((0 : Nat) : Int) = 0 from rfl] at h3
  simp [box_any, Value.cells, ← hW0, ← hW1, hs0, ld30b b01, ld30b (hs0 ▸ b1), a2, h3]
end Go.Sh.YtacfghffojijaaaDoor

namespace Go.Sh.YtacfghffojijaaaDoor
open Go Go.Proofs Go.RowKit
set_option linter.unusedVariables false
set_option linter.unusedSimpArgs false
set_option maxRecDepth 100000
theorem mix_arg {part of : Int} (h : ¬ (1 ≤ of ∧ of ≤ 101 ∧ 0 ≤ part ∧ part ≤ of)) (w : World) (W H D : Int) (al : Bool) (A : Option Addr) (n ca : Nat) (W' H' D' : Int) (al' : Bool) (B : Option Addr) (m cb : Nat) :
    ∃ w', C 8 #[fv W H D al A n ca, fv W' H' D' al' B m cb, .int .i64 part, .int .i64 of] w = some (.tuple #[fv 0 0 0 false none 0 0, .int .i64 1], w') ∧ w.grownBy w' none := by
  obtain ⟨W0, hW0⟩ : ∃ W0, W0 = w.alloc (.cells #[.int .i64 W, .int .i64 H, .int .i64 D, .bool al, .slice A n ca] 30) := ⟨_, rfl⟩
  have g0 : w.grownBy W0 none := hW0 ▸ World.grownBy_alloc w _ none
  obtain ⟨W1, hW1⟩ : ∃ W1, W1 = W0.alloc (.cells #[.int .i64 W', .int .i64 H', .int .i64 D', .bool al', .slice B m cb] 30) := ⟨_, rfl⟩
  have g1 : W0.grownBy W1 none := hW1 ▸ World.grownBy_alloc W0 _ none
  obtain ⟨W2, hW2⟩ : ∃ W2, W2 = W1.alloc (.cells #[.int .i64 0, .int .i64 0, .int .i64 0, .bool false, .slice none 0 0] 30) := ⟨_, rfl⟩
  have g2 : W1.grownBy W2 none := hW2 ▸ World.grownBy_alloc W1 _ none
  have b2 : Blk W2 W1.heap.size 30 (fcs 0 0 0 false (.slice none 0 0)) := hW2 ▸ Blk.new W1 30 (fcs 0 0 0 false (.slice none 0 0))
  have G2 : w.grownBy W2 none := grown_trans (grown_trans g0 g1 (by simp)) g2 (by simp)
  have hs : w.heap.size ≤ W1.heap.size := (grown_trans g0 g1 (by simp)).size
  obtain ⟨w3, s3, b3, g3⟩ := st30 b2 rfl 0 0 0 false none 0 0
  refine ⟨w3, f8.run rfl ?_, grown_trans G2 g3 fun k hk => by cases hk; omega⟩
  by_cases c1 : of < 1
  · simp [f8, box_any, Value.cells, ← hW0, ← hW1, alloc30 W1, ← hW2, c1, build30z, s3, loads_two b3]
  · by_cases c2 : 101 < of
    · simp [f8, box_any, Value.cells, ← hW0, ← hW1, alloc30 W1, ← hW2, c1, c2, build30z, s3, loads_two b3]
    · by_cases c3 : part < 0
      · simp [f8, box_any, Value.cells, ← hW0, ← hW1, alloc30 W1, ← hW2, c1, c2, c3, build30z, s3, loads_two b3]
      · have c4 : of < part := by
          by_cases hh : of < part
          · exact hh
          · exact absurd ⟨by omega, by omega, by omega, by omega⟩ h
        simp [f8, box_any, Value.cells, ← hW0, ← hW1, alloc30 W1, ← hW2, c1, c2, c3, c4, build30z, s3, loads_two b3]
theorem rmix_arg {part of : Int} (h : ¬ (1 ≤ of ∧ of ≤ 101 ∧ 0 ≤ part ∧ part ≤ of)) (w : World) (W H D : Int) (al : Bool) (A : Option Addr) (n ca : Nat) (W' H' D' : Int) (al' : Bool) (B : Option Addr) (m cb : Nat) :
    ∃ w', C 10 #[fv W H D al A n ca, fv W' H' D' al' B m cb, .int .i64 part, .int .i64 of] w = some (.tuple #[fv 0 0 0 false none 0 0, .int .i64 1], w') ∧ w.grownBy w' none := by
  obtain ⟨W0, hW0⟩ : ∃ W0, W0 = w.alloc (.cells #[.int .i64 W, .int .i64 H, .int .i64 D, .bool al, .slice A n ca] 30) := ⟨_, rfl⟩
  have g0 : w.grownBy W0 none := hW0 ▸ World.grownBy_alloc w _ none
  obtain ⟨W1, hW1⟩ : ∃ W1, W1 = W0.alloc (.cells #[.int .i64 W', .int .i64 H', .int .i64 D', .bool al', .slice B m cb] 30) := ⟨_, rfl⟩
  have g1 : W0.grownBy W1 none := hW1 ▸ World.grownBy_alloc W0 _ none
  obtain ⟨W2, hW2⟩ : ∃ W2, W2 = W1.alloc (.cells #[.int .i64 0, .int .i64 0, .int .i64 0, .bool false, .slice none 0 0] 30) := ⟨_, rfl⟩
  have g2 : W1.grownBy W2 none := hW2 ▸ World.grownBy_alloc W1 _ none
  have b2 : Blk W2 W1.heap.size 30 (fcs 0 0 0 false (.slice none 0 0)) := hW2 ▸ Blk.new W1 30 (fcs 0 0 0 false (.slice none 0 0))
  have G2 : w.grownBy W2 none := grown_trans (grown_trans g0 g1 (by simp)) g2 (by simp)
  have hs : w.heap.size ≤ W1.heap.size := (grown_trans g0 g1 (by simp)).size
  obtain ⟨w3, s3, b3, g3⟩ := st30 b2 rfl 0 0 0 false none 0 0
  refine ⟨w3, f10.run rfl ?_, grown_trans G2 g3 fun k hk => by cases hk; omega⟩
  by_cases c1 : of < 1
  · simp [f10, box_any, Value.cells, ← hW0, ← hW1, alloc30 W1, ← hW2, c1, build30z, s3, loads_two b3]
  · by_cases c2 : 101 < of
    · simp [f10, box_any, Value.cells, ← hW0, ← hW1, alloc30 W1, ← hW2, c1, c2, build30z, s3, loads_two b3]
    · by_cases c3 : part < 0
      · simp [f10, box_any, Value.cells, ← hW0, ← hW1, alloc30 W1, ← hW2, c1, c2, c3, build30z, s3, loads_two b3]
      · have c4 : of < part := by
          by_cases hh : of < part
          · exact hh
          · exact absurd ⟨by omega, by omega, by omega, by omega⟩ h
        simp [f10, box_any, Value.cells, ← hW0, ← hW1, alloc30 W1, ← hW2, c1, c2, c3, c4, build30z, s3, loads_two b3]
end Go.Sh.YtacfghffojijaaaDoor

