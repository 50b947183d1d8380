/- plane: planes, width, total, Shaped, within, Valid: what they answer. Conditions: those of each statement. -/
import Derived.Test.YtacfghffojijaaaDoorCF
import Derived.Test.YtacfghffojijaaaDoorShOwn
namespace Go.Sh.YtacfghffojijaaaDoor
open Go Go.Proofs Go.RowKit
set_option linter.unusedVariables false
set_option linter.unusedSimpArgs false
set_option maxRecDepth 100000
noncomputable abbrev C := R noPrim
theorem bool_not (b : Bool) : prun Tryd.prog (Op.unary .not (.bool b)) = some (.bool !b) := id (by kernel_rfl)
abbrev sv (W H D : Int) (al : Bool) : Value := .agg #[.int .i64 W, .int .i64 H, .int .i64 D, .bool al]
abbrev fv (W H D : Int) (al : Bool) (A : Option Addr) (n c : Nat) : Value := .agg #[.int .i64 W, .int .i64 H, .int .i64 D, .bool al, .slice A n c]
def wd (W : Int) (p : Nat) : Int := if p = 1 ∨ p = 2 then (W + 1) / 2 else W
def pl (al : Bool) : Nat := if al then 4 else 3
def ts (W H : Int) : Nat → Int
  | 0 => 0
  | k + 1 => ts W H k + wd W k * H
def Shd (W H D : Int) (al : Bool) : Prop := 1 ≤ W ∧ W ≤ 4096 ∧ 1 ≤ H ∧ H ≤ 4096 ∧ (D = 10 ∨ D = 12) ∧ ts W H (pl al) ≤ 4194304
theorem pl_le (al : Bool) : 3 ≤ pl al ∧ pl al ≤ 4 := by cases al <;> simp [pl]
theorem prod_bound {a b : Int} (a0 : 0 ≤ a) (a1 : a ≤ 4096) (b0 : 0 ≤ b) (b1 : b ≤ 4096) : 0 ≤ a * b ∧ a * b ≤ 16777216 := by
  refine ⟨Int.mul_nonneg a0 b0, ?_⟩
  have := Int.mul_le_mul_of_nonneg_right a1 b0
  omega
theorem wd_le {W : Int} (h0 : 1 ≤ W) (h1 : W ≤ 4096) (p : Nat) : 1 ≤ wd W p ∧ wd W p ≤ 4096 := by
  unfold wd
  split <;> omega
theorem ts_le {W H : Int} (h0 : 1 ≤ W) (h1 : W ≤ 4096) (h2 : 1 ≤ H) (h3 : H ≤ 4096) (k : Nat) : 0 ≤ ts W H k ∧ ts W H k ≤ 16777216 * k := by
  induction k with
  | zero => simp [ts]
  | succ k ih =>
    have h := wd_le h0 h1 k
    have := prod_bound (a := wd W k) (b := H) (by omega) (by omega) (by omega) h3
    simp only [ts]
    omega
theorem ld27b {w : World} {b : Nat} {e : TypeId} {cs : List Value} (h : Blk w b e cs) {v0 v1 v2 v3 : Value} {r : List Value} (hc : cs = v0 :: v1 :: v2 :: v3 :: r) : rrun Tryd.prog (Instr.loadAt 27 (.pointer (some ⟨b, 0, none⟩))) w = some (.agg #[v0, v1, v2, v3]) := by
  subst hc
  exact ld27 (by rw [addL]; exact h.cell_eq 0 rfl) (by rw [addL]; exact h.cell_eq 1 rfl) (by rw [addL]; exact h.cell_eq 2 rfl) (by rw [addL]; exact h.cell_eq 3 rfl)
theorem half_ok (n : Int) (h0 : 0 ≤ n) (h1 : n ≤ 1099511627776) (w : World) : C 36 #[.int .i64 n] w = some (.int .i64 ((n + 1) / 2), w) := by
  have e1 : IntKind.i64.wrap (n + 1) = n + 1 := wrap_i64 (by omega) (by omega)
  have e2 : (n + 1).tdiv 2 = (n + 1) / 2 := Int.tdiv_eq_ediv_of_nonneg (by omega)
  have e3 : IntKind.i64.wrap ((n + 1) / 2) = (n + 1) / 2 := wrap_i64 (by omega) (by omega)
  refine f36.run rfl ?_
  simp [f36, e1, bin_quo, e2, e3]
theorem side_ok (n : Int) (w : World) : C 34 #[.int .i64 n] w = some (.bool (decide (1 ≤ n ∧ n ≤ 4096)), w) := by
  refine f34.run rfl ?_
  by_cases h : 1 ≤ n
  · simp [f34, h]
  · simp [f34, h]
theorem planes_ok (W H D : Int) (al : Bool) (w : World) : ∃ w', C 21 #[sv W H D al] w = some (.int .i64 (pl al), w') ∧ w.grownBy w' none := by
  refine ⟨w.alloc (.cells #[.int .i64 W, .int .i64 H, .int .i64 D, .bool al] 27), f21.run rfl ?_, World.grownBy_alloc w _ none⟩
  cases al <;> simp [f21, box_any, Value.cells, addL, pl]
theorem width_ok {W : Int} (H D : Int) (al : Bool) (h0 : 1 ≤ W) (h1 : W ≤ 4096) (p : Nat) (w : World) : ∃ w', C 22 #[sv W H D al, .int .i64 p] w = some (.int .i64 (wd W p), w') ∧ w.grownBy w' none := by
  refine ⟨w.alloc (.cells #[.int .i64 W, .int .i64 H, .int .i64 D, .bool al] 27), f22.run rfl ?_, World.grownBy_alloc w _ none⟩
  have a1 := half_ok W (by omega) (by omega) (w.alloc (.cells #[.int .i64 W, .int .i64 H, .int .i64 D, .bool al] 27))
  by_cases c1 : p = 1
  · subst c1; simp [f22, box_any, Value.cells, wd, a1]
  · by_cases c2 : p = 2
    · subst c2; simp [f22, box_any, Value.cells, wd, a1]
    · have e1 : ¬ ((p : Int) = 1) := by omega
      have e2 : ¬ ((p : Int) = 2) := by omega
      simp [f22, box_any, Value.cells, wd, c1, c2, e1, e2]
theorem total_ok {W H : Int} (D : Int) (al : Bool) (h0 : 1 ≤ W) (h1 : W ≤ 4096) (h2 : 1 ≤ H) (h3 : H ≤ 4096) (w : World) : ∃ w', C 35 #[sv W H D al] w = some (.int .i64 (ts W H (pl al)), w') ∧ w.grownBy w' none := by
  obtain ⟨W0, hW0⟩ : ∃ W0, W0 = w.alloc (.cells #[.int .i64 W, .int .i64 H, .int .i64 D, .bool al] 27) := ⟨_, rfl⟩
  have g0 : w.grownBy W0 none := hW0 ▸ World.grownBy_alloc w _ none
  have b0 : Blk W0 w.heap.size 27 [.int .i64 W, .int .i64 H, .int .i64 D, .bool al] := hW0 ▸ Blk.new w 27 [.int .i64 W, .int .i64 H, .int .i64 D, .bool al]
  obtain ⟨w1, a1, g1⟩ := planes_ok W H D al W0
  have hp := pl_le al
  have key := iter_down (f := f35.l0 C) (fun d st w2 => ∃ i : Nat, st = [.pointer (some ⟨w.heap.size, 0, none⟩), .int .i64 (ts W H i), .int .i64 (pl al), .int .i64 i] ∧ i + d = pl al ∧ W0.grownBy w2 none)
    (fun r => ∃ w2, r = .exit 0 [.int .i64 (ts W H (pl al))] w2 ∧ W0.grownBy w2 none) (by
      rintro d st w2 ⟨i, rfl, hi, G⟩
      cases d with
      | zero =>
        obtain rfl : i = pl al := by omega
        exact .inr ⟨_, by simp [f35.l0], ⟨w2, rfl, G⟩, by simp⟩
      | succ d =>
        have b2 := b0.grown G (by simp)
        obtain ⟨u, hu⟩ : ∃ u, u = w2.drew := ⟨_, rfl⟩
        have gu : w2.grownBy u none := hu ▸ grown_drew w2 none
        have bu := b2.grown gu (by simp)
        obtain ⟨w3, a3, g3⟩ := width_ok H D al h0 h1 i u
        have b3 := bu.grown g3 (by simp)
        have hw := wd_le h0 h1 i
        have hm := prod_bound (a := wd W i) (b := H) (by omega) (by omega) (by omega) h3
        have ht := ts_le h0 h1 h2 h3 i
        have e1 : IntKind.i64.wrap (wd W i * H) = wd W i * H := wrap_i64 (by omega) (by omega)
        have e2 : IntKind.i64.wrap (ts W H i + wd W i * H) = ts W H (i + 1) := wrap_i64 (by omega) (by omega)
        have e3 : IntKind.i64.wrap ((i : Int) + 1) = ((i + 1 : Nat) : Int) := (wrap_i64 (by omega) (by omega)).trans (by omega)
        refine .inl ⟨d, _, w3, by omega, ?_, ⟨i + 1, rfl, by omega, grown_trans (grown_trans G gu (by simp)) g3 (by simp)⟩⟩
        simp (disch := omega) [f35.l0, lt_t, ld27b b2 rfl, ld27b bu rfl, ← hu, a3, addL, b2.cell_eq 1 rfl, bu.cell_eq 1 rfl, b3.cell_eq 1 rfl, e1, e2, e3]) (pl al) _ w1 ⟨0, rfl, by omega, g1⟩
  obtain ⟨r, h4, w4, rfl, g4⟩ := key
  refine ⟨w4, f35.run rfl ?_, grown_trans g0 g4 (by simp)⟩
  simp [ts] at h4
  simp [f35, box_any, Value.cells, ← hW0, ld27b b0 rfl, a1, h4]
open Classical in
theorem shaped_ok (W H D : Int) (al : Bool) (w : World) : ∃ w', C 20 #[sv W H D al] w = some (.int .i64 (if Shd W H D al then 0 else 61), w') ∧ w.grownBy w' none := by
  obtain ⟨W0, hW0⟩ : ∃ W0, W0 = w.alloc (.cells #[.int .i64 W, .int .i64 H, .int .i64 D, .bool al] 27) := ⟨_, rfl⟩
  have g0 : w.grownBy W0 none := hW0 ▸ World.grownBy_alloc w _ none
  have b0 : Blk W0 w.heap.size 27 [.int .i64 W, .int .i64 H, .int .i64 D, .bool al] := hW0 ▸ Blk.new w 27 [.int .i64 W, .int .i64 H, .int .i64 D, .bool al]
  have a1 := side_ok W W0
  have a2 := side_ok H W0
  by_cases c1 : 1 ≤ W ∧ W ≤ 4096
  · by_cases c2 : 1 ≤ H ∧ H ≤ 4096
    · by_cases c3 : D = 10 ∨ D = 12
      · obtain ⟨w1, a3, g1⟩ := total_ok D al c1.1 c1.2 c2.1 c2.2 W0
        refine ⟨w1, f20.run rfl ?_, grown_trans g0 g1 (by simp)⟩
        by_cases c4 : ts W H (pl al) ≤ 4194304
        · have hS : Shd W H D al := ⟨c1.1, c1.2, c2.1, c2.2, c3, c4⟩
          rcases c3 with rfl | rfl <;>
          simp (disch := omega) [f20, box_any, Value.cells, ← hW0, addL, b0.cell_eq 0 rfl, b0.cell_eq 1 rfl, b0.cell_eq 2 rfl, ld27b b0 rfl, a1, a2, c1, c2, bool_not, a3, lt_f, hS]
        · have hS : ¬ Shd W H D al := fun h => c4 h.2.2.2.2.2
          rcases c3 with rfl | rfl <;>
          simp (disch := omega) [f20, box_any, Value.cells, ← hW0, addL, b0.cell_eq 0 rfl, b0.cell_eq 1 rfl, b0.cell_eq 2 rfl, ld27b b0 rfl, a1, a2, c1, c2, bool_not, a3, lt_t, hS]
      · have hS : ¬ Shd W H D al := fun h => c3 h.2.2.2.2.1
        have d1 : ¬ D = 10 := fun h => c3 (.inl h)
        have d2 : ¬ D = 12 := fun h => c3 (.inr h)
        refine ⟨W0, f20.run rfl ?_, g0⟩
        simp [f20, box_any, Value.cells, ← hW0, addL, b0.cell_eq 0 rfl, b0.cell_eq 1 rfl, b0.cell_eq 2 rfl, a1, a2, c1, c2, bool_not, d1, d2, hS]
    · have hS : ¬ Shd W H D al := fun h => c2 ⟨h.2.2.1, h.2.2.2.1⟩
      refine ⟨W0, f20.run rfl ?_, g0⟩
      simp [f20, box_any, Value.cells, ← hW0, addL, b0.cell_eq 0 rfl, b0.cell_eq 1 rfl, a1, a2, c1, c2, bool_not, hS]
  · have hS : ¬ Shd W H D al := fun h => c1 ⟨h.1, h.2.1⟩
    refine ⟨W0, f20.run rfl ?_, g0⟩
    simp [f20, box_any, Value.cells, ← hW0, addL, b0.cell_eq 0 rfl, a1, c1, bool_not, hS]
end Go.Sh.YtacfghffojijaaaDoor
