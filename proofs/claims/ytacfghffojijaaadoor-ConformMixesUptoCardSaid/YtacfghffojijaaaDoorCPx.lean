/- plane: planes, width, total, Shaped, within, Valid: what they answer. Conditions: those of each statement. -/
import Derived.Test.YtacfghffojijaaaDoorCF
import Derived.Test.YtacfghffojijaaaDoorShOwn
import Derived.Test.YtacfghffojijaaaDoorShStruct
import Derived.Test.YtacfghffojijaaaDoorRows
import Derived.Test.YtacfghffojijaaaDoorShLaid
import Derived.Below
import Derived.MakeChecks
import Derived.OpenShut
namespace Go.Sh.YtacfghffojijaaaDoor
open Go Go.Proofs Go.RowKit
set_option linter.unusedVariables false
set_option linter.unusedSimpArgs false
set_option maxRecDepth 100000
noncomputable abbrev C := R noPrim
theorem bool_not (b : Bool) : prun Tryd.prog (Op.unary .not (.bool b)) = some (.bool !b) := id (by kernel_rfl)
abbrev sv (W H D : Int) (al : Bool) : Value := .agg #[.int .i64 W, .int .i64 H, .int .i64 D, .bool al]
abbrev fv (W H D : Int) (al : Bool) (A : Option Addr) (n c : Nat) : Value := .agg #[.int .i64 W, .int .i64 H, .int .i64 D, .bool al, .slice A n c]
def wd (W : Int) (p : Nat) : Int := if p = 1 ∨ p = 2 then (W + 1) / 2 else W
def pl (al : Bool) : Nat := if al then 4 else 3
def ts (W H : Int) : Nat → Int
  | 0 => 0
  | k + 1 => ts W H k + wd W k * H
def Shd (W H D : Int) (al : Bool) : Prop := 1 ≤ W ∧ W ≤ 4096 ∧ 1 ≤ H ∧ H ≤ 4096 ∧ (D = 10 ∨ D = 12) ∧ ts W H (pl al) ≤ 4194304
theorem pl_le (al : Bool) : 3 ≤ pl al ∧ pl al ≤ 4 := by cases al <;> simp [pl]
theorem prod_bound {a b : Int} (a0 : 0 ≤ a) (a1 : a ≤ 4096) (b0 : 0 ≤ b) (b1 : b ≤ 4096) : 0 ≤ a * b ∧ a * b ≤ 16777216 := by
  refine ⟨Int.mul_nonneg a0 b0, ?_⟩
  have := Int.mul_le_mul_of_nonneg_right a1 b0
  omega
theorem wd_le {W : Int} (h0 : 1 ≤ W) (h1 : W ≤ 4096) (p : Nat) : 1 ≤ wd W p ∧ wd W p ≤ 4096 := by
  unfold wd
  split <;> omega
theorem ts_le {W H : Int} (h0 : 1 ≤ W) (h1 : W ≤ 4096) (h2 : 1 ≤ H) (h3 : H ≤ 4096) (k : Nat) : 0 ≤ ts W H k ∧ ts W H k ≤ 16777216 * k := by
  induction k with
  | zero => simp [ts]
  | succ k ih =>
    have h := wd_le h0 h1 k
    have := prod_bound (a := wd W k) (b := H) (by omega) (by omega) (by omega) h3
    simp only [ts]
    omega
theorem ld27b {w : World} {b : Nat} {e : TypeId} {cs : List Value} (h : Blk w b e cs) {v0 v1 v2 v3 : Value} {r : List Value} (hc : cs = v0 :: v1 :: v2 :: v3 :: r) : rrun Tryd.prog (Instr.loadAt 27 (.pointer (some ⟨b, 0, none⟩))) w = some (.agg #[v0, v1, v2, v3]) := by
  subst hc
  exact ld27 (by rw [addL]; exact h.cell_eq 0 rfl) (by rw [addL]; exact h.cell_eq 1 rfl) (by rw [addL]; exact h.cell_eq 2 rfl) (by rw [addL]; exact h.cell_eq 3 rfl)
theorem half_ok (n : Int) (h0 : 0 ≤ n) (h1 : n ≤ 1099511627776) (w : World) : C 36 #[.int .i64 n] w = some (.int .i64 ((n + 1) / 2), w) := by
  have e1 : IntKind.i64.wrap (n + 1) = n + 1 := wrap_i64 (by omega) (by omega)
  have e2 : (n + 1).tdiv 2 = (n + 1) / 2 := Int.tdiv_eq_ediv_of_nonneg (by omega)
  have e3 : IntKind.i64.wrap ((n + 1) / 2) = (n + 1) / 2 := wrap_i64 (by omega) (by omega)
  refine f36.run rfl ?_
  simp [f36, e1, bin_quo, e2, e3]
theorem side_ok (n : Int) (w : World) : C 34 #[.int .i64 n] w = some (.bool (decide (1 ≤ n ∧ n ≤ 4096)), w) := by
  refine f34.run rfl ?_
  by_cases h : 1 ≤ n
  · simp [f34, h]
  · simp [f34, h]
theorem planes_ok (W H D : Int) (al : Bool) (w : World) : ∃ w', C 21 #[sv W H D al] w = some (.int .i64 (pl al), w') ∧ w.grownBy w' none := by
  refine ⟨w.alloc (.cells #[.int .i64 W, .int .i64 H, .int .i64 D, .bool al] 27), f21.run rfl ?_, World.grownBy_alloc w _ none⟩
  cases al <;> simp [f21, box_any, Value.cells, addL, pl]
theorem width_ok {W : Int} (H D : Int) (al : Bool) (h0 : 1 ≤ W) (h1 : W ≤ 4096) (p : Nat) (w : World) : ∃ w', C 22 #[sv W H D al, .int .i64 p] w = some (.int .i64 (wd W p), w') ∧ w.grownBy w' none := by
  refine ⟨w.alloc (.cells #[.int .i64 W, .int .i64 H, .int .i64 D, .bool al] 27), f22.run rfl ?_, World.grownBy_alloc w _ none⟩
  have a1 := half_ok W (by omega) (by omega) (w.alloc (.cells #[.int .i64 W, .int .i64 H, .int .i64 D, .bool al] 27))
  by_cases c1 : p = 1
  · subst c1; simp [f22, box_any, Value.cells, wd, a1]
  · by_cases c2 : p = 2
    · subst c2; simp [f22, box_any, Value.cells, wd, a1]
    · have e1 : ¬ ((p : Int) = 1) := by omega
      have e2 : ¬ ((p : Int) = 2) := by omega
      simp [f22, box_any, Value.cells, wd, c1, c2, e1, e2]
theorem total_ok {W H : Int} (D : Int) (al : Bool) (h0 : 1 ≤ W) (h1 : W ≤ 4096) (h2 : 1 ≤ H) (h3 : H ≤ 4096) (w : World) : ∃ w', C 35 #[sv W H D al] w = some (.int .i64 (ts W H (pl al)), w') ∧ w.grownBy w' none := by
  obtain ⟨W0, hW0⟩ : ∃ W0, W0 = w.alloc (.cells #[.int .i64 W, .int .i64 H, .int .i64 D, .bool al] 27) := ⟨_, rfl⟩
  have g0 : w.grownBy W0 none := hW0 ▸ World.grownBy_alloc w _ none
  have b0 : Blk W0 w.heap.size 27 [.int .i64 W, .int .i64 H, .int .i64 D, .bool al] := hW0 ▸ Blk.new w 27 [.int .i64 W, .int .i64 H, .int .i64 D, .bool al]
  obtain ⟨w1, a1, g1⟩ := planes_ok W H D al W0
  have hp := pl_le al
  have key := iter_down (f := f35.l0 C) (fun d st w2 => ∃ i : Nat, st = [.pointer (some ⟨w.heap.size, 0, none⟩), .int .i64 (ts W H i), .int .i64 (pl al), .int .i64 i] ∧ i + d = pl al ∧ W0.grownBy w2 none)
    (fun r => ∃ w2, r = .exit 0 [.int .i64 (ts W H (pl al))] w2 ∧ W0.grownBy w2 none) (by
      rintro d st w2 ⟨i, rfl, hi, G⟩
      cases d with
      | zero =>
        obtain rfl : i = pl al := by omega
        exact .inr ⟨_, by simp [f35.l0], ⟨w2, rfl, G⟩, by simp⟩
      | succ d =>
        have b2 := b0.grown G (by simp)
        obtain ⟨u, hu⟩ : ∃ u, u = w2.drew := ⟨_, rfl⟩
        have gu : w2.grownBy u none := hu ▸ grown_drew w2 none
        have bu := b2.grown gu (by simp)
        obtain ⟨w3, a3, g3⟩ := width_ok H D al h0 h1 i u
        have b3 := bu.grown g3 (by simp)
        have hw := wd_le h0 h1 i
        have hm := prod_bound (a := wd W i) (b := H) (by omega) (by omega) (by omega) h3
        have ht := ts_le h0 h1 h2 h3 i
        have e1 : IntKind.i64.wrap (wd W i * H) = wd W i * H := wrap_i64 (by omega) (by omega)
        have e2 : IntKind.i64.wrap (ts W H i + wd W i * H) = ts W H (i + 1) := wrap_i64 (by omega) (by omega)
        have e3 : IntKind.i64.wrap ((i : Int) + 1) = ((i + 1 : Nat) : Int) := (wrap_i64 (by omega) (by omega)).trans (by omega)
        refine .inl ⟨d, _, w3, by omega, ?_, ⟨i + 1, rfl, by omega, grown_trans (grown_trans G gu (by simp)) g3 (by simp)⟩⟩
        simp (disch := omega) [f35.l0, lt_t, ld27b b2 rfl, ld27b bu rfl, ← hu, a3, addL, b2.cell_eq 1 rfl, bu.cell_eq 1 rfl, b3.cell_eq 1 rfl, e1, e2, e3]) (pl al) _ w1 ⟨0, rfl, by omega, g1⟩
  obtain ⟨r, h4, w4, rfl, g4⟩ := key
  refine ⟨w4, f35.run rfl ?_, grown_trans g0 g4 (by simp)⟩
  simp [ts] at h4
  simp [f35, box_any, Value.cells, ← hW0, ld27b b0 rfl, a1, h4]
open Classical in
theorem shaped_ok (W H D : Int) (al : Bool) (w : World) : ∃ w', C 20 #[sv W H D al] w = some (.int .i64 (if Shd W H D al then 0 else 61), w') ∧ w.grownBy w' none := by
  obtain ⟨W0, hW0⟩ : ∃ W0, W0 = w.alloc (.cells #[.int .i64 W, .int .i64 H, .int .i64 D, .bool al] 27) := ⟨_, rfl⟩
  have g0 : w.grownBy W0 none := hW0 ▸ World.grownBy_alloc w _ none
  have b0 : Blk W0 w.heap.size 27 [.int .i64 W, .int .i64 H, .int .i64 D, .bool al] := hW0 ▸ Blk.new w 27 [.int .i64 W, .int .i64 H, .int .i64 D, .bool al]
  have a1 := side_ok W W0
  have a2 := side_ok H W0
  by_cases c1 : 1 ≤ W ∧ W ≤ 4096
  · by_cases c2 : 1 ≤ H ∧ H ≤ 4096
    · by_cases c3 : D = 10 ∨ D = 12
      · obtain ⟨w1, a3, g1⟩ := total_ok D al c1.1 c1.2 c2.1 c2.2 W0
        refine ⟨w1, f20.run rfl ?_, grown_trans g0 g1 (by simp)⟩
        by_cases c4 : ts W H (pl al) ≤ 4194304
        · have hS : Shd W H D al := ⟨c1.1, c1.2, c2.1, c2.2, c3, c4⟩
          rcases c3 with rfl | rfl <;>
          simp (disch := omega) [f20, box_any, Value.cells, ← hW0, addL, b0.cell_eq 0 rfl, b0.cell_eq 1 rfl, b0.cell_eq 2 rfl, ld27b b0 rfl, a1, a2, c1, c2, bool_not, a3, lt_f, hS]
        · have hS : ¬ Shd W H D al := fun h => c4 h.2.2.2.2.2
          rcases c3 with rfl | rfl <;>
          simp (disch := omega) [f20, box_any, Value.cells, ← hW0, addL, b0.cell_eq 0 rfl, b0.cell_eq 1 rfl, b0.cell_eq 2 rfl, ld27b b0 rfl, a1, a2, c1, c2, bool_not, a3, lt_t, hS]
      · have hS : ¬ Shd W H D al := fun h => c3 h.2.2.2.2.1
        have d1 : ¬ D = 10 := fun h => c3 (.inl h)
        have d2 : ¬ D = 12 := fun h => c3 (.inr h)
        refine ⟨W0, f20.run rfl ?_, g0⟩
        simp [f20, box_any, Value.cells, ← hW0, addL, b0.cell_eq 0 rfl, b0.cell_eq 1 rfl, b0.cell_eq 2 rfl, a1, a2, c1, c2, bool_not, d1, d2, hS]
    · have hS : ¬ Shd W H D al := fun h => c2 ⟨h.2.2.1, h.2.2.2.1⟩
      refine ⟨W0, f20.run rfl ?_, g0⟩
      simp [f20, box_any, Value.cells, ← hW0, addL, b0.cell_eq 0 rfl, b0.cell_eq 1 rfl, a1, a2, c1, c2, bool_not, hS]
  · have hS : ¬ Shd W H D al := fun h => c1 ⟨h.1, h.2.1⟩
    refine ⟨W0, f20.run rfl ?_, g0⟩
    simp [f20, box_any, Value.cells, ← hW0, addL, b0.cell_eq 0 rfl, a1, c1, bool_not, hS]
end Go.Sh.YtacfghffojijaaaDoor

namespace Go.Sh.YtacfghffojijaaaDoor
open Go Go.Proofs Go.RowKit
set_option linter.unusedVariables false
set_option linter.unusedSimpArgs false
set_option maxRecDepth 100000
/-- samples, as cells -/
def uv (l : List Int) : List Value := l.map (Value.int .u16)
theorem shr_pos (v : Int) (D : Nat) (hD : D = 10 ∨ D = 12) (h0 : 0 ≤ v) : (v.fdiv (2 ^ min D IntKind.u16.bits) ≠ 0) ↔ (2 : Int) ^ D ≤ v := by
  have e : IntKind.u16.bits = 16 := rfl
  rw [e]
  rcases hD with rfl | rfl
  · have : (v.fdiv (2 ^ min 10 16)) = v / 1024 := by rw [Int.fdiv_eq_ediv_of_nonneg]; rfl; decide
    rw [this]
    show v / 1024 ≠ 0 ↔ (1024 : Int) ≤ v
    omega
  · have : (v.fdiv (2 ^ min 12 16)) = v / 4096 := by rw [Int.fdiv_eq_ediv_of_nonneg]; rfl; decide
    rw [this]
    show v / 4096 ≠ 0 ↔ (4096 : Int) ≤ v
    omega
theorem above_ok {w : World} {b : Nat} {D : Nat} (hD : D = 10 ∨ D = 12) (h : w.cell? ⟨b, 0, none⟩ = some (.int .i64 D)) (v : Int) (h0 : 0 ≤ v) : C 38 #[.int .u16 v, .pointer (some ⟨b, 0, none⟩)] w = some (.bool (decide ((2 : Int) ^ D ≤ v)), w) := by
  refine f38.run rfl ?_
  have hs := p_shr (P := Tryd.prog) 39 (.tmp 4) (.tmp 5) .u16 .i64 v D (by omega)
  rw [Int.toNat_natCast] at hs
  have hiff := shr_pos v D hD h0
  simp only [f38, ld3, h, Option.bind_some, hs]
  by_cases hc : (2 : Int) ^ D ≤ v
  · have hn := hiff.mpr hc
    simp [hn, hc]
  · have hn : v.fdiv (2 ^ min D IntKind.u16.bits) = 0 := by
      by_cases he : v.fdiv (2 ^ min D IntKind.u16.bits) = 0
      · exact he
      · exact absurd (hiff.mp he) hc
    simp [hn, hc]
theorem index_ok {w : World} {b : Nat} {D : Nat} (hD : D = 10 ∨ D = 12) (hb : w.cell? ⟨b, 0, none⟩ = some (.int .i64 D)) {A : Option Addr} {c : Nat} {l : List Int} (hr : Rd w A (uv l)) (hl : l.length ≤ maxLen) (h0 : ∀ v ∈ l, 0 ≤ v) :
    ∃ r : Int, C 47 #[.slice A l.length c, .func (.func 38) #[] #[.pointer (some ⟨b, 0, none⟩)]] w = some (.int .i64 r, w) ∧ ((0 ≤ r) ↔ ∃ v ∈ l, (2 : Int) ^ D ≤ v) := by
  have hmx : (maxLen : Int) = 9223372036854775807 := by simp [maxLen]
  have key := iter_down (f := f47.l0 C) (fun d st w2 => ∃ i : Nat, st = [.slice A l.length c, .func (.func 38) #[] #[.pointer (some ⟨b, 0, none⟩)], .int .i64 l.length, .int .i64 i] ∧ i + d = l.length ∧ w2 = w ∧ ∀ j v, j < i → l[j]? = some v → ¬ (2 : Int) ^ D ≤ v)
    (fun r => (r = .exit 0 [] w ∧ ∀ v ∈ l, ¬ (2 : Int) ^ D ≤ v) ∨ ∃ i : Nat, r = .ret [.int .i64 i] w ∧ ∃ v ∈ l, (2 : Int) ^ D ≤ v) (by
      rintro d st w2 ⟨i, rfl, hi, rfl, hno⟩
      cases d with
      | zero =>
        obtain rfl : i = l.length := by omega
        refine .inr ⟨_, by simp [f47.l0], .inl ⟨rfl, fun v hv => ?_⟩, by simp⟩
        obtain ⟨j, hj⟩ := List.getElem?_of_mem hv
        exact hno j v (List.getElem?_eq_some_iff.mp hj).1 hj
      | succ d =>
        have hil : i < l.length := by omega
        obtain ⟨v, hv⟩ : ∃ v, v = l[i] := ⟨_, rfl⟩
        have hiv : l[i]? = some v := by rw [hv]; exact List.getElem?_eq_getElem hil
        have huv : (uv l)[i]? = some (.int .u16 v) := by simp [uv, hiv]
        cases A with
        | none => have h : uv l = [] := hr; rw [h] at huv; simp at huv
        | some a =>
          have cl := hr i _ huv
          have ix := ix38 a l.length c .i64 i (by omega) (by omega)
          simp only [Int.toNat_natCast, Nat.mul_one] at ix
          have a1 := above_ok hD hb v (h0 v (List.mem_of_getElem? hiv))
          have e3 : IntKind.i64.wrap ((i : Int) + 1) = ((i + 1 : Nat) : Int) := (wrap_i64 (by omega) (by omega)).trans (by omega)
          by_cases hc : (2 : Int) ^ D ≤ v
          · refine .inr ⟨_, ?_, .inr ⟨i, rfl, v, List.mem_of_getElem? hiv, hc⟩, by simp⟩
            rw [decide_eq_true hc] at a1
            simp (disch := omega) [f47.l0, lt_t, ix, cl, callV, a1]
          · refine .inl ⟨d, _, w2, by omega, ?_, ⟨i + 1, rfl, by omega, rfl, fun j u hj hu => ?_⟩⟩
            · rw [decide_eq_false hc] at a1
              simp (disch := omega) [f47.l0, lt_t, ix, cl, callV, a1, e3]
            · by_cases hji : j = i
              · subst hji
                rw [hiv] at hu
                cases hu
                exact hc
              · exact hno j u (by omega) hu) l.length _ w ⟨0, rfl, by omega, rfl, fun j v hj => by omega⟩
  obtain ⟨r, h1, hr⟩ := key
  rcases hr with ⟨rfl, hno⟩ | ⟨i, rfl, hex⟩
  · refine ⟨-1, f47.run rfl ?_, ⟨fun h => by omega, fun ⟨v, hv, hc⟩ => absurd hc (hno v hv)⟩⟩
    simp at h1
    simp [f47, h1]
  · refine ⟨i, f47.run rfl ?_, ⟨fun _ => hex, fun _ => by omega⟩⟩
    simp at h1
    simp [f47, h1]
open Classical in
theorem within_ok {w : World} {D : Nat} (hD : D = 10 ∨ D = 12) {A : Option Addr} {c : Nat} {l : List Int} (hr : Rd w A (uv l)) (hl : l.length ≤ maxLen) (h0 : ∀ v ∈ l, 0 ≤ v) :
    ∃ w', C 23 #[.slice A l.length c, .int .i64 D] w = some (.bool (decide (∀ v ∈ l, v < (2 : Int) ^ D)), w') ∧ w.grownBy w' none := by
  obtain ⟨W0, hW0⟩ : ∃ W0, W0 = w.alloc (.cells #[.int .i64 D] 3) := ⟨_, rfl⟩
  have g0 : w.grownBy W0 none := hW0 ▸ World.grownBy_alloc w _ none
  have b0 : Blk W0 w.heap.size 3 [.int .i64 D] := hW0 ▸ Blk.new w 3 [.int .i64 D]
  obtain ⟨r, a1, hiff⟩ := index_ok hD (b0.cell_eq 0 rfl) (c := c) (hr.grown g0) hl h0
  have a2 : C 37 #[.slice A l.length c, .func (.func 38) #[] #[.pointer (some ⟨w.heap.size, 0, none⟩)]] W0 = some (.bool (decide (0 ≤ r)), W0) := by
    refine f37.run rfl ?_
    simp [f37, a1]
  refine ⟨W0, f23.run rfl ?_, g0⟩
  have e : (!decide (0 ≤ r)) = decide (∀ v ∈ l, v < (2 : Int) ^ D) := by
    by_cases hc : 0 ≤ r
    · obtain ⟨v, hv, h2⟩ := hiff.mp hc
      have : ¬ ∀ v ∈ l, v < (2 : Int) ^ D := fun h => by have := h v hv; omega
      simp only [hc, decide_true, Bool.not_true]
      exact (decide_eq_false this).symm
    · have : ∀ v ∈ l, v < (2 : Int) ^ D := fun v hv => by
        by_cases h2 : (2 : Int) ^ D ≤ v
        · exact absurd (hiff.mpr ⟨v, hv, h2⟩) hc
        · omega
      simp only [hc, decide_false, Bool.not_false]
      exact (decide_eq_true this).symm
  simp [f23, box_any, Value.cells, ← hW0, a2, bool_not]
  rw [← e]
  simp
/-- a plane that came in, or was made -/
structure Pl where
  A : Option Addr
  c : Nat
  l : List Int
def Pl.v (x : Pl) : Value := .slice x.A x.l.length x.c
structure Pl.ok (x : Pl) (w : World) : Prop where
  rd : Rd w x.A (uv x.l)
  cap : x.l.length ≤ x.c
  len : x.l.length ≤ 9223372036854775807
  rng : ∀ v ∈ x.l, 0 ≤ v ∧ v ≤ 65535
theorem Pl.ok.grown {x : Pl} {w w' : World} (h : x.ok w) (hg : w.grownBy w' none) : x.ok w' := ⟨h.rd.grown hg, h.cap, h.len, h.rng⟩
open Classical in
/-- what Valid answers -/
noncomputable def vcode (W H D : Int) (al : Bool) (q : List Pl) : Int :=
  if ¬ Shd W H D al then 61 else if q.length ≠ pl al then 62 else if ∃ p x, q[p]? = some x ∧ (x.l.length : Int) ≠ wd W p * H then 63 else if ∃ x ∈ q, ∃ v ∈ x.l, (2 : Int) ^ D.toNat ≤ v then 64 else 0
theorem valid_ok {W H D : Int} {al : Bool} {A : Option Addr} {c : Nat} {q : List Pl} {w : World} (hr : Rd w A (q.map Pl.v)) (hq : ∀ x ∈ q, x.ok w) (hlen : q.length ≤ maxLen) :
    ∃ w', C 16 #[fv W H D al A q.length c] w = some (.int .i64 (vcode W H D al q), w') ∧ w.grownBy w' none := by
  have hmx : (maxLen : Int) = 9223372036854775807 := by simp [maxLen]
  obtain ⟨W0, hW0⟩ : ∃ W0, W0 = w.alloc (.cells #[.int .i64 W, .int .i64 H, .int .i64 D, .bool al, .slice A q.length c] 30) := ⟨_, rfl⟩
  have g0 : w.grownBy W0 none := hW0 ▸ World.grownBy_alloc w _ none
  have b0 : Blk W0 w.heap.size 30 [.int .i64 W, .int .i64 H, .int .i64 D, .bool al, .slice A q.length c] := hW0 ▸ Blk.new w 30 [.int .i64 W, .int .i64 H, .int .i64 D, .bool al, .slice A q.length c]
  obtain ⟨w1, a1, g1⟩ := shaped_ok W H D al W0
  have G1 := grown_trans g0 g1 (by simp)
  by_cases hS : Shd W H D al
  · rw [if_pos hS] at a1
    obtain ⟨h0, h1, h2, h3, hD, hts⟩ := hS
    obtain ⟨u, hu⟩ : ∃ u, u = w1.drew := ⟨_, rfl⟩
    have gu : w1.grownBy u none := hu ▸ grown_drew w1 none
    have b1 := b0.grown g1 (by simp)
    have bu := b1.grown gu (by simp)
    obtain ⟨w2, a2, g2⟩ := planes_ok W H D al u
    have b2 := bu.grown g2 (by simp)
    have G2 := grown_trans (grown_trans G1 gu (by simp)) g2 (by simp)
    have hple := pl_le al
    by_cases hpl : q.length = pl al
    · have hplI : ((q.length : Int) = (pl al : Int)) = True := eq_true (by omega)
      have key := iter_down (f := f16.l0 C) (fun d st w3 => ∃ i : Nat, st = [.pointer (some ⟨w.heap.size, 0, none⟩), .slice A q.length c, .int .i64 q.length, .int .i64 i] ∧ i + d = q.length ∧ w2.grownBy w3 none ∧ ∀ p x, p < i → q[p]? = some x → (x.l.length : Int) = wd W p * H)
        (fun r => (∃ w3, r = .exit 0 [.pointer (some ⟨w.heap.size, 0, none⟩)] w3 ∧ w2.grownBy w3 none ∧ ∀ p x, q[p]? = some x → (x.l.length : Int) = wd W p * H) ∨ ∃ w3, r = .ret [.int .i64 63] w3 ∧ w2.grownBy w3 none ∧ ∃ p x, q[p]? = some x ∧ (x.l.length : Int) ≠ wd W p * H) (by
          rintro d st w3 ⟨i, rfl, hi, G, hno⟩
          cases d with
          | zero =>
            obtain rfl : i = q.length := by omega
            exact .inr ⟨_, by simp [f16.l0], .inl ⟨w3, rfl, G, fun p x hp => hno p x (List.getElem?_eq_some_iff.mp hp).1 hp⟩, by simp⟩
          | succ d =>
            have hil : i < q.length := by omega
            obtain ⟨x, hx⟩ : ∃ x, x = q[i] := ⟨_, rfl⟩
            have hix : q[i]? = some x := by rw [hx]; exact List.getElem?_eq_getElem hil
            have hxo := hq x (List.mem_of_getElem? hix)
            have hxl := hxo.len
            have hv : (q.map Pl.v)[i]? = some x.v := by simp [hix]
            have b3 := b2.grown G (by simp)
            have G3 := grown_trans G2 G (by simp)
            obtain ⟨u3, hu3⟩ : ∃ u3, u3 = w3.drew := ⟨_, rfl⟩
            have gu3 : w3.grownBy u3 none := hu3 ▸ grown_drew w3 none
            have bu3 := b3.grown gu3 (by simp)
            obtain ⟨w4, a4, g4⟩ := width_ok H D al h0 h1 i u3
            have b4 := bu3.grown g4 (by simp)
            cases A with
            | none => have h : q.map Pl.v = [] := hr; rw [h] at hv; simp at hv
            | some a =>
              have cl := (hr.grown G3) i _ hv
              have ix := ix28 a q.length c .i64 i (by omega) (by omega)
              simp only [Int.toNat_natCast, Nat.mul_one] at ix
              have hwd := wd_le h0 h1 i
              have hm := prod_bound (a := wd W i) (b := H) (by omega) (by omega) (by omega) h3
              have e1 : IntKind.i64.wrap (wd W i * H) = wd W i * H := wrap_i64 (by omega) (by omega)
              have e3 : IntKind.i64.wrap ((i : Int) + 1) = ((i + 1 : Nat) : Int) := (wrap_i64 (by omega) (by omega)).trans (by omega)
              by_cases hc : (x.l.length : Int) = wd W i * H
              · refine .inl ⟨d, _, w4, by omega, ?_, ⟨i + 1, rfl, by omega, grown_trans (grown_trans G gu3 (by simp)) g4 (by simp), fun p y hp hy => ?_⟩⟩
                · unfold Pl.v at cl
                  simp (disch := omega) [f16.l0, lt_t, ix, cl, ← hu3, addL, ld27b b3 rfl, ld27b bu3 rfl, a4, b3.cell_eq 1 rfl, bu3.cell_eq 1 rfl, b4.cell_eq 1 rfl, e1, hc, e3]
                · by_cases hpi : p = i
                  · subst hpi; rw [hix] at hy; cases hy; exact hc
                  · exact hno p y (by omega) hy
              · refine .inr ⟨_, ?_, .inr ⟨w4, rfl, grown_trans (grown_trans G gu3 (by simp)) g4 (by simp), i, x, hix, hc⟩, by simp⟩
                unfold Pl.v at cl
                simp (disch := omega) [f16.l0, lt_t, ix, cl, ← hu3, addL, ld27b b3 rfl, ld27b bu3 rfl, a4, b3.cell_eq 1 rfl, bu3.cell_eq 1 rfl, b4.cell_eq 1 rfl, e1, hc]) q.length _ w2 ⟨0, rfl, by omega, grown_refl _ _, fun p x hp => by omega⟩
      obtain ⟨r, h4, hcase⟩ := key
      rcases hcase with ⟨w3, rfl, g3, hall⟩ | ⟨w3, rfl, g3, hex⟩
      · -- samples
        have G3 := grown_trans G2 g3 (by simp)
        obtain ⟨D, rfl⟩ : ∃ Dn : Nat, D = Dn := ⟨D.toNat, by omega⟩
        have hDn : D = 10 ∨ D = 12 := by omega
        have key2 := iter_down (f := f16.l1 C) (fun d st w4 => ∃ i : Nat, st = [.pointer (some ⟨w.heap.size, 0, none⟩), .slice A q.length c, .int .i64 q.length, .int .i64 i] ∧ i + d = q.length ∧ w3.grownBy w4 none ∧ ∀ p x, p < i → q[p]? = some x → ∀ v ∈ x.l, v < (2 : Int) ^ D)
          (fun r => (∃ w4, r = .exit 2 [] w4 ∧ w3.grownBy w4 none ∧ ∀ x ∈ q, ∀ v ∈ x.l, v < (2 : Int) ^ D) ∨ ∃ w4, r = .ret [.int .i64 64] w4 ∧ w3.grownBy w4 none ∧ ∃ x ∈ q, ∃ v ∈ x.l, (2 : Int) ^ D ≤ v) (by
            rintro d st w4 ⟨i, rfl, hi, G, hno⟩
            cases d with
            | zero =>
              obtain rfl : i = q.length := by omega
              refine .inr ⟨_, by simp [f16.l1], .inl ⟨w4, rfl, G, fun x hx => ?_⟩, by simp⟩
              obtain ⟨p, hp⟩ := List.getElem?_of_mem hx
              exact hno p x (List.getElem?_eq_some_iff.mp hp).1 hp
            | succ d =>
              have hil : i < q.length := by omega
              obtain ⟨x, hx⟩ : ∃ x, x = q[i] := ⟨_, rfl⟩
              have hix : q[i]? = some x := by rw [hx]; exact List.getElem?_eq_getElem hil
              have hxo := hq x (List.mem_of_getElem? hix)
              have hv : (q.map Pl.v)[i]? = some x.v := by simp [hix]
              have b4 := (b2.grown g3 (by simp)).grown G (by simp)
              have G4 := grown_trans G3 G (by simp)
              obtain ⟨w5, a5, g5⟩ := within_ok hDn (c := x.c) ((hxo.rd).grown G4) (by have := hxo.len; simp [maxLen]; omega) (fun v hv => (hxo.rng v hv).1)
              cases A with
              | none => have h : q.map Pl.v = [] := hr; rw [h] at hv; simp at hv
              | some a =>
                have cl := (hr.grown G4) i _ hv
                have ix := ix28 a q.length c .i64 i (by omega) (by omega)
                simp only [Int.toNat_natCast, Nat.mul_one] at ix
                have e3 : IntKind.i64.wrap ((i : Int) + 1) = ((i + 1 : Nat) : Int) := (wrap_i64 (by omega) (by omega)).trans (by omega)
                unfold Pl.v at cl
                by_cases hc : ∀ v ∈ x.l, v < (2 : Int) ^ D
                · rw [decide_eq_true hc] at a5
                  refine .inl ⟨d, _, w5, by omega, ?_, ⟨i + 1, rfl, by omega, grown_trans G g5 (by simp), fun p y hp hy => ?_⟩⟩
                  · simp (disch := omega) [f16.l1, lt_t, ix, cl, addL, b4.cell_eq 2 rfl, a5, bool_not, e3]
                  · by_cases hpi : p = i
                    · subst hpi; rw [hix] at hy; cases hy; exact hc
                    · exact hno p y (by omega) hy
                · rw [decide_eq_false hc] at a5
                  have hex : ∃ v ∈ x.l, (2 : Int) ^ D ≤ v := by
                    apply Classical.byContradiction
                    intro hn
                    exact hc fun v hv => by
                      by_cases h2 : (2 : Int) ^ D ≤ v
                      · exact absurd ⟨v, hv, h2⟩ hn
                      · omega
                  refine .inr ⟨_, ?_, .inr ⟨w5, rfl, grown_trans G g5 (by simp), x, List.mem_of_getElem? hix, hex⟩, by simp⟩
                  simp (disch := omega) [f16.l1, lt_t, ix, cl, addL, b4.cell_eq 2 rfl, a5, bool_not]) q.length _ w3 ⟨0, rfl, by omega, grown_refl _ _, fun p x hp => by omega⟩
        obtain ⟨r, h5, hcase⟩ := key2
        have b3 := b2.grown g3 (by simp)
        have hS : Shd W H D al := ⟨h0, h1, h2, h3, hD, hts⟩
        have hn63 : ¬ ∃ p x, q[p]? = some x ∧ (x.l.length : Int) ≠ wd W p * H := fun ⟨p, x, hp, hne⟩ => hne (hall p x hp)
        have z0 : ((0 : Nat) : Int) = 0 := rfl
        rw [z0] at h4 h5
        rcases hcase with ⟨w4, rfl, g4, hw⟩ | ⟨w4, rfl, g4, hw⟩
        · refine ⟨w4, f16.run rfl ?_, grown_trans G3 g4 (by simp)⟩
          have hn64 : ¬ ∃ x ∈ q, ∃ v ∈ x.l, (2 : Int) ^ (D : Int).toNat ≤ v := fun ⟨x, hx, v, hv, h6⟩ => by have := hw x hx v hv; rw [Int.toNat_natCast] at h6; omega
          have hv : vcode W H D al q = 0 := by
            unfold vcode
            rw [if_neg (fun h => h hS), if_neg (fun h => h hpl), if_neg hn63, if_neg hn64]
          rw [hv]
          simp [f16, box_any, Value.cells, ← hW0, addL, ld27b b0 rfl, a1, ← hu, b1.cell_eq 4 rfl, bu.cell_eq 4 rfl, b2.cell_eq 4 rfl, ld27b b1 rfl, ld27b bu rfl, a2, hplI, h4, b3.cell_eq 4 rfl, h5]
        · refine ⟨w4, f16.run rfl ?_, grown_trans G3 g4 (by simp)⟩
          have h64 : ∃ x ∈ q, ∃ v ∈ x.l, (2 : Int) ^ (D : Int).toNat ≤ v := by rw [Int.toNat_natCast]; exact hw
          have hv : vcode W H D al q = 64 := by
            unfold vcode
            rw [if_neg (fun h => h hS), if_neg (fun h => h hpl), if_neg hn63, if_pos h64]
          rw [hv]
          simp [f16, box_any, Value.cells, ← hW0, addL, ld27b b0 rfl, a1, ← hu, b1.cell_eq 4 rfl, bu.cell_eq 4 rfl, b2.cell_eq 4 rfl, ld27b b1 rfl, ld27b bu rfl, a2, hplI, h4, b3.cell_eq 4 rfl, h5]
      · refine ⟨w3, f16.run rfl ?_, grown_trans G2 g3 (by simp)⟩
        have hS : Shd W H D al := ⟨h0, h1, h2, h3, hD, hts⟩
        have hv : vcode W H D al q = 63 := by
          unfold vcode
          rw [if_neg (fun h => h hS), if_neg (fun h => h hpl), if_pos hex]
        rw [hv]
        have z0 : ((0 : Nat) : Int) = 0 := rfl
        rw [z0] at h4
        simp [f16, box_any, Value.cells, ← hW0, addL, ld27b b0 rfl, a1, ← hu, b1.cell_eq 4 rfl, bu.cell_eq 4 rfl, b2.cell_eq 4 rfl, ld27b b1 rfl, ld27b bu rfl, a2, hplI, h4]
    · refine ⟨w2, f16.run rfl ?_, G2⟩
      have hS : Shd W H D al := ⟨h0, h1, h2, h3, hD, hts⟩
      have hv : vcode W H D al q = 62 := by
        unfold vcode
        rw [if_neg (fun h => h hS), if_pos hpl]
      have hne : ¬ ((q.length : Int) = (pl al : Int)) := by omega
      rw [hv]
      simp [f16, box_any, Value.cells, ← hW0, addL, ld27b b0 rfl, a1, ← hu, b1.cell_eq 4 rfl, bu.cell_eq 4 rfl, b2.cell_eq 4 rfl, ld27b b1 rfl, ld27b bu rfl, a2, hne]
  · rw [if_neg hS] at a1
    refine ⟨w1, f16.run rfl ?_, G1⟩
    have hv : vcode W H D al q = 61 := by
      unfold vcode
      rw [if_pos hS]
    rw [hv]
    simp [f16, box_any, Value.cells, ← hW0, addL, ld27b b0 rfl, a1]
end Go.Sh.YtacfghffojijaaaDoor

namespace Go.Sh.YtacfghffojijaaaDoor
open Go Go.Proofs Go.RowKit
set_option linter.unusedVariables false
set_option linter.unusedSimpArgs false
set_option maxRecDepth 100000
theorem alloc30 (w : World) : erun Tryd.prog (Instr.alloc 30 true (.tuple #[])) w = some (.pointer (some ⟨w.heap.size, 0, none⟩), w.alloc (.cells #[.int .i64 0, .int .i64 0, .int .i64 0, .bool false, .slice none 0 0] 30)) := id (by kernel_rfl)
theorem build30 (W H D : Int) (al : Bool) : prun Tryd.prog (Instr.build 30 #[(0, sv W H D al)]) = some (fv W H D al none 0 0) := id (by kernel_rfl)
theorem build30z : prun Tryd.prog (Instr.build 30 #[]) = some (fv 0 0 0 false none 0 0) := id (by kernel_rfl)
theorem bs28_1 (a : Option Addr) (n c : Nat) (w : World) : erun Tryd.prog (Instr.buildSlice 28 1 #[(0, .slice a n c)]) w = some (.slice (some ⟨w.heap.size, 0, none⟩) 1 1, w.alloc (.cells #[.slice a n c] 38)) := id (by kernel_rfl)
/-- a variable that holds a frame -/
abbrev fcs (W H D : Int) (al : Bool) (v : Value) : List Value := [.int .i64 W, .int .i64 H, .int .i64 D, .bool al, v]
theorem st30 {w : World} {b : Nat} {cs : List Value} (h : Blk w b 30 cs) (hl : cs.length = 5) (W H D : Int) (al : Bool) (A : Option Addr) (n c : Nat) :
    ∃ w', erun Tryd.prog (Instr.storeAt 30 (.pointer (some ⟨b, 0, none⟩)) (fv W H D al A n c)) w = some ((), w') ∧ Blk w' b 30 (fcs W H D al (.slice A n c)) ∧ w.grownBy w' (some b) := by
  refine h.storeAll (P := Tryd.prog) inf30 (vs := fcs W H D al (.slice A n c)) (by simp [Value.cells]) (by rw [size30]; rfl) (by simp [hl]) (by simp [Value.oneCell']) ?_
  have : cs.drop (0 + (fcs W H D al (.slice A n c)).length) = [] := List.drop_of_length_le (by simp [hl])
  rw [this]
  simp
theorem ld30b {w : World} {b : Nat} {e : TypeId} {W H D : Int} {al : Bool} {A : Option Addr} {n c : Nat} (h : Blk w b e (fcs W H D al (.slice A n c))) : rrun Tryd.prog (Instr.loadAt 30 (.pointer (some ⟨b, 0, none⟩))) w = some (fv W H D al A n c) :=
  ld30 (by rw [addL]; exact h.cell_eq 0 rfl) (by rw [addL]; exact h.cell_eq 1 rfl) (by rw [addL]; exact h.cell_eq 2 rfl) (by rw [addL]; exact h.cell_eq 3 rfl) (by rw [addL]; exact h.cell_eq 4 rfl)
/-- planes, each in memory of its own, in a list of its own -/
structure Fr (w : World) (base : Nat) (V : Value) (q : List (Value × List Value)) : Prop where
  row : w.ownsRow base 38 1 V q.length (q.map (·.1))
  pl : Rows w base 39 q
def frfp (V : Value) (q : List (Value × List Value)) : Nat → Prop := fun k => V.ownBlock = some k ∨ rfp q k
section
variable {w w' : World} {base : Nat} {V : Value} {q : List (Value × List Value)} {S : Nat → Prop}
theorem Fr.grew (h : Fr w base V q) (hg : Grew S w w') (hn : ∀ k, frfp V q k → ¬ S k) : Fr w' base V q := ⟨own_grew h.row hg fun k hk => hn k (.inl hk), h.pl.grew hg fun k hk => hn k (.inr hk)⟩
theorem Fr.new (h : Fr w base V q) (hg : w.grownBy w' none) : Fr w' base V q := h.grew (grew_new (S := fun _ => False) hg) fun _ _ h => h
theorem Fr.ge (h : Fr w base V q) {k : Nat} (hk : frfp V q k) : base ≤ k ∧ k < w.heap.size := by
  rcases hk with hk | hk
  · exact h.row.lt k hk
  · exact h.pl.ge hk
theorem Fr.ne_blk (h : Fr w base V q) {b : Nat} {e : TypeId} {cs : List Value} (hb : Blk w b e cs) (h1 : e ≠ 38) (h2 : e ≠ 39) : ¬ frfp V q b := by
  rintro (hk | hk)
  · exact own_blk_ne h.row hb (Ne.symm h1) hk
  · exact h.pl.ne_blk hb (Ne.symm h2) hk
/-- one plane more -/
theorem Fr.push (h : Fr w base V q) {b : Nat} {W H D : Int} {al : Bool} (hb : Blk w b 30 (fcs W H D al V)) {p : Value × List Value} (o : w.ownsRow base 39 1 p.1 p.2.length p.2) (hd : ∀ k, p.1.ownBlock = some k → ¬ rfp q k) (hl : q.length ≤ 4294967296) (hbase : base ≤ w.heap.size) :
    ∃ V' w1 w2, erun Tryd.prog (Builtin.append_ #[28, 28] 28 #[V, .slice (some ⟨w.heap.size, 0, none⟩) 1 1]) (w.alloc (.cells #[p.1] 38)) = some (V', w1) ∧ erun Tryd.prog (Instr.storeAt 28 (.pointer (some ⟨b, 4, none⟩)) V') w1 = some ((), w2) ∧
      Fr w2 base V' (q ++ [p]) ∧ Blk w2 b 30 (fcs W H D al V') ∧ Grew (fun k => k = b ∨ V.ownBlock = some k) w w2 ∧ w1.cell? ⟨b, 4, none⟩ = some V ∧ (∀ k, V'.ownBlock = some k → V.ownBlock = some k ∨ w.heap.size ≤ k) := by
  obtain ⟨Ap, cp, hp, _⟩ := own_form o
  obtain ⟨V', w1, h1, o1, g1, k1⟩ := own_push (P := Tryd.prog) (ty := 28) Tryd.underlying28 inf38 zero38 size38 bytes38 rfl h.row (x := p.1) (by rw [hp]; rfl) (by simp [maxLen]; omega) (by omega) hbase
  have b1 := hb.grown g1 (own_blk_ne h.row hb (by decide))
  obtain ⟨A', c', rfl, _⟩ := own_form o1
  have s1 := st28 (v := .slice A' (q.length + 1) c') rfl rfl (b1.cell_eq 4 rfl) (b1.frozen 4)
  have G1 : Grew (fun k => k = b ∨ V.ownBlock = some k) w w1 := grew_of g1 fun k hk => .inl (.inr hk)
  have G2 : Grew (fun k => k = b ∨ V.ownBlock = some k) w (w1.setCell ⟨b, 4, none⟩ (.slice A' (q.length + 1) c')) := G1.step (grew_set _ 4 _ (.inl rfl))
  have pl' := h.pl.push o hd
  refine ⟨_, w1, _, h1, s1, ⟨?_, pl'.grew G2 fun k hk hs => ?_⟩, b1.store2 4 _ rfl, G2, b1.cell_eq 4 rfl, k1⟩
  · have := o1.kept (grown_set b 4 (.slice A' (q.length + 1) c')) (.inr (own_blk_ne o1 b1 (by decide)))
    simpa using this
  · rcases hs with rfl | hs
    · exact pl'.ne_blk hb (by decide) hk
    · exact pl'.ne_own h.row (by decide) hs hk
end
/-- a plane of noughts -/
def zp (n : Nat) (A : Option Addr) : Value × List Value := (.slice A n n, List.replicate n (.int .u16 0))
theorem made_samples (n : Nat) : (madeCells ((.int .u16 0) : Value).cells (n * 1)).toList = List.replicate n (.int .u16 0) := by simp [toList_madeCells_one, Value.cells]
theorem blank_l0 {W H D : Int} {al : Bool} (h0 : 1 ≤ W) (h1 : W ≤ 4096) (h2 : 1 ≤ H) (h3 : H ≤ 4096) {s f : Nat} (v2 : Value) {w0 : World} :
    ∀ (d : Nat) (st : List Value) (w : World), (∃ (i : Nat) (V : Value) (q : List (Value × List Value)), st = [.pointer (some ⟨s, 0, none⟩), v2, .pointer (some ⟨f, 0, none⟩), .int .i64 (pl al), .int .i64 i] ∧ i + d = pl al ∧ q.length = i ∧ (∀ p x, q[p]? = some x → ∃ (A : Option Addr) (n : Nat), (n : Int) = wd W p * H ∧ x = zp n A) ∧ Fr w w0.heap.size V q ∧ Blk w f 30 (fcs W H D al V) ∧ Blk w s 27 [.int .i64 W, .int .i64 H, .int .i64 D, .bool al] ∧ Grew (fun k => k = f) w0 w) →
    ∃ r, iter (f24.l0 C) st w = some r ∧ ∃ V q w', r = .exit 0 [v2, .pointer (some ⟨f, 0, none⟩)] w' ∧ q.length = pl al ∧ (∀ p x, q[p]? = some x → ∃ (A : Option Addr) (n : Nat), (n : Int) = wd W p * H ∧ x = zp n A) ∧ Fr w' w0.heap.size V q ∧ Blk w' f 30 (fcs W H D al V) ∧ Grew (fun k => k = f) w0 w' := by
  refine iter_down _ _ ?_
  rintro d st w ⟨i, V, q, rfl, hi, hq, hall, F, bf, bs, G⟩
  have hple := pl_le al
  cases d with
  | zero =>
    obtain rfl : i = pl al := by omega
    exact .inr ⟨_, by simp [f24.l0], ⟨V, q, w, rfl, hq, hall, F, bf, G⟩, by simp⟩
  | succ d =>
    obtain ⟨u, hu⟩ : ∃ u, u = w.drew := ⟨_, rfl⟩
    have gu : w.grownBy u none := hu ▸ grown_drew w none
    have bsu := bs.grown gu (by simp)
    have bfu := bf.grown gu (by simp)
    obtain ⟨w1, a1, g1⟩ := width_ok H D al h0 h1 i u
    have hwd := wd_le h0 h1 i
    have hm := prod_bound (a := wd W i) (b := H) (by omega) (by omega) (by omega) h3
    have e1 : IntKind.i64.wrap (wd W i * H) = wd W i * H := wrap_i64 (by omega) (by omega)
    obtain ⟨n, hn⟩ : ∃ n : Nat, (n : Int) = wd W i * H := ⟨(wd W i * H).toNat, by omega⟩
    have b1s := bsu.grown g1 (by simp)
    have b1f := bfu.grown g1 (by simp)
    obtain ⟨w2, m1, m2, m3⟩ := mk38 (w := w1) w1.heap.size n (by omega) (by simp [maxLen]; omega) (Nat.le_refl _)
    rw [made_samples] at m2
    have b2s := b1s.grown m3 (by simp)
    have b2f := b1f.grown m3 (by simp)
    have F2 := ((F.new gu).new g1).new m3
    have G2 := ((G.step (grew_new gu)).step (grew_new g1)).step (grew_new m3)
    have hlr : (List.replicate n (Value.int .u16 0)).length = n := by simp
    have G1 := (G.step (grew_new gu)).step (grew_new g1)
    obtain ⟨V', w3, w4, p1, p2, F4, b4f, G4, cV, k4⟩ := F2.push b2f (p := zp n (some ⟨w1.heap.size, 0, none⟩)) (by show w2.ownsRow w0.heap.size 39 1 (.slice (some ⟨w1.heap.size, 0, none⟩) n n) (List.replicate n (Value.int .u16 0)).length (List.replicate n (Value.int .u16 0)); rw [hlr]; exact own_base m2 G1.size) (fun k hk hf => by
      have h1 := ((F.new gu).new g1).pl.ge hf
      simp [zp, Value.ownBlock] at hk
      omega) (by omega) G2.size
    have e3 : IntKind.i64.wrap ((i : Int) + 1) = ((i + 1 : Nat) : Int) := (wrap_i64 (by omega) (by omega)).trans (by omega)
    have b4s : Blk w4 s 27 [.int .i64 W, .int .i64 H, .int .i64 D, .bool al] := b2s.grew G4 (by
      rintro (e | e)
      · subst e; have x1 := b2s; have x2 := b2f; unfold Blk at x1 x2; rw [x1] at x2; simp at x2
      · exact own_blk_ne F2.row b2s (by decide) e)
    have ca : (w2.alloc (.cells #[.slice (some ⟨w1.heap.size, 0, none⟩) n n] 38)).cell? ⟨f, 4, none⟩ = some V := (b2f.grown (World.grownBy_alloc w2 (.cells #[.slice (some ⟨w1.heap.size, 0, none⟩) n n] 38) none) (by simp)).cell_eq 4 rfl
    have cs : (w2.alloc (.cells #[.slice (some ⟨w1.heap.size, 0, none⟩) n n] 38)).cell? ⟨s, 1, none⟩ = some (.int .i64 H) := (b2s.grown (World.grownBy_alloc w2 (.cells #[.slice (some ⟨w1.heap.size, 0, none⟩) n n] 38) none) (by simp)).cell_eq 1 rfl
    refine .inl ⟨d, _, w4, by omega, ?_, ⟨i + 1, V', q ++ [zp n (some ⟨w1.heap.size, 0, none⟩)], rfl, by omega, by simp [hq], ?_, F4, b4f, b4s, ?_⟩⟩
    · unfold zp at p1
      rw [hn] at m1
      simp (disch := omega) [f24.l0, lt_t, ← hu, addL, bf.cell_eq 4 rfl, bfu.cell_eq 4 rfl, b1f.cell_eq 4 rfl, b2f.cell_eq 4 rfl, ld27b bs rfl, ld27b bsu rfl, a1, bs.cell_eq 1 rfl, bsu.cell_eq 1 rfl, b1s.cell_eq 1 rfl, e1, m1, bs28_1, p1, p2, cV, ca, cs, e3]
    · intro p x hp
      by_cases hpq : p < q.length
      · rw [List.getElem?_append_left hpq] at hp
        exact hall p x hp
      · have hpi : p = i := by have := (List.getElem?_eq_some_iff.mp hp).1; simp at this; omega
        subst hpi
        rw [List.getElem?_append_right (by omega), show p - q.length = 0 by omega] at hp
        simp at hp
        exact ⟨_, n, hn, hp.symm⟩
    · exact G2.trans G4 fun k hk => by
        rcases hk with rfl | hk
        · exact .inl rfl
        · exact .inr (F2.row.lt k hk).1
end Go.Sh.YtacfghffojijaaaDoor

namespace Go.Sh.YtacfghffojijaaaDoor
open Go Go.Proofs Go.RowKit
set_option linter.unusedVariables false
set_option linter.unusedSimpArgs false
set_option maxRecDepth 100000
theorem loads_cell {w : World} {b : Nat} {W H D : Int} {al : Bool} {A : Option Addr} {n c : Nat} (h : Blk w b 30 (fcs W H D al (.slice A n c))) (s : Nat) : loadsOf Tryd.prog [.cell s 30] [.pointer (some ⟨b, 0, none⟩)] w = some [fv W H D al A n c] := by
  simp [ld30b h]
theorem blank_ok {W H : Int} (D : Int) {al : Bool} (h0 : 1 ≤ W) (h1 : W ≤ 4096) (h2 : 1 ≤ H) (h3 : H ≤ 4096) (w : World) :
    ∃ A c q w', C 24 #[sv W H D al] w = some (fv W H D al A (pl al) c, w') ∧ q.length = pl al ∧ (∀ p x, q[p]? = some x → ∃ (A : Option Addr) (n : Nat), (n : Int) = wd W p * H ∧ x = zp n A) ∧ Fr w' w.heap.size (.slice A (pl al) c) q ∧ w.grownBy w' none := by
  obtain ⟨W0, hW0⟩ : ∃ W0, W0 = w.alloc (.cells #[.int .i64 W, .int .i64 H, .int .i64 D, .bool al] 27) := ⟨_, rfl⟩
  have g0 : w.grownBy W0 none := hW0 ▸ World.grownBy_alloc w _ none
  have b0 : Blk W0 w.heap.size 27 [.int .i64 W, .int .i64 H, .int .i64 D, .bool al] := hW0 ▸ Blk.new w 27 [.int .i64 W, .int .i64 H, .int .i64 D, .bool al]
  obtain ⟨W1, hW1⟩ : ∃ W1, W1 = W0.alloc (.cells #[.int .i64 0, .int .i64 0, .int .i64 0, .bool false, .slice none 0 0] 30) := ⟨_, rfl⟩
  have g1 : W0.grownBy W1 none := hW1 ▸ World.grownBy_alloc W0 _ none
  have b1 : Blk W1 W0.heap.size 30 (fcs 0 0 0 false (.slice none 0 0)) := hW1 ▸ Blk.new W0 30 (fcs 0 0 0 false (.slice none 0 0))
  obtain ⟨W2, hW2⟩ : ∃ W2, W2 = W1.alloc (.cells #[.int .i64 0, .int .i64 0, .int .i64 0, .bool false, .slice none 0 0] 30) := ⟨_, rfl⟩
  have g2 : W1.grownBy W2 none := hW2 ▸ World.grownBy_alloc W1 _ none
  have b2 : Blk W2 W1.heap.size 30 (fcs 0 0 0 false (.slice none 0 0)) := hW2 ▸ Blk.new W1 30 (fcs 0 0 0 false (.slice none 0 0))
  have hs0 : W0.heap.size = w.heap.size + 1 := by rw [hW0]; simp
  have hs1 : W1.heap.size = w.heap.size + 2 := by rw [hW1]; simp [hs0]
  obtain ⟨w3, s3, b3, g3⟩ := st30 b2 rfl W H D al none 0 0
  have b3s : Blk w3 w.heap.size 27 [.int .i64 W, .int .i64 H, .int .i64 D, .bool al] := ((b0.grown g1 (by simp)).grown g2 (by simp)).grown g3 (by simp; omega)
  have b3r : Blk w3 W0.heap.size 30 (fcs 0 0 0 false (.slice none 0 0)) := (b1.grown g2 (by simp)).grown g3 (by simp; omega)
  have G02 : w.grownBy W2 none := grown_trans (grown_trans g0 g1 (by simp)) g2 (by simp)
  have G3 : w.grownBy w3 none := grown_trans G02 g3 (fun k hk => by cases hk; omega)
  obtain ⟨w4, a4, g4⟩ := planes_ok W H D al w3
  have G4 := grown_trans G3 g4 (by simp)
  have b4r := b3r.grown g4 (by simp)
  obtain ⟨r, h5, V, q, w5, rfl, hq, hall, F5, b5, G5⟩ := blank_l0 (w0 := w4) (al := al) (D := D) h0 h1 h2 h3 (s := w.heap.size) (f := W1.heap.size) (.pointer (some ⟨W0.heap.size, 0, none⟩)) (pl al) _ w4 ⟨0, .slice none 0 0, [], rfl, by omega, rfl, by simp, ⟨World.ownsRow_nil _ _ _ _, Rows.nil⟩, b3.grown g4 (by simp), b3s.grown g4 (by simp), Grew.refl _ _⟩
  have b5r := b4r.grew G5 (fun e => by omega)
  obtain ⟨A, c, rfl, _⟩ := own_form F5.row
  obtain ⟨w6, s6, b6, g6⟩ := st30 b5r rfl W H D al A q.length c
  have G5' : w.grownBy w5 none := ((grew_new (S := fun k => w.heap.size ≤ k) G4).step (G5.weak fun k hk => .inl (by omega))).toNew fun _ h => h
  have F6 := F5.grew (grew_of (S := fun k => k = W0.heap.size) g6 fun k hk => by cases hk; exact .inl rfl) fun k hk e => F5.ne_blk b5r (by decide) (by decide) (e ▸ hk)
  refine ⟨A, c, q, w6, f24.run rfl ?_, hq, hall, ?_, grown_trans G5' g6 fun k hk => by cases hk; omega⟩
  · rw [hq] at s6 b6 b5
    have hs1' : W1.heap.size = W0.heap.size + 1 := by rw [hW1]; simp
    rw [hs1'] at s3 h5 b5
    simp at h5
    simp [f24, box_any, Value.cells, ← hW0, alloc30, ← hW1, ← hW2, ld27b b0 rfl, ld27b (b0.grown g1 (by simp)) rfl, ld27b ((b0.grown g1 (by simp)).grown g2 (by simp)) rfl, build30, s3, ld27b b3s rfl, a4, h5, ld30b b5, s6, ld30b b6]
  · rw [← hq]
    exact ⟨own_base F6.row G4.size, ⟨fun p hp => own_base (F6.pl.own p hp) G4.size, F6.pl.dis⟩⟩
theorem new_ok {W H : Int} {D : Int} {al : Bool} (hS : Shd W H D al) (w : World) :
    ∃ A c q w', C 17 #[sv W H D al] w = some (.tuple #[fv W H D al A (pl al) c, .int .i64 0], w') ∧ q.length = pl al ∧ (∀ p x, q[p]? = some x → ∃ (A : Option Addr) (n : Nat), (n : Int) = wd W p * H ∧ x = zp n A) ∧ Fr w' w.heap.size (.slice A (pl al) c) q ∧ w.grownBy w' none := by
  obtain ⟨W0, hW0⟩ : ∃ W0, W0 = w.alloc (.cells #[.int .i64 W, .int .i64 H, .int .i64 D, .bool al] 27) := ⟨_, rfl⟩
  have g0 : w.grownBy W0 none := hW0 ▸ World.grownBy_alloc w _ none
  have b0 : Blk W0 w.heap.size 27 [.int .i64 W, .int .i64 H, .int .i64 D, .bool al] := hW0 ▸ Blk.new w 27 [.int .i64 W, .int .i64 H, .int .i64 D, .bool al]
  obtain ⟨W1, hW1⟩ : ∃ W1, W1 = W0.alloc (.cells #[.int .i64 0, .int .i64 0, .int .i64 0, .bool false, .slice none 0 0] 30) := ⟨_, rfl⟩
  have g1 : W0.grownBy W1 none := hW1 ▸ World.grownBy_alloc W0 _ none
  have b1 : Blk W1 W0.heap.size 30 (fcs 0 0 0 false (.slice none 0 0)) := hW1 ▸ Blk.new W0 30 (fcs 0 0 0 false (.slice none 0 0))
  have hs0 : W0.heap.size = w.heap.size + 1 := by rw [hW0]; simp
  have b01 := b0.grown g1 (by simp)
  obtain ⟨w2, a2, g2⟩ := shaped_ok W H D al W1
  rw [if_pos hS] at a2
  have b2 := b01.grown g2 (by simp)
  have b2r := b1.grown g2 (by simp)
  have hS' := hS
  obtain ⟨h0, h1, h2, h3, _, _⟩ := hS'
  obtain ⟨A, c, q, w3, a3, hq, hall, F3, g3⟩ := blank_ok (al := al) D h0 h1 h2 h3 w2
  have b3r := b2r.grown g3 (by simp)
  obtain ⟨w4, s4, b4, g4⟩ := st30 b3r rfl W H D al A (pl al) c
  have G3 : w.grownBy w3 none := grown_trans (grown_trans (grown_trans g0 g1 (by simp)) g2 (by simp)) g3 (by simp)
  have G2 : w.grownBy w2 none := grown_trans (grown_trans g0 g1 (by simp)) g2 (by simp)
  have F4 := F3.grew (grew_of (S := fun k => k = W0.heap.size) g4 fun k hk => by cases hk; exact .inl rfl) fun k hk e => F3.ne_blk b3r (by decide) (by decide) (e ▸ hk)
  refine ⟨A, c, q, w4, f17.run rfl ?_, hq, hall, ⟨own_base F4.row G2.size, ⟨fun p hp => own_base (F4.pl.own p hp) G2.size, F4.pl.dis⟩⟩, grown_trans G3 g4 fun k hk => by cases hk; omega⟩
  simp [f17, box_any, Value.cells, ← hW0, alloc30, ← hW1, ld27b b01 rfl, a2, ld27b b2 rfl, a3, s4, ld30b b4]
end Go.Sh.YtacfghffojijaaaDoor

namespace Go.Sh.YtacfghffojijaaaDoor
open Go Go.Proofs Go.RowKit
set_option linter.unusedVariables false
set_option linter.unusedSimpArgs false
set_option maxRecDepth 100000
theorem build53 (W H D : Int) (al : Bool) (A : Option Addr) (n c : Nat) (W' H' D' : Int) (al' : Bool) (A' : Option Addr) (n' c' : Nat) : prun Tryd.prog (Instr.build 53 #[(0, fv W H D al A n c), (1, fv W' H' D' al' A' n' c')]) =
    some (.agg #[.int .i64 W, .int .i64 H, .int .i64 D, .bool al, .slice A n c, .int .i64 W', .int .i64 H', .int .i64 D', .bool al', .slice A' n' c']) := id (by kernel_rfl)
theorem index53_0 (v0 v1 v2 v3 v4 v5 v6 v7 v8 v9 : Value) : prun Tryd.prog (Instr.index 53 (.agg #[v0, v1, v2, v3, v4, v5, v6, v7, v8, v9]) (.int .i64 0)) = some (.agg #[v0, v1, v2, v3, v4]) := id (by kernel_rfl)
theorem index53_1 (v0 v1 v2 v3 v4 v5 v6 v7 v8 v9 : Value) : prun Tryd.prog (Instr.index 53 (.agg #[v0, v1, v2, v3, v4, v5, v6, v7, v8, v9]) (.int .i64 1)) = some (.agg #[v5, v6, v7, v8, v9]) := id (by kernel_rfl)
theorem cv39_3 (a : Int) : prun Tryd.prog (convert 39 3 (.int .u16 a)) = some (.int .i64 (IntKind.i64.wrap a)) := id (by kernel_rfl)
theorem cv3_39 (a : Int) : prun Tryd.prog (convert 3 39 (.int .i64 a)) = some (.int .u16 (IntKind.u16.wrap a)) := id (by kernel_rfl)
/-- one sample, mixed -/
def mv (part of x y : Int) : Int := IntKind.u16.wrap ((x * (of - part) + y * part + of.tdiv 2).tdiv of)
theorem prodb {a b m k : Int} (a0 : 0 ≤ a) (a1 : a ≤ m) (b0 : 0 ≤ b) (b1 : b ≤ k) (hm : 0 ≤ m) : 0 ≤ a * b ∧ a * b ≤ m * k := by
  refine ⟨Int.mul_nonneg a0 b0, ?_⟩
  exact Int.le_trans (Int.mul_le_mul_of_nonneg_right a1 b0) (Int.mul_le_mul_of_nonneg_left b1 hm)
/-- one look at one of the two frames -/
theorem mix_l0 {part of : Int} {v4 v5 v36 : Value} {R : Nat} {W H D : Int} {al : Bool} {A : Option Addr} {c : Nat} {q : List Pl} {w : World} {i : Int} (hi : i = 0 ∨ i = 1) (hx : prun Tryd.prog (Instr.index 53 v36 (.int .i64 i)) = some (fv W H D al A q.length c)) (hr : Rd w A (q.map Pl.v)) (hq : ∀ x ∈ q, x.ok w) (hlen : q.length ≤ maxLen)
    {v : Value} (hR : Blk w R 30 (fcs 0 0 0 false (.slice none 0 0))) :
    (vcode W H D al q = 0 ∧ ∃ w', f8.l0 C [.int .i64 part, .int .i64 of, v4, v5, .pointer (some ⟨R, 0, none⟩), v36, .int .i64 i] w = some (.norm [.int .i64 part, .int .i64 of, v4, v5, .pointer (some ⟨R, 0, none⟩), v36, .int .i64 (i + 1)] w') ∧ w.grownBy w' none) ∨
    (vcode W H D al q ≠ 0 ∧ ∃ w', f8.l0 C [.int .i64 part, .int .i64 of, v4, v5, .pointer (some ⟨R, 0, none⟩), v36, .int .i64 i] w = some (.ret [.pointer (some ⟨R, 0, none⟩), .int .i64 (vcode W H D al q)] w') ∧ Blk w' R 30 (fcs 0 0 0 false (.slice none 0 0)) ∧ w.grownBy w' (some R)) := by
  obtain ⟨W1, hW1⟩ : ∃ W1, W1 = w.alloc (.cells #[.int .i64 0, .int .i64 0, .int .i64 0, .bool false, .slice none 0 0] 30) := ⟨_, rfl⟩
  have g1 : w.grownBy W1 none := hW1 ▸ World.grownBy_alloc w _ none
  have b1 : Blk W1 w.heap.size 30 (fcs 0 0 0 false (.slice none 0 0)) := hW1 ▸ Blk.new w 30 (fcs 0 0 0 false (.slice none 0 0))
  obtain ⟨w2, s2, b2, g2⟩ := st30 b1 rfl W H D al A q.length c
  have G2 : w.grownBy w2 none := grown_trans g1 g2 fun k hk => by cases hk; omega
  obtain ⟨w3, a3, g3⟩ := valid_ok (W := W) (H := H) (D := D) (al := al) (c := c) (hr.grown G2) (fun x hx => (hq x hx).grown G2) hlen
  have G3 := grown_trans G2 g3 (by simp)
  have e1 : IntKind.i64.wrap (i + 1) = i + 1 := by rcases hi with rfl | rfl <;> rfl
  have hlt : (i < 2) = True := eq_true (by omega)
  by_cases hv : vcode W H D al q = 0
  · refine .inl ⟨hv, w3, ?_, G3⟩
    rw [hv] at a3
    simp [f8.l0, hlt, hx, alloc30, ← hW1, s2, ld30b b2, a3, e1]
  · have hR3 := hR.grown G3 (by simp)
    obtain ⟨w4, s4, b4, g4⟩ := st30 hR3 rfl 0 0 0 false none 0 0
    refine .inr ⟨hv, w4, ?_, b4, grown_step (grown_weak G3 _) g4⟩
    simp [f8.l0, hlt, hx, alloc30, ← hW1, s2, ld30b b2, a3, hv, build30z, s4]
/-- the samples of a plane, mixed -/
def mixl (part of : Int) (la lb : List Int) : List Int := List.zipWith (mv part of) la lb
theorem mixl_length (part of : Int) {la lb : List Int} (h : la.length = lb.length) : (mixl part of la lb).length = la.length := by simp [mixl, h]
section
variable {part of : Int} (hof : 1 ≤ of) (hof' : of ≤ 101) (hp0 : 0 ≤ part) (hp1 : part ≤ of)
include hof hof' hp0 hp1
/-- one plane is mixed -/
theorem mix_l1 {w0 : World} {A B : Option Addr} {ca cb : Nat} {qa qb : List Pl} (ra : Rd w0 A (qa.map Pl.v)) (rb : Rd w0 B (qb.map Pl.v)) (oa : ∀ x ∈ qa, x.ok w0) (ob : ∀ x ∈ qb, x.ok w0) {a b : Nat} {W H D W' H' D' : Int} {al al' : Bool}
    (v8 v13 v60 v61 : Value) {i : Nat} {x y : Pl} (hx : qa[i]? = some x) (hy : qb[i]? = some y) (hxy : x.l.length = y.l.length) (hqa : qa.length ≤ 4) (hqb : qb.length ≤ 4) {q : List (Value × List Value)} {p : Value × List Value} (hip : q[i]? = some p) {P : Option Addr} (hP : p.1 = .slice P x.l.length x.l.length) (hpl : p.2.length = x.l.length) (hq4 : q.length ≤ 4)
    {w : World} (G0 : w0.grownBy w none) {base : Nat} (hb0 : w0.heap.size ≤ base) (hr : Rows w base 39 q) (ba : Blk w a 30 (fcs W H D al (.slice A qa.length ca))) (bb : Blk w b 30 (fcs W' H' D' al' (.slice B qb.length cb))) :
    ∃ w', iter (f8.l1 C) [.int .i64 part, .int .i64 of, .pointer (some ⟨a, 0, none⟩), .pointer (some ⟨b, 0, none⟩), v8, v13, .int .i64 i, p.1, v60, v61, .int .i64 i, .int .i64 x.l.length, .int .i64 0] w = some (.exit 4 [.int .i64 part, .int .i64 of, .pointer (some ⟨a, 0, none⟩), .pointer (some ⟨b, 0, none⟩), v8, v13, v60, v61, .int .i64 i] w') ∧
      Rows w' base 39 (q.set i (p.1, uv (mixl part of x.l y.l))) ∧ Grew (fun k => p.1.ownBlock = some k) w w' := by
  have hil := (List.getElem?_eq_some_iff.mp hip).1
  have hia := (List.getElem?_eq_some_iff.mp hx).1
  have hib := (List.getElem?_eq_some_iff.mp hy).1
  have hxo := oa x (List.mem_of_getElem? hx)
  have hyo := ob y (List.mem_of_getElem? hy)
  have hml := mixl_length part of hxy
  have hlen := hxo.len
  have op := hr.part hip
  have key := iter_down (f := f8.l1 C) (fun d st w1 => ∃ (j : Nat) (xs' : List Value), st = [.int .i64 part, .int .i64 of, .pointer (some ⟨a, 0, none⟩), .pointer (some ⟨b, 0, none⟩), v8, v13, .int .i64 i, p.1, v60, v61, .int .i64 i, .int .i64 x.l.length, .int .i64 j] ∧ j + d = x.l.length ∧ xs'.length = d ∧
      Rows w1 base 39 (q.set i (p.1, (uv (mixl part of x.l y.l)).take j ++ xs')) ∧ Grew (fun k => p.1.ownBlock = some k) w w1)
    (fun r => ∃ w1, r = .exit 4 [.int .i64 part, .int .i64 of, .pointer (some ⟨a, 0, none⟩), .pointer (some ⟨b, 0, none⟩), v8, v13, v60, v61, .int .i64 i] w1 ∧ Rows w1 base 39 (q.set i (p.1, uv (mixl part of x.l y.l))) ∧ Grew (fun k => p.1.ownBlock = some k) w w1) (by
      rintro d st w1 ⟨j, xs', rfl, hj, hxs, E, G⟩
      have hget : (q.set i (p.1, (uv (mixl part of x.l y.l)).take j ++ xs'))[i]? = some (p.1, (uv (mixl part of x.l y.l)).take j ++ xs') := List.getElem?_set_self hil
      cases d with
      | zero =>
        obtain rfl : j = x.l.length := by omega
        have : xs' = [] := by simpa using hxs
        subst this
        have ht : (uv (mixl part of x.l y.l)).take x.l.length = uv (mixl part of x.l y.l) := List.take_of_length_le (by simp [uv, hml])
        rw [ht, List.append_nil] at E
        exact .inr ⟨_, by simp [f8.l1], ⟨w1, rfl, E, G⟩, by simp⟩
      | succ d =>
        cases xs' with
        | nil => simp at hxs
        | cons z xs' =>
          have hjl : j < x.l.length := by omega
          have hjy : j < y.l.length := by omega
          obtain ⟨s, hs⟩ : ∃ s, s = x.l[j] := ⟨_, rfl⟩
          obtain ⟨t, ht⟩ : ∃ t, t = y.l[j] := ⟨_, rfl⟩
          have hxs1 : x.l[j]? = some s := by rw [hs]; exact List.getElem?_eq_getElem hjl
          have hyt : y.l[j]? = some t := by rw [ht]; exact List.getElem?_eq_getElem hjy
          obtain ⟨s0, s1⟩ := hxo.rng s (List.mem_of_getElem? hxs1)
          obtain ⟨t0, t1⟩ := hyo.rng t (List.mem_of_getElem? hyt)
          obtain ⟨u, hu⟩ : ∃ u, u = w1.drew := ⟨_, rfl⟩
          have gu : w1.grownBy u none := hu ▸ grown_drew w1 none
          have Gall : Grew (fun k => base ≤ k) w u := (G.weak fun k hk => .inl (op.lt k hk).1).step (grew_new gu)
          have G0u : w0.grownBy u none := ((grew_new (S := fun k => base ≤ k) G0).step Gall).none2 hb0
          have bau : Blk u a 30 (fcs W H D al (.slice A qa.length ca)) := (ba.grew G (fun e => own_blk_ne op ba (by decide) e)).grown gu (by simp)
          have bbu : Blk u b 30 (fcs W' H' D' al' (.slice B qb.length cb)) := (bb.grew G (fun e => own_blk_ne op bb (by decide) e)).grown gu (by simp)
          have ba1 : Blk w1 a 30 (fcs W H D al (.slice A qa.length ca)) := ba.grew G (fun e => own_blk_ne op ba (by decide) e)
          have bb1 : Blk w1 b 30 (fcs W' H' D' al' (.slice B qb.length cb)) := bb.grew G (fun e => own_blk_ne op bb (by decide) e)
          have hva : (qa.map Pl.v)[i]? = some x.v := by simp [hx]
          have hvb : (qb.map Pl.v)[i]? = some y.v := by simp [hy]
          have hua : (uv x.l)[j]? = some (.int .u16 s) := by simp [uv, hxs1]
          have hub : (uv y.l)[j]? = some (.int .u16 t) := by simp [uv, hyt]
          have o := E.part hget
          have hl2 : ((uv (mixl part of x.l y.l)).take j ++ z :: xs').length = x.l.length := by simp [uv, hml] at hxs ⊢; omega
          rw [hl2] at o
          simp only at o
          rw [hP] at o
          have o' := own_new o gu
          obtain ⟨pa, w2, e, hba, s2, o2, g2⟩ := own_store (P := Tryd.prog) o' (t := 39) inf39 size39 hjl (v := .int .u16 (mv part of s t)) rfl rfl
          subst e
          have hset : ((uv (mixl part of x.l y.l)).take j ++ z :: xs').set j (.int .u16 (mv part of s t)) = (uv (mixl part of x.l y.l)).take (j + 1) ++ xs' := by
            have hm : (uv (mixl part of x.l y.l))[j]? = some (.int .u16 (mv part of s t)) := by
              unfold uv mixl
              rw [List.getElem?_map, List.getElem?_zipWith, hxs1, hyt]
              rfl
            have hlj : ((uv (mixl part of x.l y.l)).take j).length = j := by simp [uv, hml]; omega
            rw [List.set_append_right _ _ (by omega), hlj, Nat.sub_self, List.set_cons_zero, List.take_add_one, hm]
            simp
          rw [hset] at o2
          cases A with
          | none => have h : qa.map Pl.v = [] := ra; rw [h] at hva; simp at hva
          | some aA =>
            cases B with
            | none => have h : qb.map Pl.v = [] := rb; rw [h] at hvb; simp at hvb
            | some aB =>
              have c1 := (ra.grown G0u) i _ hva
              have c2 := (rb.grown G0u) i _ hvb
              have r1 := hxo.rd.grown G0u
              have r2 := hyo.rd.grown G0u
              obtain ⟨X, cx, lx⟩ := x
              obtain ⟨Y, cy, ly⟩ := y
              simp only at *
              cases X with
              | none => have h : uv lx = [] := r1; rw [h] at hua; simp at hua
              | some aX =>
                cases Y with
                | none => have h : uv ly = [] := r2; rw [h] at hub; simp at hub
                | some aY =>
                  have d1 := r1 j _ hua
                  have d2 := r2 j _ hub
                  unfold Pl.v at c1 c2
                  simp only at c1 c2
                  have i1 := ix28 aA qa.length ca .i64 i (by omega) (by omega)
                  have i2 := ix28 aB qb.length cb .i64 i (by omega) (by omega)
                  have i3 := ix38 aX lx.length cx .i64 j (by omega) (by omega)
                  have i4 := ix38 aY ly.length cy .i64 j (by omega) (by omega)
                  have i5 := ix38 pa lx.length lx.length .i64 j (by omega) (by omega)
                  simp only [Int.toNat_natCast, Nat.mul_one] at i1 i2 i3 i4 i5
                  have m1 := prodb (a := s) (b := of - part) (m := 65535) (k := 101) s0 s1 (by omega) (by omega) (by omega)
                  have m2 := prodb (a := t) (b := part) (m := 65535) (k := 101) t0 t1 hp0 (by omega) (by omega)
                  have e1 : IntKind.i64.wrap (of - part) = of - part := wrap_i64 (by omega) (by omega)
                  have e2 : IntKind.i64.wrap s = s := wrap_i64 (by omega) (by omega)
                  have e2' : IntKind.i64.wrap t = t := wrap_i64 (by omega) (by omega)
                  have e3 : IntKind.i64.wrap (s * (of - part)) = s * (of - part) := wrap_i64 (by omega) (by omega)
                  have e4 : IntKind.i64.wrap (t * part) = t * part := wrap_i64 (by omega) (by omega)
                  have e5 : IntKind.i64.wrap (s * (of - part) + t * part) = s * (of - part) + t * part := wrap_i64 (by omega) (by omega)
                  have f1 : of.tdiv 2 = of / 2 := Int.tdiv_eq_ediv_of_nonneg (by omega)
                  have e6 : IntKind.i64.wrap (of / 2) = of / 2 := wrap_i64 (by omega) (by omega)
                  have e7 : IntKind.i64.wrap (s * (of - part) + t * part + of / 2) = s * (of - part) + t * part + of / 2 := wrap_i64 (by omega) (by omega)
                  have f2 : (s * (of - part) + t * part + of / 2).tdiv of = (s * (of - part) + t * part + of / 2) / of := Int.tdiv_eq_ediv_of_nonneg (by omega)
                  have hle : (s * (of - part) + t * part + of / 2) / of ≤ s * (of - part) + t * part + of / 2 := Int.ediv_le_self _ (by omega)
                  have hge : 0 ≤ (s * (of - part) + t * part + of / 2) / of := Int.ediv_nonneg (by omega) (by omega)
                  have e8 : IntKind.i64.wrap ((s * (of - part) + t * part + of / 2) / of) = (s * (of - part) + t * part + of / 2) / of := wrap_i64 (by omega) (by omega)
                  have hmv : mv part of s t = IntKind.u16.wrap ((s * (of - part) + t * part + of / 2) / of) := by unfold mv; rw [f1, f2]
                  rw [hmv] at s2
                  have ne0 : of ≠ 0 := by omega
                  have e9 : IntKind.i64.wrap ((j : Int) + 1) = ((j + 1 : Nat) : Int) := (wrap_i64 (by omega) (by omega)).trans (by omega)
                  have Gs : Grew (fun k => p.1.ownBlock = some k) w1 w2 := (grew_new gu).step (grew_of g2 fun k hk => .inl (by rw [hP]; exact hk))
                  have E2 := E.set hget Gs (p' := (p.1, (uv (mixl part of lx ly)).take (j + 1) ++ xs')) (by
                    have hl3 : ((uv (mixl part of lx ly)).take (j + 1) ++ xs').length = lx.length := by simp [uv, hml] at hxs ⊢; omega
                    rw [hl3]
                    simp only
                    rw [hP]
                    exact o2) (fun k hk => .inl hk)
                  rw [List.set_set] at E2
                  refine .inl ⟨d, _, w2, by omega, ?_, ⟨j + 1, xs', rfl, by omega, by simpa using hxs, E2, G.step Gs⟩⟩
                  rw [hP]
                  have c1w : w1.cell? (aA.add i) = some (.slice (some aX) lx.length cx) := by rw [hu] at c1; exact c1
                  have c2w : w1.cell? (aB.add i) = some (.slice (some aY) ly.length cy) := by rw [hu] at c2; exact c2
                  have d1w : w1.cell? (aX.add j) = some (.int .u16 s) := by rw [hu] at d1; exact d1
                  have d2w : w1.cell? (aY.add j) = some (.int .u16 t) := by rw [hu] at d2; exact d2
                  simp (disch := omega) [f8.l1, lt_t, ← hu, addL, ba1.cell_eq 4 rfl, bb1.cell_eq 4 rfl, bau.cell_eq 4 rfl, bbu.cell_eq 4 rfl, i1, i2, i3, i4, i5, c1, c2, d1, d2, c1w, c2w, d1w, d2w, cv39_3, e1, e2, e2', e3, e4, e5, bin_quo, f1, e6, e7, ne0, f2, e8, cv3_39, s2, e9]) x.l.length _ w ⟨0, p.2, rfl, by omega, hpl, by
        have : q.set i (p.1, (uv (mixl part of x.l y.l)).take 0 ++ p.2) = q := by
          apply List.ext_getElem?
          intro k
          by_cases hk : i = k
          · subst hk; rw [List.getElem?_set_self hil, hip]; simp
          · rw [List.getElem?_set_ne hk]
        rw [this]; exact hr, Grew.refl _ _⟩
  obtain ⟨r, h1, w1, rfl, E, G⟩ := key
  exact ⟨w1, by simpa using h1, E, G⟩
end
end Go.Sh.YtacfghffojijaaaDoor

namespace Go.Sh.YtacfghffojijaaaDoor
open Go Go.Proofs Go.RowKit
set_option linter.unusedVariables false
set_option linter.unusedSimpArgs false
set_option maxRecDepth 100000
/-- how far the planes are mixed -/
def Mid (part of : Int) (qa qb : List Pl) (q : List (Value × List Value)) (i : Nat) : Prop := ∀ (p : Nat) r x y, q[p]? = some r → qa[p]? = some x → qb[p]? = some y → (∃ P, r.1 = .slice P x.l.length x.l.length) ∧ r.2.length = x.l.length ∧ (p < i → r.2 = uv (mixl part of x.l y.l))
section
variable {part of : Int} (hof : 1 ≤ of) (hof' : of ≤ 101) (hp0 : 0 ≤ part) (hp1 : part ≤ of)
include hof hof' hp0 hp1
theorem mix_l2 {w0 : World} {A B : Option Addr} {ca cb : Nat} {qa qb : List Pl} (ra : Rd w0 A (qa.map Pl.v)) (rb : Rd w0 B (qb.map Pl.v)) (oa : ∀ x ∈ qa, x.ok w0) (ob : ∀ x ∈ qb, x.ok w0) {a b : Nat} {W H D W' H' D' : Int} {al al' : Bool}
    (v8 v13 : Value) (hqa : qa.length ≤ 4) (hqb : qb.length = qa.length) (hlen : ∀ (p : Nat) x y, qa[p]? = some x → qb[p]? = some y → x.l.length = y.l.length) {w1 : World} (G01 : w0.grownBy w1 none) {V : Value} {base : Nat} (hb0 : w0.heap.size ≤ base) {cV : Nat} {AV : Option Addr} (q0 : List (Value × List Value)) :
    ∀ (d : Nat) (st : List Value) (w : World), (∃ (i : Nat) (q : List (Value × List Value)), st = [.int .i64 part, .int .i64 of, .pointer (some ⟨a, 0, none⟩), .pointer (some ⟨b, 0, none⟩), v8, v13, .slice AV qa.length cV, .int .i64 qa.length, .int .i64 i] ∧ i + d = qa.length ∧ q.length = qa.length ∧ Mid part of qa qb q i ∧ Fr w base (.slice AV qa.length cV) q ∧
        Blk w a 30 (fcs W H D al (.slice A qa.length ca)) ∧ Blk w b 30 (fcs W' H' D' al' (.slice B qb.length cb)) ∧ w0.grownBy w none ∧ Grew (fun k => rfp q0 k) w1 w ∧ (∀ k, rfp q k → rfp q0 k)) →
    ∃ r, iter (f8.l2 C) st w = some r ∧ ∃ q w', r = .exit 2 [v8, v13] w' ∧ q.length = qa.length ∧ Mid part of qa qb q qa.length ∧ Fr w' base (.slice AV qa.length cV) q ∧ w0.grownBy w' none ∧ Grew (fun k => rfp q0 k) w1 w' := by
  refine iter_down _ _ ?_
  rintro d st w ⟨i, q, rfl, hi, hq, hmid, F, ba, bb, G, Gw, hq0⟩
  cases d with
  | zero =>
    obtain rfl : i = qa.length := by omega
    exact .inr ⟨_, by simp [f8.l2], ⟨q, w, rfl, hq, hmid, F, G, Gw⟩, by simp⟩
  | succ d =>
    have hia : i < qa.length := by omega
    obtain ⟨x, hx⟩ : ∃ x, x = qa[i] := ⟨_, rfl⟩
    have hix : qa[i]? = some x := by rw [hx]; exact List.getElem?_eq_getElem hia
    obtain ⟨y, hy⟩ : ∃ y, y = qb[i]'(by omega) := ⟨_, rfl⟩
    have hiy : qb[i]? = some y := by rw [hy]; exact List.getElem?_eq_getElem (by omega)
    obtain ⟨p, hp⟩ : ∃ p, p = q[i]'(by omega) := ⟨_, rfl⟩
    have hiq : i < q.length := by omega
    have hip : q[i]? = some p := by rw [hp]; exact List.getElem?_eq_getElem hiq
    obtain ⟨⟨P, hP⟩, hpl, _⟩ := hmid i p x y hip hix hiy
    have hxy := hlen i x y hix hiy
    have op := F.pl.part hip
    obtain ⟨w2, a2, E2, G2⟩ := mix_l1 hof hof' hp0 hp1 ra rb oa ob (ca := ca) (cb := cb) v8 v13 (.slice AV qa.length cV) (.int .i64 qa.length) hix hiy hxy hqa (by omega) hip hP hpl (by omega) G hb0 F.pl ba bb
    have hrow := F.row
    rw [hq] at hrow
    obtain ⟨aV, rfl, cell⟩ := own_cell hrow (j := i) (v := p.1) (by simp [hip])
    have ix := ix28 aV qa.length cV .i64 i (by omega) (by omega)
    simp only [Int.toNat_natCast, Nat.mul_one] at ix
    have e3 : IntKind.i64.wrap ((i : Int) + 1) = ((i + 1 : Nat) : Int) := (wrap_i64 (by omega) (by omega)).trans (by omega)
    have hml := mixl_length part of hxy
    have hm : ∀ y : List Value, (q.set i (p.1, y)).map (·.1) = q.map (·.1) := fun y => by
      rw [List.map_set]
      apply List.ext_getElem?
      intro k
      by_cases hk : i = k
      · subst hk; rw [List.getElem?_set_self (by simpa using hiq)]; simp [hip]
      · rw [List.getElem?_set_ne hk]
    have hrf : ∀ k, rfp (q.set i (p.1, uv (mixl part of x.l y.l))) k ↔ rfp q k := fun k => by
      constructor
      · rintro ⟨r, hr, hk⟩
        obtain ⟨j, hj⟩ := List.getElem?_of_mem hr
        by_cases hij : i = j
        · subst hij
          rw [List.getElem?_set_self hiq] at hj
          cases hj
          exact ⟨p, List.mem_of_getElem? hip, hk⟩
        · rw [List.getElem?_set_ne hij] at hj
          exact ⟨r, List.mem_of_getElem? hj, hk⟩
      · rintro ⟨r, hr, hk⟩
        obtain ⟨j, hj⟩ := List.getElem?_of_mem hr
        by_cases hij : i = j
        · subst hij
          rw [hip] at hj
          cases hj
          exact ⟨_, List.mem_of_getElem? (List.getElem?_set_self hiq), hk⟩
        · exact ⟨r, List.mem_of_getElem? (by rw [List.getElem?_set_ne hij]; exact hj), hk⟩
    refine .inl ⟨d, _, w2, by omega, ?_, ⟨i + 1, q.set i (p.1, uv (mixl part of x.l y.l)), rfl, by omega, by simpa using hq, ?_, ⟨?_, E2⟩, ba.grew G2 (fun e => own_blk_ne op ba (by decide) e), bb.grew G2 (fun e => own_blk_ne op bb (by decide) e), ?_, ?_⟩⟩
    · rw [hP] at a2 cell
      simp (disch := omega) [f8.l2, lt_t, ix, cell, a2, e3]
    · intro k r x' y' hr hx' hy'
      by_cases hk : i = k
      · subst hk
        rw [List.getElem?_set_self hiq] at hr
        cases hr
        rw [hix] at hx'
        rw [hiy] at hy'
        cases hx'
        cases hy'
        exact ⟨⟨P, hP⟩, by simp [uv, hml], fun _ => rfl⟩
      · rw [List.getElem?_set_ne hk] at hr
        obtain ⟨h1, h2, h3⟩ := hmid k r x' y' hr hx' hy'
        exact ⟨h1, h2, fun h => h3 (by omega)⟩
    · have := own_grew F.row G2 (fun k h1 h2 => own_own_ne F.row op (by decide) h1 h2)
      rw [List.length_set, hm]
      exact this
    · exact ((grew_new (S := fun k => base ≤ k) G).step (G2.weak fun k hk => .inl (op.lt k hk).1)).none2 hb0
    · exact ⟨Gw.step (G2.weak fun k hk => .inl (hq0 k ⟨p, List.mem_of_getElem? hip, hk⟩)), fun k hk => hq0 k ((hrf k).mp hk)⟩
end
open Classical in
noncomputable def mcode (W H D : Int) (al : Bool) (qa : List Pl) (W' H' D' : Int) (al' : Bool) (qb : List Pl) : Int :=
  if vcode W H D al qa ≠ 0 then vcode W H D al qa else if vcode W' H' D' al' qb ≠ 0 then vcode W' H' D' al' qb else if W = W' ∧ H = H' ∧ D = D' ∧ al = al' then 0 else 204
theorem vcode_zero {W H D : Int} {al : Bool} {q : List Pl} (h : vcode W H D al q = 0) : Shd W H D al ∧ q.length = pl al ∧ (∀ p x, q[p]? = some x → (x.l.length : Int) = wd W p * H) ∧ ∀ x ∈ q, ∀ v ∈ x.l, v < (2 : Int) ^ D.toNat := by
  unfold vcode at h
  split at h
  · cases h
  · rename_i h1
    split at h
    · cases h
    · rename_i h2
      split at h
      · cases h
      · rename_i h3
        split at h
        · cases h
        · rename_i h4
          refine ⟨Classical.not_not.mp h1, Classical.not_not.mp h2, fun p x hp => ?_, fun x hx v hv => ?_⟩
          · apply Classical.byContradiction
            intro hn
            exact h3 ⟨p, x, hp, hn⟩
          · apply Classical.byContradiction
            intro hn
            exact h4 ⟨x, hx, v, hv, by omega⟩
theorem loads_two {w : World} {b : Nat} {W H D : Int} {al : Bool} {A : Option Addr} {n c : Nat} (h : Blk w b 30 (fcs W H D al (.slice A n c))) (s t : Nat) (v : Value) : loadsOf Tryd.prog [.cell s 30, .tmp t] [.pointer (some ⟨b, 0, none⟩), v] w = some [fv W H D al A n c, v] := by
  simp [ld30b h]
theorem mix_ok {part of : Int} (hof : 1 ≤ of) (hof' : of ≤ 101) (hp0 : 0 ≤ part) (hp1 : part ≤ of) {w : World} {W H D : Int} {al : Bool} {A : Option Addr} {ca : Nat} {qa : List Pl} {W' H' D' : Int} {al' : Bool} {B : Option Addr} {cb : Nat} {qb : List Pl}
    (ra : Rd w A (qa.map Pl.v)) (rb : Rd w B (qb.map Pl.v)) (oa : ∀ x ∈ qa, x.ok w) (ob : ∀ x ∈ qb, x.ok w) (la : qa.length ≤ maxLen) (lb : qb.length ≤ maxLen) :
    ∃ v w', C 8 #[fv W H D al A qa.length ca, fv W' H' D' al' B qb.length cb, .int .i64 part, .int .i64 of] w = some (.tuple #[v, .int .i64 (mcode W H D al qa W' H' D' al' qb)], w') ∧ w.grownBy w' none ∧
      ((mcode W H D al qa W' H' D' al' qb ≠ 0 ∧ v = fv 0 0 0 false none 0 0) ∨ (mcode W H D al qa W' H' D' al' qb = 0 ∧ ∃ AV cV q, v = fv W H D al AV q.length cV ∧ q.length = qa.length ∧ Mid part of qa qb q qa.length ∧ Fr w' w.heap.size (.slice AV q.length cV) q)) := by
  obtain ⟨W0, hW0⟩ : ∃ W0, W0 = w.alloc (.cells #[.int .i64 W, .int .i64 H, .int .i64 D, .bool al, .slice A qa.length ca] 30) := ⟨_, rfl⟩
  have g0 : w.grownBy W0 none := hW0 ▸ World.grownBy_alloc w _ none
  have b0 : Blk W0 w.heap.size 30 (fcs W H D al (.slice A qa.length ca)) := hW0 ▸ Blk.new w 30 (fcs W H D al (.slice A qa.length ca))
  obtain ⟨W1, hW1⟩ : ∃ W1, W1 = W0.alloc (.cells #[.int .i64 W', .int .i64 H', .int .i64 D', .bool al', .slice B qb.length cb] 30) := ⟨_, rfl⟩
  have g1 : W0.grownBy W1 none := hW1 ▸ World.grownBy_alloc W0 _ none
  have b1 : Blk W1 W0.heap.size 30 (fcs W' H' D' al' (.slice B qb.length cb)) := hW1 ▸ Blk.new W0 30 (fcs W' H' D' al' (.slice B qb.length cb))
  obtain ⟨W2, hW2⟩ : ∃ W2, W2 = W1.alloc (.cells #[.int .i64 0, .int .i64 0, .int .i64 0, .bool false, .slice none 0 0] 30) := ⟨_, rfl⟩
  have g2 : W1.grownBy W2 none := hW2 ▸ World.grownBy_alloc W1 _ none
  have b2 : Blk W2 W1.heap.size 30 (fcs 0 0 0 false (.slice none 0 0)) := hW2 ▸ Blk.new W1 30 (fcs 0 0 0 false (.slice none 0 0))
  have hs0 : W0.heap.size = w.heap.size + 1 := by rw [hW0]; simp
  have hs1 : W1.heap.size = w.heap.size + 2 := by rw [hW1]; simp [hs0]
  have b02 := (b0.grown g1 (by simp)).grown g2 (by simp)
  have b12 := b1.grown g2 (by simp)
  have G2 : w.grownBy W2 none := grown_trans (grown_trans g0 g1 (by simp)) g2 (by simp)
  rw [hs0] at b12
  rw [hs1] at b2
  have sizes : W0.heap.size = w.heap.size + 1 ∧ W1.heap.size = w.heap.size + 1 + 1 := ⟨hs0, by omega⟩
  have first := mix_l0 (part := part) (of := of) (v4 := .pointer (some ⟨w.heap.size, 0, none⟩)) (v5 := .pointer (some ⟨w.heap.size + 1, 0, none⟩)) (i := 0) (.inl rfl) (index53_0 _ _ _ _ _ (.int .i64 W') (.int .i64 H') (.int .i64 D') (.bool al') (.slice B qb.length cb)) (c := ca) (W := W) (H := H) (D := D) (al := al) (ra.grown G2) (fun x hx => (oa x hx).grown G2) la (v := undef) b2
  have cond1 : (of < 1) = False := eq_false (by omega)
  have cond2 : (101 < of) = False := eq_false (by omega)
  have cond3 : (part < 0) = False := eq_false (by omega)
  have cond4 : (of < part) = False := eq_false (by omega)
  rcases first with ⟨va, w3, l3, g3⟩ | ⟨va, w3, l3, b3, g3⟩
  · have G3 := grown_trans G2 g3 (by simp)
    have b3 := b2.grown g3 (by simp)
    have second := mix_l0 (part := part) (of := of) (v4 := .pointer (some ⟨w.heap.size, 0, none⟩)) (v5 := .pointer (some ⟨w.heap.size + 1, 0, none⟩)) (i := 1) (.inr rfl) (index53_1 (.int .i64 W) (.int .i64 H) (.int .i64 D) (.bool al) (.slice A qa.length ca) _ _ _ _ _) (c := cb) (W := W') (H := H') (D := D') (al := al') (rb.grown G3) (fun x hx => (ob x hx).grown G3) lb (v := undef) b3
    rcases second with ⟨vb, w4, l4, g4⟩ | ⟨vb, w4, l4, b4, g4⟩
    · have G4 := grown_trans G3 g4 (by simp)
      have b4 := b3.grown g4 (by simp)
      have ba4 := (b02.grown g3 (by simp)).grown g4 (by simp)
      have bb4 := (b12.grown g3 (by simp)).grown g4 (by simp)
      have l5 : f8.l0 C [.int .i64 part, .int .i64 of, .pointer (some ⟨w.heap.size, 0, none⟩), .pointer (some ⟨w.heap.size + 1, 0, none⟩), .pointer (some ⟨w.heap.size + 2, 0, none⟩), .agg #[.int .i64 W, .int .i64 H, .int .i64 D, .bool al, .slice A qa.length ca, .int .i64 W', .int .i64 H', .int .i64 D', .bool al', .slice B qb.length cb], .int .i64 (1 + 1)] w4 = some (.exit 0 [.int .i64 part, .int .i64 of, .pointer (some ⟨w.heap.size, 0, none⟩), .pointer (some ⟨w.heap.size + 1, 0, none⟩), .pointer (some ⟨w.heap.size + 2, 0, none⟩)] w4) := by simp [f8.l0]
      have it : iter (f8.l0 C) [.int .i64 part, .int .i64 of, .pointer (some ⟨w.heap.size, 0, none⟩), .pointer (some ⟨w.heap.size + 1, 0, none⟩), .pointer (some ⟨w.heap.size + 2, 0, none⟩), .agg #[.int .i64 W, .int .i64 H, .int .i64 D, .bool al, .slice A qa.length ca, .int .i64 W', .int .i64 H', .int .i64 D', .bool al', .slice B qb.length cb], .int .i64 0] W2 = some (.exit 0 [.int .i64 part, .int .i64 of, .pointer (some ⟨w.heap.size, 0, none⟩), .pointer (some ⟨w.heap.size + 1, 0, none⟩), .pointer (some ⟨w.heap.size + 2, 0, none⟩)] w4) :=
        iter_of_rounds (.more l3 (.more l4 (.exit l5)))
      by_cases hsh : W = W' ∧ H = H' ∧ D = D' ∧ al = al'
      · obtain ⟨rfl, rfl, rfl, rfl⟩ := hsh
        have hm : mcode W H D al qa W H D al qb = 0 := by unfold mcode; rw [if_neg (fun h => h va), if_neg (fun h => h vb), if_pos ⟨rfl, rfl, rfl, rfl⟩]
        obtain ⟨hS, hla, hea, _⟩ := vcode_zero va
        obtain ⟨_, hlb, heb, _⟩ := vcode_zero vb
        obtain ⟨An, cn, qn, w5, a5, hqn, hall, F5, g5⟩ := new_ok (al := al) hS w4
        have b5 := b4.grown g5 (by simp)
        have ba5 := ba4.grown g5 (by simp)
        have bb5 := bb4.grown g5 (by simp)
        have G5 := grown_trans G4 g5 (by simp)
        obtain ⟨W6, hW6⟩ : ∃ W6, W6 = w5.alloc (.cells #[.int .i64 0, .int .i64 0, .int .i64 0, .bool false, .slice none 0 0] 30) := ⟨_, rfl⟩
        have g6 : w5.grownBy W6 none := hW6 ▸ World.grownBy_alloc w5 _ none
        have b6 : Blk W6 w5.heap.size 30 (fcs 0 0 0 false (.slice none 0 0)) := hW6 ▸ Blk.new w5 30 (fcs 0 0 0 false (.slice none 0 0))
        obtain ⟨w7, s7, b7, g7⟩ := st30 b6 rfl W H D al An (pl al) cn
        have hb2lt := b5.lt
        have ba7 := (ba5.grown g6 (by simp)).grown g7 (by simp; omega)
        have bb7 := (bb5.grown g6 (by simp)).grown g7 (by simp; omega)
        have br7 := (b5.grown g6 (by simp)).grown g7 (by simp; omega)
        have F6 := F5.new g6
        have F7 := F6.grew (grew_of (S := fun k => k = w5.heap.size) g7 fun k hk => by cases hk; exact .inl rfl) fun k hk e => by have := (F5.ge hk).2; omega
        have G7 : w.grownBy w7 none := grown_trans (grown_trans G5 g6 (by simp)) g7 fun k hk => by cases hk; have := G5.size; omega
        have hle := pl_le al
        rw [← hla] at F7 hqn s7 b7 a5
        obtain ⟨r, h8, q, w8, rfl, hq8, mid8, F8, G8, Gw8⟩ := mix_l2 hof hof' hp0 hp1 ra rb oa ob (ca := ca) (cb := cb) (a := w.heap.size) (b := w.heap.size + 1) (W := W) (H := H) (D := D) (W' := W) (H' := H) (D' := D) (al := al) (al' := al) (.pointer (some ⟨w.heap.size + 2, 0, none⟩)) (.pointer (some ⟨w5.heap.size, 0, none⟩)) (by omega) (by omega)
          (fun p x y hx hy => by have h1 := hea p x hx; have h2 := heb p y hy; omega) G7 (V := undef) (base := w4.heap.size) G4.size qn qa.length _ w7 ⟨0, qn, rfl, by omega, hqn, (fun p r x y hr hx hy => by
            obtain ⟨A', n', hn', rfl⟩ := hall p r hr
            have h1 := hea p x hx
            have : n' = x.l.length := by omega
            subst this
            exact ⟨⟨A', rfl⟩, by simp [zp], fun h => by omega⟩), F7, ba7, bb7, G7, Grew.refl _ _, fun _ h => h⟩
        have br8 := br7.grew Gw8 fun hk => by
          have := (F7.pl.ge hk).1
          have := b4.lt
          omega
        have b8 : Blk w8 w5.heap.size 30 (fcs W H D al (.slice An qa.length cn)) := b7.grew Gw8 fun hk => F7.pl.ne_blk b7 (by decide) hk
        obtain ⟨w9, s9, b9, g9⟩ := st30 br8 rfl W H D al An qa.length cn
        have F9 := F8.grew (grew_of (S := fun k => k = w.heap.size + 2) g9 fun k hk => by cases hk; exact .inl rfl) fun k hk e => by have := (F8.ge hk).1; have := b4.lt; omega
        have F9' : Fr w9 w.heap.size (.slice An qa.length cn) q := ⟨own_base F9.row G4.size, ⟨fun p hp => own_base (F9.pl.own p hp) G4.size, F9.pl.dis⟩⟩
        refine ⟨fv W H D al An qa.length cn, w9, f8.run rfl ?_, grown_trans G8 g9 fun k hk => by cases hk; omega, .inr ⟨hm, An, cn, q, by rw [hq8], hq8, mid8, by rw [hq8]; exact F9'⟩⟩
        rw [hm]
        simp only [f8]
        simp at h8
        simp [box_any, Value.cells, ← hW0, ← hW1, alloc30, ← hW2, hs0, sizes, cond1, cond2, cond3, cond4, ld30b b02, ld30b b12, build53, it, addL, ld27b ba4 rfl, ld27b bb4 rfl, a5, ← hW6, s7, b7.cell_eq 4 rfl, h8, ld30b b8, s9, loads_two b9]
      · have hm : mcode W H D al qa W' H' D' al' qb = 204 := by unfold mcode; rw [if_neg (fun h => h va), if_neg (fun h => h vb), if_neg hsh]
        obtain ⟨w9, s9, b9, g9⟩ := st30 b4 rfl 0 0 0 false none 0 0
        refine ⟨fv 0 0 0 false none 0 0, w9, f8.run rfl ?_, grown_trans G4 g9 fun k hk => by cases hk; omega, .inl ⟨by rw [hm]; decide, rfl⟩⟩
        rw [hm]
        have hne : (W == W' && (H == H' && (D == D' && al == al'))) = false := by
          apply Bool.eq_false_iff.mpr
          intro h
          simp only [Bool.and_eq_true, beq_iff_eq] at h
          exact hsh h
        have hne' : (W == W' && H == H' && D == D' && al == al') = false := by rw [Bool.and_assoc, Bool.and_assoc]; exact hne
        simp only [f8]
        simp [box_any, Value.cells, ← hW0, ← hW1, alloc30, ← hW2, hs0, sizes, cond1, cond2, cond3, cond4, ld30b b02, ld30b b12, build53, it, addL, ld27b ba4 rfl, ld27b bb4 rfl, hne, hne', build30z, s9, loads_two b9, - Bool.and_eq_true]
    · have hm : mcode W H D al qa W' H' D' al' qb = vcode W' H' D' al' qb := by unfold mcode; rw [if_neg (fun h => h va), if_pos vb]
      have it : iter (f8.l0 C) [.int .i64 part, .int .i64 of, .pointer (some ⟨w.heap.size, 0, none⟩), .pointer (some ⟨w.heap.size + 1, 0, none⟩), .pointer (some ⟨w.heap.size + 2, 0, none⟩), .agg #[.int .i64 W, .int .i64 H, .int .i64 D, .bool al, .slice A qa.length ca, .int .i64 W', .int .i64 H', .int .i64 D', .bool al', .slice B qb.length cb], .int .i64 0] W2 = some (.ret [.pointer (some ⟨w.heap.size + 2, 0, none⟩), .int .i64 (vcode W' H' D' al' qb)] w4) :=
        iter_of_rounds (.more l3 (.ret l4))
      refine ⟨fv 0 0 0 false none 0 0, w4, f8.run rfl ?_, grown_trans G3 g4 fun k hk => by cases hk; omega, .inl ⟨by rw [hm]; exact vb, rfl⟩⟩
      rw [hm]
      simp only [f8]
      simp [box_any, Value.cells, ← hW0, ← hW1, alloc30, ← hW2, hs0, sizes, cond1, cond2, cond3, cond4, ld30b b02, ld30b b12, build53, it, loads_two b4]
  · have hm : mcode W H D al qa W' H' D' al' qb = vcode W H D al qa := by unfold mcode; rw [if_pos va]
    have it : iter (f8.l0 C) [.int .i64 part, .int .i64 of, .pointer (some ⟨w.heap.size, 0, none⟩), .pointer (some ⟨w.heap.size + 1, 0, none⟩), .pointer (some ⟨w.heap.size + 2, 0, none⟩), .agg #[.int .i64 W, .int .i64 H, .int .i64 D, .bool al, .slice A qa.length ca, .int .i64 W', .int .i64 H', .int .i64 D', .bool al', .slice B qb.length cb], .int .i64 0] W2 = some (.ret [.pointer (some ⟨w.heap.size + 2, 0, none⟩), .int .i64 (vcode W H D al qa)] w3) :=
      iter_of_rounds (.ret l3)
    refine ⟨fv 0 0 0 false none 0 0, w3, f8.run rfl ?_, grown_trans G2 g3 fun k hk => by cases hk; omega, .inl ⟨by rw [hm]; exact va, rfl⟩⟩
    rw [hm]
    simp only [f8]
    simp [box_any, Value.cells, ← hW0, ← hW1, alloc30, ← hW2, hs0, sizes, cond1, cond2, cond3, cond4, ld30b b02, ld30b b12, build53, it, loads_two b3]
end Go.Sh.YtacfghffojijaaaDoor

namespace Go.Sh.YtacfghffojijaaaDoor
open Go Go.Proofs Go.RowKit
set_option linter.unusedVariables false
set_option linter.unusedSimpArgs false
set_option maxRecDepth 100000
theorem fr_rd {w : World} {base : Nat} {A : Option Addr} {c : Nat} {q : List (Value × List Value)} (h : Fr w base (.slice A q.length c) q) : Rd w A (q.map (·.1)) := by
  cases A with
  | none =>
    show q.map (·.1) = []
    cases q with
    | nil => rfl
    | cons p q =>
      obtain ⟨a, e, _⟩ := own_cell h.row (j := 0) (v := p.1) (by simp)
      cases e
  | some a =>
    intro j v hv
    obtain ⟨a', e, hc⟩ := own_cell h.row (j := j) (v := v) hv
    cases e
    exact hc
theorem row_rd {w : World} {base n c : Nat} {A : Option Addr} {xs : List Value} (h : w.ownsRow base 39 1 (.slice A n c) n xs) : Rd w A xs := by
  cases A with
  | none =>
    show xs = []
    cases xs with
    | nil => rfl
    | cons p q =>
      obtain ⟨a, e, _⟩ := own_cell h (j := 0) (v := p) (by simp)
      cases e
  | some a =>
    intro j v hv
    obtain ⟨a', e, hc⟩ := own_cell h (j := j) (v := v) hv
    cases e
    exact hc
/-- planes of a frame, as planes that came in -/
theorem fr_pl {w : World} {base : Nat} {A : Option Addr} {c : Nat} {q : List (Value × List Value)} (h : Fr w base (.slice A q.length c) q) (F : Nat → List Int) (hF : ∀ (p : Nat) r, q[p]? = some r → (∃ P, r.1 = .slice P (F p).length (F p).length) ∧ r.2 = uv (F p) ∧ (F p).length ≤ 9223372036854775807 ∧ ∀ v ∈ F p, 0 ≤ v ∧ v ≤ 65535) :
    ∃ ql : List Pl, ql.length = q.length ∧ (∀ p x, ql[p]? = some x → x.l = F p) ∧ Rd w A (ql.map Pl.v) ∧ ∀ x ∈ ql, x.ok w := by
  have key : ∀ (k : Nat), k ≤ q.length → ∃ ql : List Pl, ql.length = k ∧ (∀ p x, ql[p]? = some x → x.l = F p) ∧ ql.map Pl.v = (q.take k).map (·.1) ∧ ∀ x ∈ ql, x.ok w := by
    intro k
    induction k with
    | zero => exact fun _ => ⟨[], rfl, by simp, by simp, by simp⟩
    | succ k ih =>
      intro hk
      obtain ⟨ql, h1, h2, h3, h4⟩ := ih (by omega)
      obtain ⟨r, hr⟩ : ∃ r, r = q[k] := ⟨_, rfl⟩
      have hqk : q[k]? = some r := by rw [hr]; exact List.getElem?_eq_getElem (by omega)
      obtain ⟨⟨P, hP⟩, hu, hl, hv⟩ := hF k r hqk
      refine ⟨ql ++ [⟨P, (F k).length, F k⟩], by simp [h1], fun p x hp => ?_, ?_, fun x hx => ?_⟩
      · by_cases hpk : p < ql.length
        · rw [List.getElem?_append_left hpk] at hp
          exact h2 p x hp
        · have : p = k := by have := (List.getElem?_eq_some_iff.mp hp).1; simp at this; omega
          subst this
          rw [List.getElem?_append_right (by omega), h1, Nat.sub_self] at hp
          simp at hp
          rw [← hp]
      · rw [List.take_add_one, hqk]
        simp [h3, Pl.v, hP]
      · rcases List.mem_append.mp hx with hx | hx
        · exact h4 x hx
        · simp at hx
          subst hx
          have o := h.pl.part hqk
          rw [hP, hu] at o
          have hlu : (uv (F k)).length = (F k).length := by simp [uv]
          rw [hlu] at o
          exact ⟨row_rd o, Nat.le_refl _, hl, hv⟩
  obtain ⟨ql, h1, h2, h3, h4⟩ := key q.length (Nat.le_refl _)
  rw [List.take_length] at h3
  exact ⟨ql, h1, h2, by rw [h3]; exact fr_rd h, h4⟩
def sz (p : Nat) : Nat := if p = 0 then 256 else 128
theorem sz_le (p : Nat) : 128 ≤ sz p ∧ sz p ≤ 256 := by unfold sz; split <;> omega
theorem small_l0 {v : Int} (x2 x3 x4 : Value) {w0 : World} {base n : Nat} {A : Option Addr} {xs : List Value} (o : w0.ownsRow base 39 1 (.slice A n n) n xs) (hn : n ≤ 1000) :
    ∃ w', iter (f14.l0 C) [.int .u16 v, x2, x3, x4, .int .i64 n, .slice A n n, .int .i64 0] w0 = some (.exit 2 [.int .u16 v, x2, x3, x4, .slice A n n] w') ∧ w'.ownsRow base 39 1 (.slice A n n) n (List.replicate n (.int .u16 v)) ∧ Grew (fun k => (Value.slice A n n).ownBlock = some k) w0 w' := by
  have hxs : xs.length = n := by simpa using o.1
  have key := iter_down (f := f14.l0 C) (fun d st w1 => ∃ (j : Nat) (ys : List Value), st = [.int .u16 v, x2, x3, x4, .int .i64 n, .slice A n n, .int .i64 j] ∧ j + d = n ∧ ys.length = d ∧ w1.ownsRow base 39 1 (.slice A n n) n (List.replicate j (.int .u16 v) ++ ys) ∧ Grew (fun k => (Value.slice A n n).ownBlock = some k) w0 w1)
    (fun r => ∃ w1, r = .exit 2 [.int .u16 v, x2, x3, x4, .slice A n n] w1 ∧ w1.ownsRow base 39 1 (.slice A n n) n (List.replicate n (.int .u16 v)) ∧ Grew (fun k => (Value.slice A n n).ownBlock = some k) w0 w1) (by
      rintro d st w1 ⟨j, ys, rfl, hj, hys, E, G⟩
      cases d with
      | zero =>
        obtain rfl : j = n := by omega
        have : ys = [] := by simpa using hys
        subst this
        rw [List.append_nil] at E
        exact .inr ⟨_, by simp [f14.l0], ⟨w1, rfl, E, G⟩, by simp⟩
      | succ d =>
        cases ys with
        | nil => simp at hys
        | cons z ys =>
          obtain ⟨pa, w2, e, hba, s2, o2, g2⟩ := own_store (P := Tryd.prog) E (t := 39) inf39 size39 (j := j) (by omega) (v := .int .u16 v) rfl rfl
          subst e
          have hset : (List.replicate j (Value.int .u16 v) ++ z :: ys).set j (.int .u16 v) = List.replicate (j + 1) (.int .u16 v) ++ ys := by
            rw [List.set_append_right _ _ (by simp), List.length_replicate, Nat.sub_self, List.set_cons_zero, List.replicate_succ']
            simp
          rw [hset] at o2
          have i5 := ix38 pa n n .i64 j (by omega) (by omega)
          simp only [Int.toNat_natCast, Nat.mul_one] at i5
          have e3 : IntKind.i64.wrap ((j : Int) + 1) = ((j + 1 : Nat) : Int) := (wrap_i64 (by omega) (by omega)).trans (by omega)
          refine .inl ⟨d, _, w2, by omega, ?_, ⟨j + 1, ys, rfl, by omega, by simpa using hys, o2, G.step (grew_of g2 fun k hk => .inl hk)⟩⟩
          simp (disch := omega) [f14.l0, lt_t, i5, s2, e3]) n _ w0 ⟨0, xs, rfl, by omega, hxs, by simpa using o, Grew.refl _ _⟩
  obtain ⟨r, h1, w1, rfl, o1, G1⟩ := key
  exact ⟨w1, h1, o1, G1⟩
theorem small_l1 {v : Int} {f s : Nat} {w0 : World} :
    ∀ (d : Nat) (st : List Value) (w : World), (∃ (i : Nat) (V : Value) (q : List (Value × List Value)), st = [.int .u16 v, .pointer (some ⟨s, 0, none⟩), .pointer (some ⟨f, 0, none⟩), .int .i64 i] ∧ i + d = 3 ∧ q.length = i ∧ (∀ p x, q[p]? = some x → ∃ (A : Option Addr), x = (.slice A (sz p) (sz p), List.replicate (sz p) (.int .u16 v))) ∧ Fr w w0.heap.size V q ∧ Blk w f 30 (fcs 16 16 10 false V) ∧ Grew (fun k => k = f) w0 w) →
    ∃ r, iter (f14.l1 C) st w = some r ∧ ∃ V q w', r = .exit 0 [.pointer (some ⟨s, 0, none⟩), .pointer (some ⟨f, 0, none⟩)] w' ∧ q.length = 3 ∧ (∀ p x, q[p]? = some x → ∃ (A : Option Addr), x = (.slice A (sz p) (sz p), List.replicate (sz p) (.int .u16 v))) ∧ Fr w' w0.heap.size V q ∧ Blk w' f 30 (fcs 16 16 10 false V) ∧ Grew (fun k => k = f) w0 w' := by
  refine iter_down _ _ ?_
  rintro d st w ⟨i, V, q, rfl, hi, hq, hall, F, bf, G⟩
  cases d with
  | zero =>
    obtain rfl : i = 3 := by omega
    exact .inr ⟨_, by simp [f14.l1], ⟨V, q, w, rfl, hq, hall, F, bf, G⟩, by simp⟩
  | succ d =>
    obtain ⟨n, hn⟩ : ∃ n, n = sz i := ⟨_, rfl⟩
    have hn1 := sz_le i
    obtain ⟨w2, m1, m2, m3⟩ := mk38 (w := w) w.heap.size n (by omega) (by simp [maxLen]; omega) (Nat.le_refl _)
    rw [made_samples] at m2
    obtain ⟨w3, l3, o3, G3⟩ := small_l0 (v := v) (.pointer (some ⟨s, 0, none⟩)) (.pointer (some ⟨f, 0, none⟩)) (.int .i64 i) m2 (by omega)
    have hself : (Value.slice (some ⟨w.heap.size, 0, none⟩) n n).ownBlock = some w.heap.size ∨ (Value.slice (some ⟨w.heap.size, 0, none⟩) n n).ownBlock = none := by simp [Value.ownBlock]
    have g3 : w.grownBy w3 none := ((grew_new (S := fun k => w.heap.size ≤ k) m3).step (G3.weak fun k hk => .inl (by simp [Value.ownBlock] at hk; omega))).toNew fun _ h => h
    have b3f := bf.grown g3 (by simp)
    have F3 := F.new g3
    have Gw3 := G.step (grew_new g3)
    have hlr : (List.replicate n (Value.int .u16 v)).length = n := by simp
    obtain ⟨V', w4, w5, p1, p2, F5, b5f, G5, cV, k5⟩ := F3.push b3f (p := (.slice (some ⟨w.heap.size, 0, none⟩) n n, List.replicate n (.int .u16 v))) (by
        show w3.ownsRow w0.heap.size 39 1 (.slice (some ⟨w.heap.size, 0, none⟩) n n) (List.replicate n (Value.int .u16 v)).length (List.replicate n (Value.int .u16 v)); rw [hlr]; exact own_base o3 G.size) (fun k hk hf => by
      have h1 := F.pl.ge hf
      simp [Value.ownBlock] at hk
      omega) (by omega) Gw3.size
    have e3 : IntKind.i64.wrap ((i : Int) + 1) = ((i + 1 : Nat) : Int) := (wrap_i64 (by omega) (by omega)).trans (by omega)
    refine .inl ⟨d, _, w5, by omega, ?_, ⟨i + 1, V', q ++ [(.slice (some ⟨w.heap.size, 0, none⟩) n n, List.replicate n (.int .u16 v))], rfl, by omega, by simp [hq], ?_, F5, b5f, ?_⟩⟩
    · simp only at p1
      by_cases h0 : i = 0
      · subst h0
        have h256 : n = 256 := hn
        subst h256
        have z : ((256 : Nat) : Int) = 256 := rfl
        rw [z] at m1 l3
        simp only [show ((0 : Nat) : Int) = 0 from rfl] at l3
        simp (disch := omega) [f14.l1, lt_t, m1, l3, addL, b3f.cell_eq 4 rfl, bs28_1, p1, p2, show IntKind.i64.wrap 1 = 1 from rfl]
      · have h128 : n = 128 := by rw [hn]; unfold sz; rw [if_neg h0]
        subst h128
        have z : ((128 : Nat) : Int) = 128 := rfl
        rw [z] at m1 l3
        have hp : (0 < i) = True := eq_true (by omega)
        simp (disch := omega) [f14.l1, lt_t, hp, m1, l3, addL, b3f.cell_eq 4 rfl, bs28_1, p1, p2, e3]
    · intro p x hp
      by_cases hpq : p < q.length
      · rw [List.getElem?_append_left hpq] at hp
        exact hall p x hp
      · have hpi : p = i := by have := (List.getElem?_eq_some_iff.mp hp).1; simp at this; omega
        subst hpi
        rw [List.getElem?_append_right (by omega), show p - q.length = 0 by omega] at hp
        simp at hp
        rw [← hn]
        exact ⟨_, hp.symm⟩
    · exact Gw3.trans G5 fun k hk => by
        rcases hk with rfl | hk
        · exact .inl rfl
        · exact .inr (F3.row.lt k hk).1
theorem build27s : prun Tryd.prog (Instr.build 27 #[(0, (Value.int IntKind.i64 16)), (1, (Value.int IntKind.i64 16)), (2, (Value.int IntKind.i64 10))]) = some (sv 16 16 10 false) := id (by kernel_rfl)
theorem small_ok {v : Int} (h0 : 0 ≤ v) (h1 : v ≤ 65535) (w : World) :
    ∃ (A : Option Addr) (c : Nat) (q : List Pl) (w' : World), C 14 #[.int .u16 v] w = some (fv 16 16 10 false A q.length c, w') ∧ q.length = 3 ∧ (∀ p x, q[p]? = some x → x.l = List.replicate (sz p) v) ∧ Rd w' A (q.map Pl.v) ∧ (∀ x ∈ q, x.ok w') ∧ w.grownBy w' none := by
  obtain ⟨W1, hW1⟩ : ∃ W1, W1 = w.alloc (.cells #[.int .i64 0, .int .i64 0, .int .i64 0, .bool false, .slice none 0 0] 30) := ⟨_, rfl⟩
  have g1 : w.grownBy W1 none := hW1 ▸ World.grownBy_alloc w _ none
  have b1 : Blk W1 w.heap.size 30 (fcs 0 0 0 false (.slice none 0 0)) := hW1 ▸ Blk.new w 30 (fcs 0 0 0 false (.slice none 0 0))
  obtain ⟨W2, hW2⟩ : ∃ W2, W2 = W1.alloc (.cells #[.int .i64 0, .int .i64 0, .int .i64 0, .bool false, .slice none 0 0] 30) := ⟨_, rfl⟩
  have g2 : W1.grownBy W2 none := hW2 ▸ World.grownBy_alloc W1 _ none
  have b2 : Blk W2 W1.heap.size 30 (fcs 0 0 0 false (.slice none 0 0)) := hW2 ▸ Blk.new W1 30 (fcs 0 0 0 false (.slice none 0 0))
  have hs1 : W1.heap.size = w.heap.size + 1 := by rw [hW1]; simp
  obtain ⟨w3, s3, b3, g3⟩ := st30 b2 rfl 16 16 10 false none 0 0
  have b3r : Blk w3 w.heap.size 30 (fcs 0 0 0 false (.slice none 0 0)) := (b1.grown g2 (by simp)).grown g3 (by simp; omega)
  have G2 := grown_trans g1 g2 (by simp)
  have G3 : w.grownBy w3 none := grown_trans G2 g3 (fun k hk => by cases hk; omega)
  obtain ⟨r, h5, V, q, w5, rfl, hq, hall, F5, b5, G5⟩ := small_l1 (v := v) (w0 := w3) (f := W1.heap.size) (s := w.heap.size) 3 _ w3 ⟨0, .slice none 0 0, [], rfl, by omega, rfl, by simp, ⟨World.ownsRow_nil _ _ _ _, Rows.nil⟩, b3, Grew.refl _ _⟩
  have b5r := b3r.grew G5 (fun e => by omega)
  obtain ⟨A, c, rfl, _⟩ := own_form F5.row
  obtain ⟨w6, s6, b6, g6⟩ := st30 b5r rfl 16 16 10 false A q.length c
  have G5' : w.grownBy w5 none := ((grew_new (S := fun k => w.heap.size ≤ k) G3).step (G5.weak fun k hk => .inl (by omega))).toNew fun _ h => h
  have F6 := F5.grew (grew_of (S := fun k => k = w.heap.size) g6 fun k hk => by cases hk; exact .inl rfl) fun k hk e => F5.ne_blk b5r (by decide) (by decide) (e ▸ hk)
  obtain ⟨ql, k1, k2, k3, k4⟩ := fr_pl F6 (fun p => List.replicate (sz p) v) (fun p r hr => by
    obtain ⟨P, rfl⟩ := hall p r hr
    have := sz_le p
    refine ⟨⟨P, by simp⟩, by simp [uv], by simp; omega, fun u hu => ?_⟩
    rw [List.eq_of_mem_replicate hu]
    exact ⟨h0, h1⟩)
  refine ⟨A, c, ql, w6, f14.run rfl ?_, by omega, k2, k3, k4, grown_trans G5' g6 fun k hk => by cases hk; omega⟩
  rw [k1]
  rw [hq] at s6 b6 b5 ⊢
  rw [hs1] at s3 h5 b5
  simp at h5
  simp [f14, alloc30, ← hW1, ← hW2, hs1, build27s, build30, s3, h5, ld30b b5, s6, ld30b b6]
end Go.Sh.YtacfghffojijaaaDoor

namespace Go.Sh.YtacfghffojijaaaDoor
open Go Go.Proofs Go.RowKit
set_option linter.unusedVariables false
set_option linter.unusedSimpArgs false
set_option maxRecDepth 100000
abbrev sx : Value := .string { data := #[120] }
abbrev se : Value := .string { data := #[] }
theorem z1 : ByteArray.size { data := #[120] } = 1 := rfl
theorem z0 : ByteArray.size { data := #[] } = 0 := rfl
theorem len_sx : prun Tryd.prog (Builtin.len_ #[9] 3 #[sx]) = some (.int .i64 1) := id (by kernel_rfl)
theorem len_se : prun Tryd.prog (Builtin.len_ #[9] 3 #[se]) = some (.int .i64 0) := id (by kernel_rfl)
theorem ix_sx : prun Tryd.prog (Instr.index 9 sx (.int .i64 0)) = some (.int .u8 120) := id (by kernel_rfl)
theorem sl_sx : prun Tryd.prog (Instr.sliceAt 9 sx (some (.int .i64 1)) none none) = some se := id (by kernel_rfl)
theorem utf_ok (w : World) : C 44 #[sx] w = some (.bool true, w) := by
  refine f44.run rfl ?_
  have h1 : f44.l1 C [sx] w = some (.norm [se] w) := by simp [f44.l1, z1, z0, ix_sx, sl_sx]
  have h2 : f44.l1 C [se] w = some (.exit 0 [] w) := by simp [f44.l1, z0]
  have it : iter (f44.l1 C) [sx] w = some (.exit 0 [] w) := iter_of_rounds (.more h1 (.exit h2))
  simp [f44, it]
abbrev rt : List Value := [.int .i64 25, .int .i64 25, .int .i64 1, .int .i64 0]
/-- the table's row of the rate -/
def Tb (w : World) : Prop := Rd w (some ⟨2, 8, none⟩) rt
theorem Tb.grown {w w' : World} (h : Tb w) (hg : w.grownBy w' none) : Tb w' := Rd.grown h hg
theorem alloc95 (w : World) : erun Tryd.prog (Instr.alloc 95 true (.tuple #[])) w = some (.pointer (some ⟨w.heap.size, 0, none⟩), w.alloc (.cells #[.int .i64 0, .int .i64 0, .int .i64 0, .int .i64 0] 95)) := id (by kernel_rfl)
theorem ix105 : prun Tryd.prog (Instr.indexAt 105 (.pointer (some ⟨2, 0, none⟩)) (.int .i64 2)) = some (.pointer (some ⟨2, 8, none⟩)) := id (by kernel_rfl)
theorem ldT {w : World} (h : Tb w) : rrun Tryd.prog (Instr.loadAt 95 (.pointer (some ⟨2, 8, none⟩))) w = some (.agg #[.int .i64 25, .int .i64 25, .int .i64 1, .int .i64 0]) :=
  ld95 (h 0 _ rfl) (h 1 _ rfl) (h 2 _ rfl) (h 3 _ rfl)
theorem ld95b {w : World} {b : Nat} {v0 v1 v2 v3 : Value} (h : Blk w b 95 [v0, v1, v2, v3]) : rrun Tryd.prog (Instr.loadAt 95 (.pointer (some ⟨b, 0, none⟩))) w = some (.agg #[v0, v1, v2, v3]) :=
  ld95 (by rw [addL]; exact h.cell_eq 0 rfl) (by rw [addL]; exact h.cell_eq 1 rfl) (by rw [addL]; exact h.cell_eq 2 rfl) (by rw [addL]; exact h.cell_eq 3 rfl)
theorem st95 {w : World} {b : Nat} {cs : List Value} (h : Blk w b 95 cs) (hl : cs.length = 4) :
    ∃ w', erun Tryd.prog (Instr.storeAt 95 (.pointer (some ⟨b, 0, none⟩)) (.agg #[.int .i64 25, .int .i64 25, .int .i64 1, .int .i64 0])) w = some ((), w') ∧ Blk w' b 95 rt ∧ w.grownBy w' (some b) := by
  refine h.storeAll (P := Tryd.prog) inf95 (vs := rt) (by simp [Value.cells]) (by rw [size95]; rfl) (by simp [hl]) (by simp [Value.oneCell']) ?_
  have : cs.drop (0 + rt.length) = [] := List.drop_of_length_le (by simp [hl])
  rw [this]
  simp
theorem loads95 {w : World} {b : Nat} {v0 v1 v2 v3 : Value} (h : Blk w b 95 [v0, v1, v2, v3]) (s t : Nat) (v : Value) : loadsOf Tryd.prog [.cell s 95, .tmp t] [.pointer (some ⟨b, 0, none⟩), v] w = some [.agg #[v0, v1, v2, v3], v] := by
  simp [ld95b h]
theorem find_ok {w : World} (h : Tb w) : ∃ w', C 48 #[.int .i64 2] w = some (.tuple #[.agg #[.int .i64 25, .int .i64 25, .int .i64 1, .int .i64 0], .bool true], w') ∧ w.grownBy w' none := by
  obtain ⟨W1, hW1⟩ : ∃ W1, W1 = w.alloc (.cells #[.int .i64 0, .int .i64 0, .int .i64 0, .int .i64 0] 95) := ⟨_, rfl⟩
  have g1 : w.grownBy W1 none := hW1 ▸ World.grownBy_alloc w _ none
  have b1 : Blk W1 w.heap.size 95 [.int .i64 0, .int .i64 0, .int .i64 0, .int .i64 0] := hW1 ▸ Blk.new w 95 [.int .i64 0, .int .i64 0, .int .i64 0, .int .i64 0]
  obtain ⟨w2, s2, b2, g2⟩ := st95 b1 rfl
  refine ⟨w2, f48.run rfl ?_, grown_trans g1 g2 fun k hk => by cases hk; omega⟩
  simp [f48, alloc95, ← hW1, ix105, ldT (h.grown g1), s2, loads95 b2]
theorem rate_ok (w : World) : ∃ w', C 53 #[.agg #[.int .i64 25, .int .i64 25, .int .i64 1, .int .i64 0]] w = some (.int .i64 15000, w') ∧ w.grownBy w' none := by
  refine ⟨w.alloc (.cells #[.int .i64 25, .int .i64 25, .int .i64 1, .int .i64 0] 95), f53.run rfl ?_, World.grownBy_alloc w _ none⟩
  simp [f53, box_any, Value.cells, addL, show IntKind.i64.wrap 15000 = 15000 from rfl, show IntKind.i64.wrap 0 = 0 from rfl]
theorem ten_ok (w : World) : ∃ w', C 49 #[.agg #[.int .i64 25, .int .i64 25, .int .i64 1, .int .i64 0]] w = some (.int .i64 2160000, w') ∧ w.grownBy w' none := by
  obtain ⟨W1, hW1⟩ : ∃ W1, W1 = w.alloc (.cells #[.int .i64 25, .int .i64 25, .int .i64 1, .int .i64 0] 95) := ⟨_, rfl⟩
  have g1 : w.grownBy W1 none := hW1 ▸ World.grownBy_alloc w _ none
  have b1 : Blk W1 w.heap.size 95 rt := hW1 ▸ Blk.new w 95 rt
  obtain ⟨w2, a2, g2⟩ := rate_ok W1
  refine ⟨w2, f49.run rfl ?_, grown_trans g1 g2 (by simp)⟩
  simp [f49, box_any, Value.cells, ← hW1, ld95b b1, a2, show IntKind.i64.wrap 2160000 = 2160000 from rfl]
theorem day_ok {w : World} (h : Tb w) : ∃ w', C 42 #[.int .i64 2] w = some (.tuple #[.int .i64 2160000, .int .i64 0], w') ∧ w.grownBy w' none := by
  obtain ⟨w1, a1, g1⟩ := find_ok h
  obtain ⟨W2, hW2⟩ : ∃ W2, W2 = w1.alloc (.cells #[.int .i64 0, .int .i64 0, .int .i64 0, .int .i64 0] 95) := ⟨_, rfl⟩
  have g2 : w1.grownBy W2 none := hW2 ▸ World.grownBy_alloc w1 _ none
  have b2 : Blk W2 w1.heap.size 95 [.int .i64 0, .int .i64 0, .int .i64 0, .int .i64 0] := hW2 ▸ Blk.new w1 95 [.int .i64 0, .int .i64 0, .int .i64 0, .int .i64 0]
  obtain ⟨w3, s3, b3, g3⟩ := st95 b2 rfl
  have G3 : w.grownBy w3 none := grown_trans (grown_trans g1 g2 (by simp)) g3 fun k hk => by cases hk; have := g1.size; omega
  obtain ⟨w4, a4, g4⟩ := ten_ok w3
  refine ⟨w4, f42.run rfl ?_, grown_trans G3 g4 (by simp)⟩
  simp [f42, a1, alloc95, ← hW2, s3, bool_not, ld95b b3, a4]
abbrev cl : Value := .agg #[sx, .int .i64 2, .slice none 0 0]
abbrev clc : List Value := [sx, .int .i64 2, .slice none 0 0]
theorem check_ok {w : World} (h : Tb w) : ∃ w', C 29 #[cl] w = some (Value.nilIface, w') ∧ w.grownBy w' none := by
  obtain ⟨W1, hW1⟩ : ∃ W1, W1 = w.alloc (.cells #[sx, .int .i64 2, .slice none 0 0] 52) := ⟨_, rfl⟩
  have g1 : w.grownBy W1 none := hW1 ▸ World.grownBy_alloc w _ none
  have b1 : Blk W1 w.heap.size 52 clc := hW1 ▸ Blk.new w 52 clc
  obtain ⟨w2, a2, g2⟩ := day_ok (h.grown g1)
  have b2 := b1.grown g2 (by simp)
  refine ⟨w2, f29.run rfl ?_, grown_trans g1 g2 (by simp)⟩
  have l0 : f29.l0 C [.pointer (some ⟨w.heap.size, 0, none⟩), .int .i64 2160000, .slice none 0 0, .int .i64 0, .int .i64 0] w2 = some (.exit 1 [] w2) := by simp [f29.l0]
  have it : iter (f29.l0 C) [.pointer (some ⟨w.heap.size, 0, none⟩), .int .i64 2160000, .slice none 0 0, .int .i64 0, .int .i64 0] w2 = some (.exit 1 [] w2) := iter_of_rounds (.exit l0)
  simp [f29, box_any, Value.cells, ← hW1, addL, b1.cell_eq 1 rfl, a2, b2.cell_eq 0 rfl, z1, utf_ok, bool_not, b2.cell_eq 2 rfl, it]
theorem nil_ne (w : World) : rrun Tryd.prog (do eqGuard .neq 46 (Operand.tmp 22) (Operand.const Value.nilIface) Value.nilIface Value.nilIface; binOp .neq 46 Value.nilIface Value.nilIface) w = some (.bool false) := id (by kernel_rfl)
theorem nil_eq (w : World) : rrun Tryd.prog (do eqGuard .eql 46 (Operand.tmp 19) (Operand.const Value.nilIface) Value.nilIface Value.nilIface; binOp .eql 46 Value.nilIface Value.nilIface) w = some (.bool true) := id (by kernel_rfl)
theorem plan_ok {w : World} (h : Tb w) : ∃ w', C 19 #[cl, .map none] w = some (.tuple #[.slice none 0 0, .slice none 0 0, Value.nilIface], w') ∧ w.grownBy w' none := by
  obtain ⟨W1, hW1⟩ : ∃ W1, W1 = w.alloc (.cells #[sx, .int .i64 2, .slice none 0 0] 52) := ⟨_, rfl⟩
  have g1 : w.grownBy W1 none := hW1 ▸ World.grownBy_alloc w _ none
  have b1 : Blk W1 w.heap.size 52 clc := hW1 ▸ Blk.new w 52 clc
  obtain ⟨W2, hW2⟩ : ∃ W2, W2 = W1.alloc (.cells #[.map none] 56) := ⟨_, rfl⟩
  have g2 : W1.grownBy W2 none := hW2 ▸ World.grownBy_alloc W1 _ none
  have b2 := b1.grown g2 (by simp)
  have G2 := grown_trans g1 g2 (by simp)
  obtain ⟨w3, a3, g3⟩ := check_ok (h.grown G2)
  have b3 := b2.grown g3 (by simp)
  have hs1 : W1.heap.size = w.heap.size + 1 := by rw [hW1]; simp
  refine ⟨w3, f19.run rfl ?_, grown_trans G2 g3 (by simp)⟩
  have l0 : f19.l0 C [.pointer (some ⟨w.heap.size, 0, none⟩), .pointer (some ⟨w.heap.size + 1, 0, none⟩), .slice none 0 0, .int .i64 0, .int .i64 0] w3 = some (.exit 0 [.pointer (some ⟨w.heap.size, 0, none⟩), .pointer (some ⟨w.heap.size + 1, 0, none⟩)] w3) := by simp [f19.l0]
  have it0 := iter_of_rounds (.exit l0)
  have l3 : f19.l3 C [.pointer (some ⟨w.heap.size, 0, none⟩), .slice none 0 0, .slice none 0 0, .func (.func 32) #[] #[.pointer (some ⟨w.heap.size + 1, 0, none⟩)], .slice none 0 0, .int .i64 0, .int .i64 0] w3 = some (.exit 2 [.slice none 0 0, .slice none 0 0] w3) := by simp [f19.l3]
  have it3 := iter_of_rounds (.exit l3)
  simp [f19, box_any, Value.cells, ← hW1, ← hW2, hs1, ld52 (a := ⟨w.heap.size, 0, none⟩) (by rw [addL]; exact b2.cell_eq 0 rfl) (by rw [addL]; exact b2.cell_eq 1 rfl) (by rw [addL]; exact b2.cell_eq 2 rfl), a3, nil_ne, addL, b3.cell_eq 2 rfl, it0, it3]
theorem Plan_ok {w : World} (h : Tb w) : ∃ w', C 15 #[cl, .map none] w = some (.tuple #[.slice none 0 0, Value.nilIface], w') ∧ w.grownBy w' none := by
  obtain ⟨W1, hW1⟩ : ∃ W1, W1 = w.alloc (.cells #[sx, .int .i64 2, .slice none 0 0] 52) := ⟨_, rfl⟩
  have g1 : w.grownBy W1 none := hW1 ▸ World.grownBy_alloc w _ none
  have b1 : Blk W1 w.heap.size 52 clc := hW1 ▸ Blk.new w 52 clc
  obtain ⟨w2, a2, g2⟩ := plan_ok (h.grown g1)
  refine ⟨w2, f15.run rfl ?_, grown_trans g1 g2 (by simp)⟩
  simp [f15, box_any, Value.cells, ← hW1, ld52 (a := ⟨w.heap.size, 0, none⟩) (by rw [addL]; exact b1.cell_eq 0 rfl) (by rw [addL]; exact b1.cell_eq 1 rfl) (by rw [addL]; exact b1.cell_eq 2 rfl), a2]
end Go.Sh.YtacfghffojijaaaDoor

namespace Go.Sh.YtacfghffojijaaaDoor
open Go Go.Proofs Go.RowKit
set_option linter.unusedVariables false
set_option linter.unusedSimpArgs false
set_option maxRecDepth 100000
theorem small_v {v : Int} (hv : v < 1024) {q : List Pl} (hl : q.length = 3) (hq : ∀ p x, q[p]? = some x → x.l = List.replicate (sz p) v) : vcode 16 16 10 false q = 0 := by
  have hS : Shd 16 16 10 false := ⟨by decide, by decide, by decide, by decide, by decide, by simp [ts, wd, pl]⟩
  have h2 : q.length = pl false := hl
  have h3 : ¬ ∃ p x, q[p]? = some x ∧ (x.l.length : Int) ≠ wd 16 p * 16 := by
    rintro ⟨p, x, hp, hne⟩
    apply hne
    rw [hq p x hp]
    have hp3 := (List.getElem?_eq_some_iff.mp hp).1
    rw [hl] at hp3
    rcases (by omega : p = 0 ∨ p = 1 ∨ p = 2) with rfl | rfl | rfl <;> simp [sz, wd]
  have h4 : ¬ ∃ x ∈ q, ∃ u ∈ x.l, (2 : Int) ^ (10 : Int).toNat ≤ u := by
    rintro ⟨x, hx, u, hu, hle⟩
    obtain ⟨p, hp⟩ := List.getElem?_of_mem hx
    rw [hq p x hp] at hu
    have := List.eq_of_mem_replicate hu
    have e : (2 : Int) ^ (10 : Int).toNat = 1024 := rfl
    omega
  unfold vcode
  rw [if_neg (fun h => h hS), if_neg (fun h => h h2), if_neg h3, if_neg h4]
theorem ext2_0 (a b : Value) : prun Tryd.prog (Instr.extract (.tuple #[a, b]) 0) = some a := id (by kernel_rfl)
theorem ext2_1 (a b : Value) : prun Tryd.prog (Instr.extract (.tuple #[a, b]) 1) = some b := id (by kernel_rfl)
theorem awake_ok {w : World} (h : Tb w) : ∃ w', C 5 #[] w = some (.bool true, w') ∧ w.grownBy w' none := by
  obtain ⟨A, ca, qa, w1, a1, la, ha, ra, oa, g1⟩ := small_ok (v := 10) (by omega) (by omega) w
  obtain ⟨B, cb, qb, w2, a2, lb, hb, rb, ob, g2⟩ := small_ok (v := 20) (by omega) (by omega) w1
  have va := small_v (by omega) la ha
  have vb := small_v (by omega) lb hb
  have hm : mcode 16 16 10 false qa 16 16 10 false qb = 0 := by
    unfold mcode
    rw [if_neg (fun h => h va), if_neg (fun h => h vb), if_pos ⟨rfl, rfl, rfl, rfl⟩]
  obtain ⟨v, w3, a3, g3, hcase⟩ := mix_ok (part := 1) (of := 3) (by omega) (by omega) (by omega) (by omega) (W := 16) (H := 16) (D := 10) (al := false) (ca := ca) (W' := 16) (H' := 16) (D' := 10) (al' := false) (cb := cb) (ra.grown g2) rb (fun x hx => (oa x hx).grown g2) ob (by simp [la, maxLen]) (by simp [lb, maxLen])
  rw [hm] at hcase a3
  rcases hcase with ⟨h0, _⟩ | ⟨_, AV, cV, q, rfl, lq, mid, F⟩
  · exact absurd rfl h0
  have G3 := grown_trans (grown_trans g1 g2 (by simp)) g3 (by simp)
  obtain ⟨W4, hW4⟩ : ∃ W4, W4 = w3.alloc (.cells #[.int .i64 0, .int .i64 0, .int .i64 0, .bool false, .slice none 0 0] 30) := ⟨_, rfl⟩
  have g4 : w3.grownBy W4 none := hW4 ▸ World.grownBy_alloc w3 _ none
  have b4 : Blk W4 w3.heap.size 30 (fcs 0 0 0 false (.slice none 0 0)) := hW4 ▸ Blk.new w3 30 (fcs 0 0 0 false (.slice none 0 0))
  obtain ⟨w5, s5, b5, g5⟩ := st30 b4 rfl 16 16 10 false AV q.length cV
  have G45 : w3.grownBy w5 none := grown_trans g4 g5 fun k hk => by cases hk; omega
  have F5 := F.new G45
  have G5 := grown_trans G3 G45 (by simp)
  obtain ⟨w6, a6, g6⟩ := Plan_ok (h.grown G5)
  have F6 := F5.new g6
  have b6 := b5.grown g6 (by simp)
  have hq0 : 0 < q.length := by omega
  obtain ⟨r, hr⟩ : ∃ r, q[0]? = some r := ⟨_, List.getElem?_eq_getElem hq0⟩
  obtain ⟨x, hx⟩ : ∃ x, qa[0]? = some x := ⟨_, List.getElem?_eq_getElem (by omega)⟩
  obtain ⟨y, hy⟩ : ∃ y, qb[0]? = some y := ⟨_, List.getElem?_eq_getElem (by omega)⟩
  obtain ⟨⟨P, hP⟩, hrl, hru⟩ := mid 0 r x y hr hx hy
  have hru := hru (by omega)
  have hxl := ha 0 x hx
  have hyl := hb 0 y hy
  have hx256 : x.l.length = 256 := by rw [hxl]; simp [sz]
  rw [hx256] at hP
  have o := F6.pl.part hr
  rw [hP, hrl, hx256] at o
  have d9 : r.2[9]? = some (.int .u16 13) := by
    rw [hru, hxl, hyl]
    unfold uv mixl
    rw [List.getElem?_map, List.getElem?_zipWith]
    simp [sz, mv]
    rfl
  obtain ⟨pa, e1, c1⟩ := own_cell o d9
  subst e1
  have rV := fr_rd F6
  have hv0 : (q.map (·.1))[0]? = some r.1 := by simp [hr]
  cases AV with
  | none => have h : q.map (·.1) = [] := rV; rw [h] at hv0; simp at hv0
  | some aV =>
    have c0 := rV 0 _ hv0
    rw [hP] at c0
    have c0' : w6.cell? aV = some (.slice (some pa) 256 256) := by simpa using c0
    have i1 := ix28 aV q.length cV .i64 0 (by omega) (by omega)
    have i3 := ix38 pa 256 256 .i64 9 (by omega) (by omega)
    simp only [show Int.toNat 0 = 0 from rfl, show Int.toNat 9 = 9 from rfl, Nat.mul_one] at i1 i3
    have hq3 : q.length = 3 := by omega
    rw [hq3] at s5 b6 i1 a3
    rw [la] at a1 a3
    rw [lb] at a2 a3
    refine ⟨w6, f5.run rfl ?_, grown_trans G5 g6 (by simp)⟩
    simp [f5, a1, a2, a3, ext2_0, ext2_1, alloc30, ← hW4, s5, show prun Tryd.prog (Instr.build 52 #[(0, (Value.string { data := #[120] })), (1, (Value.int IntKind.i64 2))]) = some cl from id (by kernel_rfl), a6, nil_eq, addL, b6.cell_eq 4 rfl, i1, c0, c0', i3, c1]
theorem pick_ok (c : Int) (n : Int) (hn : 0 < n) (hN : n ≤ 9223372036854775807) (hc : -9223372036854775808 ≤ c) (hc' : c ≤ 9223372036854775807) (w : World) :
    ∃ r : Int, C 13 #[.int .i64 c, .int .i64 n] w = some (.int .i64 r, w) ∧ 0 ≤ r ∧ r < n := by
  by_cases h : c < 0
  · have e1 : IntKind.i64.wrap (c + 1) = c + 1 := wrap_i64 (by omega) (by omega)
    have e2 : IntKind.i64.wrap (0 - (c + 1)) = -(c + 1) := by rw [Int.zero_sub]; exact wrap_i64 (by omega) (by omega)
    refine ⟨(-(c + 1)).tmod n, f13.run rfl ?_, Int.tmod_nonneg _ (by omega), Int.tmod_lt_of_pos _ hn⟩
    simp only [f13, bin_lss, h, decide_true, Option.bind_some, asB_bool, if_true, bin_add, e1, un_neg, e2, cont_norm, nth_zero, nth_succ]
    simp [bin_rem _ _ _ (show n ≠ 0 by omega)]
  · refine ⟨c.tmod n, f13.run rfl ?_, Int.tmod_nonneg _ (by omega), Int.tmod_lt_of_pos _ hn⟩
    simp [f13, h, bin_rem _ _ _ (show n ≠ 0 by omega)]
end Go.Sh.YtacfghffojijaaaDoor

namespace Go.Sh.YtacfghffojijaaaDoor
open Go Go.Proofs Go.RowKit
set_option linter.unusedVariables false
set_option linter.unusedSimpArgs false
set_option maxRecDepth 100000
/-- a sample of a plane of a frame is found -/
theorem at_ok {w : World} {A : Option Addr} {q : List Pl} (hr : Rd w A (q.map Pl.v)) (ho : ∀ x ∈ q, x.ok w) {i j : Nat} {x : Pl} (hx : q[i]? = some x) (hj : j < x.l.length) (hq : q.length ≤ maxLen) {v : Int} (hv : x.l[j]? = some v) (c : Nat) :
    ∃ aA aX : Addr, A = some aA ∧ prun Tryd.prog (Instr.indexAt 28 (.slice (some aA) q.length c) (.int .i64 i)) = some (.pointer (some (aA.add i))) ∧ w.cell? (aA.add i) = some (.slice (some aX) x.l.length x.c) ∧
      prun Tryd.prog (Instr.indexAt 38 (.slice (some aX) x.l.length x.c) (.int .i64 j)) = some (.pointer (some (aX.add j))) ∧ w.cell? (aX.add j) = some (.int .u16 v) := by
  have hmx : (maxLen : Int) = 9223372036854775807 := by simp [maxLen]
  have hil := (List.getElem?_eq_some_iff.mp hx).1
  have hxo := ho x (List.mem_of_getElem? hx)
  have hxl := hxo.len
  have hva : (q.map Pl.v)[i]? = some x.v := by simp [hx]
  have hua : (uv x.l)[j]? = some (.int .u16 v) := by simp [uv, hv]
  cases A with
  | none => have h : q.map Pl.v = [] := hr; rw [h] at hva; simp at hva
  | some aA =>
    have c1 := hr i _ hva
    have r1 := hxo.rd
    obtain ⟨X, cx, lx⟩ := x
    simp only at *
    cases X with
    | none => have h : uv lx = [] := r1; rw [h] at hua; simp at hua
    | some aX =>
      have d1 := r1 j _ hua
      have i1 := ix28 aA q.length c .i64 i (by omega) (by omega)
      have i3 := ix38 aX lx.length cx .i64 j (by omega) (by omega)
      simp only [Int.toNat_natCast, Nat.mul_one] at i1 i3
      exact ⟨aA, aX, rfl, i1, c1, i3, d1⟩
/-- a plane of a frame is found -/
theorem plane_at {w : World} {A : Option Addr} {q : List Pl} (hr : Rd w A (q.map Pl.v)) {i : Nat} {x : Pl} (hx : q[i]? = some x) (hq : q.length ≤ maxLen) (c : Nat) :
    ∃ aA : Addr, A = some aA ∧ prun Tryd.prog (Instr.indexAt 28 (.slice (some aA) q.length c) (.int .i64 i)) = some (.pointer (some (aA.add i))) ∧ w.cell? (aA.add i) = some (.slice x.A x.l.length x.c) := by
  have hmx : (maxLen : Int) = 9223372036854775807 := by simp [maxLen]
  have hil := (List.getElem?_eq_some_iff.mp hx).1
  have hva : (q.map Pl.v)[i]? = some x.v := by simp [hx]
  cases A with
  | none => have h : q.map Pl.v = [] := hr; rw [h] at hva; simp at hva
  | some aA =>
    have c1 := hr i _ hva
    have i1 := ix28 aA q.length c .i64 i (by omega) (by omega)
    simp only [Int.toNat_natCast, Nat.mul_one] at i1
    exact ⟨aA, rfl, i1, c1⟩
section
variable {w0 : World} {A B : Option Addr} {ca cb : Nat} {qa qb : List Pl} (ra : Rd w0 A (qa.map Pl.v)) (rb : Rd w0 B (qb.map Pl.v)) (oa : ∀ x ∈ qa, x.ok w0) (ob : ∀ x ∈ qb, x.ok w0) {a b : Nat} {W H D : Int} {al : Bool}
    (ba : Blk w0 a 30 (fcs W H D al (.slice A qa.length ca))) (bb : Blk w0 b 30 (fcs W H D al (.slice B qb.length cb))) (la : qa.length ≤ maxLen) (lb : qb.length = qa.length) (heq : ∀ (p : Nat) (x y : Pl), qa[p]? = some x → qb[p]? = some y → x.l = y.l)
include ra rb oa ob ba bb la lb heq
theorem same_l0 {i : Nat} {x y : Pl} (hx : qa[i]? = some x) (hy : qb[i]? = some y) {w : World} (G0 : w0.grownBy w none) :
    ∃ w', iter (f12.l0 C) [.pointer (some ⟨a, 0, none⟩), .pointer (some ⟨b, 0, none⟩), .int .i64 i, .int .i64 0] w = some (.exit 2 [.pointer (some ⟨a, 0, none⟩), .pointer (some ⟨b, 0, none⟩), .int .i64 i] w') ∧ w0.grownBy w' none := by
  have hxl := (oa x (List.mem_of_getElem? hx)).len
  have hxy := heq i x y hx hy
  have key := iter_down (f := f12.l0 C) (fun d st w1 => ∃ j : Nat, st = [.pointer (some ⟨a, 0, none⟩), .pointer (some ⟨b, 0, none⟩), .int .i64 i, .int .i64 j] ∧ j + d = x.l.length ∧ w0.grownBy w1 none)
    (fun r => ∃ w1, r = .exit 2 [.pointer (some ⟨a, 0, none⟩), .pointer (some ⟨b, 0, none⟩), .int .i64 i] w1 ∧ w0.grownBy w1 none) (by
      rintro d st w1 ⟨j, rfl, hj, G⟩
      have ba1 := ba.grown G (by simp)
      have bb1 := bb.grown G (by simp)
      cases d with
      | zero =>
        obtain rfl : j = x.l.length := by omega
        obtain ⟨aA, rfl, i1, c1⟩ := plane_at (ra.grown G) hx la ca
        exact .inr ⟨_, by simp [f12.l0, addL, ba1.cell_eq 4 rfl, i1, c1], ⟨w1, rfl, G⟩, by simp⟩
      | succ d =>
        have hjl : j < x.l.length := by omega
        obtain ⟨s, hs⟩ : ∃ s, s = x.l[j] := ⟨_, rfl⟩
        have hxs : x.l[j]? = some s := by rw [hs]; exact List.getElem?_eq_getElem hjl
        have hys : y.l[j]? = some s := by rw [← hxy]; exact hxs
        obtain ⟨u, hu⟩ : ∃ u, u = w1.drew := ⟨_, rfl⟩
        have gu : w1.grownBy u none := hu ▸ grown_drew w1 none
        have Gu := grown_trans G gu (by simp)
        have bau := ba.grown Gu (by simp)
        have bbu := bb.grown Gu (by simp)
        obtain ⟨aA, aX, e1, i1, c1, i2, d1⟩ := at_ok (ra.grown Gu) (fun x hx => (oa x hx).grown Gu) hx hjl la hxs ca
        obtain ⟨aB, aY, e2, i3, c2, i4, d2⟩ := at_ok (rb.grown Gu) (fun x hx => (ob x hx).grown Gu) hy (by rw [← hxy]; exact hjl) (by rw [lb]; exact la) hys cb
        obtain ⟨aA', e1', i1', c1'⟩ := plane_at (ra.grown G) hx la ca
        subst e1
        subst e2
        cases e1'
        have c1'' : w1.cell? (aA.add i) = some (.slice (some aX) x.l.length x.c) := by rw [hu] at c1; exact c1
        have e3 : IntKind.i64.wrap ((j : Int) + 1) = ((j + 1 : Nat) : Int) := (wrap_i64 (by omega) (by omega)).trans (by omega)
        refine .inl ⟨d, _, u, by omega, ?_, ⟨j + 1, rfl, by omega, Gu⟩⟩
        simp (disch := omega) [f12.l0, lt_t, ← hu, addL, ba1.cell_eq 4 rfl, bau.cell_eq 4 rfl, bbu.cell_eq 4 rfl, i1, i2, i3, i4, c1, c2, c1'', d1, d2, e3]) x.l.length _ w ⟨0, rfl, by omega, G0⟩
  obtain ⟨r, h1, w1, rfl, G1⟩ := key
  exact ⟨w1, h1, G1⟩
theorem same_l1 {w : World} (G0 : w0.grownBy w none) :
    ∃ w', iter (f12.l1 C) [.pointer (some ⟨a, 0, none⟩), .pointer (some ⟨b, 0, none⟩), .int .i64 0] w = some (.exit 0 [] w') ∧ w0.grownBy w' none := by
  have hmx : (maxLen : Int) = 9223372036854775807 := by simp [maxLen]
  have key := iter_down (f := f12.l1 C) (fun d st w1 => ∃ i : Nat, st = [.pointer (some ⟨a, 0, none⟩), .pointer (some ⟨b, 0, none⟩), .int .i64 i] ∧ i + d = qa.length ∧ w0.grownBy w1 none)
    (fun r => ∃ w1, r = .exit 0 [] w1 ∧ w0.grownBy w1 none) (by
      rintro d st w1 ⟨i, rfl, hi, G⟩
      have ba1 := ba.grown G (by simp)
      have bb1 := bb.grown G (by simp)
      cases d with
      | zero =>
        obtain rfl : i = qa.length := by omega
        exact .inr ⟨_, by simp [f12.l1, addL, ba1.cell_eq 4 rfl], ⟨w1, rfl, G⟩, by simp⟩
      | succ d =>
        have hil : i < qa.length := by omega
        obtain ⟨x, hx⟩ : ∃ x, qa[i]? = some x := ⟨_, List.getElem?_eq_getElem hil⟩
        obtain ⟨y, hy⟩ : ∃ y, qb[i]? = some y := ⟨_, List.getElem?_eq_getElem (by omega)⟩
        have hxy := heq i x y hx hy
        obtain ⟨u, hu⟩ : ∃ u, u = w1.drew := ⟨_, rfl⟩
        have gu : w1.grownBy u none := hu ▸ grown_drew w1 none
        have Gu := grown_trans G gu (by simp)
        have bau := ba.grown Gu (by simp)
        have bbu := bb.grown Gu (by simp)
        obtain ⟨aA, e1, i1, c1⟩ := plane_at (ra.grown Gu) hx la ca
        obtain ⟨aB, e2, i3, c2⟩ := plane_at (rb.grown Gu) hy (by rw [lb]; exact la) cb
        subst e1
        subst e2
        obtain ⟨w2, l2, G2⟩ := same_l0 ra rb oa ob ba bb la lb heq hx hy Gu
        have e3 : IntKind.i64.wrap ((i : Int) + 1) = ((i + 1 : Nat) : Int) := (wrap_i64 (by omega) (by omega)).trans (by omega)
        refine .inl ⟨d, _, w2, by omega, ?_, ⟨i + 1, rfl, by omega, G2⟩⟩
        rw [lb] at i3 bbu
        rw [← hxy] at c2
        simp (disch := omega) [f12.l1, lt_t, ← hu, addL, ba1.cell_eq 4 rfl, bau.cell_eq 4 rfl, bbu.cell_eq 4 rfl, i1, i3, c1, c2, l2, e3]) qa.length _ w ⟨0, rfl, by omega, G0⟩
  obtain ⟨r, h1, w1, rfl, G1⟩ := key
  exact ⟨w1, h1, G1⟩
end
theorem same_ok {w : World} {A B : Option Addr} {ca cb : Nat} {qa qb : List Pl} (ra : Rd w A (qa.map Pl.v)) (rb : Rd w B (qb.map Pl.v)) (oa : ∀ x ∈ qa, x.ok w) (ob : ∀ x ∈ qb, x.ok w) (W H D : Int) (al : Bool)
    (la : qa.length ≤ maxLen) (lb : qb.length = qa.length) (heq : ∀ (p : Nat) (x y : Pl), qa[p]? = some x → qb[p]? = some y → x.l = y.l) :
    ∃ w', C 12 #[fv W H D al A qa.length ca, fv W H D al B qb.length cb] w = some (.bool true, w') ∧ w.grownBy w' none := by
  obtain ⟨W0, hW0⟩ : ∃ W0, W0 = w.alloc (.cells #[.int .i64 W, .int .i64 H, .int .i64 D, .bool al, .slice A qa.length ca] 30) := ⟨_, rfl⟩
  have g0 : w.grownBy W0 none := hW0 ▸ World.grownBy_alloc w _ none
  have b0 : Blk W0 w.heap.size 30 (fcs W H D al (.slice A qa.length ca)) := hW0 ▸ Blk.new w 30 (fcs W H D al (.slice A qa.length ca))
  obtain ⟨W1, hW1⟩ : ∃ W1, W1 = W0.alloc (.cells #[.int .i64 W, .int .i64 H, .int .i64 D, .bool al, .slice B qb.length cb] 30) := ⟨_, rfl⟩
  have g1 : W0.grownBy W1 none := hW1 ▸ World.grownBy_alloc W0 _ none
  have b1 : Blk W1 W0.heap.size 30 (fcs W H D al (.slice B qb.length cb)) := hW1 ▸ Blk.new W0 30 (fcs W H D al (.slice B qb.length cb))
  have hs0 : W0.heap.size = w.heap.size + 1 := by rw [hW0]; simp
  have G1 := grown_trans g0 g1 (by simp)
  have b01 := b0.grown g1 (by simp)
  obtain ⟨w2, l2, g2⟩ := same_l1 (ra.grown G1) (rb.grown G1) (fun x hx => (oa x hx).grown G1) (fun x hx => (ob x hx).grown G1) b01 b1 la lb heq (grown_refl _ _)
  refine ⟨w2, f12.run rfl ?_, grown_trans G1 g2 (by simp)⟩
  rw [hs0] at b1 l2
  rw [lb] at b1 hW1
  rw [lb]
  simp [f12, box_any, Value.cells, ← hW0, ← hW1, hs0, ld27b b01 rfl, ld27b b1 rfl, addL, b01.cell_eq 4 rfl, b1.cell_eq 4 rfl, l2]
end Go.Sh.YtacfghffojijaaaDoor

namespace Go.Sh.YtacfghffojijaaaDoor
open Go Go.Proofs Go.RowKit
set_option linter.unusedVariables false
set_option linter.unusedSimpArgs false
set_option maxRecDepth 100000
theorem wrap_u16 {x : Int} (h0 : 0 ≤ x) (h1 : x ≤ 65535) : IntKind.u16.wrap x = x := by
  show x.emod 65536 = x
  exact Int.emod_eq_of_lt h0 (by omega)
theorem avg {x y p of : Int} (hxy : x ≤ y) (h0 : 0 ≤ p) (h1 : p ≤ of) : x * of ≤ x * (of - p) + y * p ∧ x * (of - p) + y * p ≤ y * of := by
  have e1 : x * (of - p) = x * of - x * p := Int.mul_sub _ _ _
  have e2 : y * (of - p) = y * of - y * p := Int.mul_sub _ _ _
  have a1 := Int.mul_le_mul_of_nonneg_right hxy h0
  have a2 := Int.mul_le_mul_of_nonneg_right hxy (show 0 ≤ of - p by omega)
  omega
theorem avg' {x y p of : Int} (hxy : y ≤ x) (h0 : 0 ≤ p) (h1 : p ≤ of) : y * of ≤ x * (of - p) + y * p ∧ x * (of - p) + y * p ≤ x * of := by
  have e1 : x * (of - p) = x * of - x * p := Int.mul_sub _ _ _
  have e2 : y * (of - p) = y * of - y * p := Int.mul_sub _ _ _
  have a1 := Int.mul_le_mul_of_nonneg_right hxy h0
  have a2 := Int.mul_le_mul_of_nonneg_right hxy (show 0 ≤ of - p by omega)
  omega
theorem round {lo hi S of : Int} (hof : 1 ≤ of) (h1 : lo * of ≤ S) (h2 : S ≤ hi * of) : lo ≤ (S + of / 2) / of ∧ (S + of / 2) / of ≤ hi := by
  refine ⟨(Int.le_ediv_iff_mul_le (by omega)).mpr (by omega), ?_⟩
  have : (S + of / 2) / of < hi + 1 := (Int.ediv_lt_iff_lt_mul (by omega)).mpr (by rw [Int.add_mul]; omega)
  omega
theorem mv_raw {part of x y lo hi : Int} (hof : 1 ≤ of) (l0 : 0 ≤ lo) (l1 : hi ≤ 65535) (h1 : lo * of ≤ x * (of - part) + y * part) (h2 : x * (of - part) + y * part ≤ hi * of) :
    mv part of x y = (x * (of - part) + y * part + of / 2) / of ∧ lo ≤ mv part of x y ∧ mv part of x y ≤ hi := by
  have r := round hof h1 h2
  have f1 : of.tdiv 2 = of / 2 := Int.tdiv_eq_ediv_of_nonneg (by omega)
  have f0 : 0 ≤ lo * of := Int.mul_nonneg l0 (by omega)
  have f2 : (x * (of - part) + y * part + of / 2).tdiv of = (x * (of - part) + y * part + of / 2) / of := Int.tdiv_eq_ediv_of_nonneg (by omega)
  have e : mv part of x y = (x * (of - part) + y * part + of / 2) / of := by
    unfold mv
    rw [f1, f2]
    exact wrap_u16 (by omega) (by omega)
  rw [e]
  exact ⟨rfl, r⟩
theorem mv_up {part of x y : Int} (hof : 1 ≤ of) (h0 : 0 ≤ part) (h1 : part ≤ of) (x0 : 0 ≤ x) (y1 : y ≤ 65535) (hxy : x ≤ y) :
    mv part of x y = (x * (of - part) + y * part + of / 2) / of ∧ x ≤ mv part of x y ∧ mv part of x y ≤ y := mv_raw hof x0 y1 (avg hxy h0 h1).1 (avg hxy h0 h1).2
theorem mv_dn {part of x y : Int} (hof : 1 ≤ of) (h0 : 0 ≤ part) (h1 : part ≤ of) (y0 : 0 ≤ y) (x1 : x ≤ 65535) (hxy : y ≤ x) :
    mv part of x y = (x * (of - part) + y * part + of / 2) / of ∧ y ≤ mv part of x y ∧ mv part of x y ≤ x := mv_raw hof y0 x1 (avg' hxy h0 h1).1 (avg' hxy h0 h1).2
theorem mv_step {part of x y : Int} (hof : 1 ≤ of) (h0 : 0 ≤ part) (h1 : part < of) (x0 : 0 ≤ x) (x1 : x ≤ 65535) (y0 : 0 ≤ y) (y1 : y ≤ 65535) :
    (x ≤ y → mv part of x y ≤ mv (part + 1) of x y) ∧ (y ≤ x → mv (part + 1) of x y ≤ mv part of x y) := by
  have e1 : x * (of - part) = x * (of - (part + 1)) + x := by rw [show of - part = (of - (part + 1)) + 1 by omega, Int.mul_add, Int.mul_one]
  have e2 : y * (part + 1) = y * part + y := by rw [Int.mul_add, Int.mul_one]
  constructor
  · intro h
    rw [(mv_up hof h0 (by omega) x0 y1 h).1, (mv_up hof (by omega) (by omega) x0 y1 h).1]
    exact Int.ediv_le_ediv (by omega) (by omega)
  · intro h
    rw [(mv_dn hof h0 (by omega) y0 x1 h).1, (mv_dn hof (by omega) (by omega) y0 x1 h).1]
    exact Int.ediv_le_ediv (by omega) (by omega)
theorem mv_range {part of x y : Int} (hof : 1 ≤ of) (h0 : 0 ≤ part) (h1 : part ≤ of) (x0 : 0 ≤ x) (x1 : x ≤ 65535) (y0 : 0 ≤ y) (y1 : y ≤ 65535) : 0 ≤ mv part of x y ∧ mv part of x y ≤ 65535 := by
  by_cases h : x ≤ y
  · have := mv_up hof h0 h1 x0 y1 h; omega
  · have := mv_dn hof h0 h1 y0 x1 (show y ≤ x by omega); omega
theorem div_same {x of : Int} (hof : 1 ≤ of) : (x * of + of / 2) / of = x := by
  have r := round (lo := x) (hi := x) hof (S := x * of) (Int.le_refl _) (Int.le_refl _)
  omega
theorem mv_zero {of x y : Int} (hof : 1 ≤ of) (x0 : 0 ≤ x) (x1 : x ≤ 65535) (y0 : 0 ≤ y) (y1 : y ≤ 65535) : mv 0 of x y = x := by
  have e : (x * (of - 0) + y * 0 + of / 2) / of = x := by rw [Int.sub_zero, Int.mul_zero, Int.add_zero]; exact div_same hof
  by_cases h : x ≤ y
  · rw [(mv_up hof (Int.le_refl 0) (by omega) x0 y1 h).1, e]
  · rw [(mv_dn hof (Int.le_refl 0) (by omega) y0 x1 (show y ≤ x by omega)).1, e]
theorem mv_all {of x y : Int} (hof : 1 ≤ of) (x0 : 0 ≤ x) (x1 : x ≤ 65535) (y0 : 0 ≤ y) (y1 : y ≤ 65535) : mv of of x y = y := by
  have e : (x * (of - of) + y * of + of / 2) / of = y := by rw [Int.sub_self, Int.mul_zero, Int.zero_add]; exact div_same hof
  by_cases h : x ≤ y
  · rw [(mv_up hof (by omega) (Int.le_refl of) x0 y1 h).1, e]
  · rw [(mv_dn hof (by omega) (Int.le_refl of) y0 x1 (show y ≤ x by omega)).1, e]
theorem mv_self {part of x : Int} (hof : 1 ≤ of) (h0 : 0 ≤ part) (h1 : part ≤ of) (x0 : 0 ≤ x) (x1 : x ≤ 65535) : mv part of x x = x := by
  have := mv_up hof h0 h1 x0 x1 (Int.le_refl x); omega
theorem zip_left (f : Int → Int → Int) : ∀ (la lb : List Int), la.length = lb.length → (∀ x ∈ la, ∀ y ∈ lb, f x y = x) → List.zipWith f la lb = la
  | [], _, _, _ => by simp
  | x :: la, [], h, _ => by simp at h
  | x :: la, y :: lb, h, hf => by
    rw [List.zipWith_cons_cons, hf x (by simp) y (by simp), zip_left f la lb (by simpa using h) fun a ha b hb => hf a (by simp [ha]) b (by simp [hb])]
theorem zip_right (f : Int → Int → Int) : ∀ (la lb : List Int), la.length = lb.length → (∀ x ∈ la, ∀ y ∈ lb, f x y = y) → List.zipWith f la lb = lb
  | [], [], _, _ => by simp
  | [], y :: lb, h, _ => by simp at h
  | x :: la, [], h, _ => by simp at h
  | x :: la, y :: lb, h, hf => by
    rw [List.zipWith_cons_cons, hf x (by simp) y (by simp), zip_right f la lb (by simpa using h) fun a ha b hb => hf a (by simp [ha]) b (by simp [hb])]
theorem zip_self (f : Int → Int → Int) : ∀ (la : List Int), (∀ x ∈ la, f x x = x) → List.zipWith f la la = la
  | [], _ => by simp
  | x :: la, hf => by
    rw [List.zipWith_cons_cons, hf x (by simp), zip_self f la fun a ha => hf a (by simp [ha])]
theorem zip_mem {f : Int → Int → Int} : ∀ {la lb : List Int} {v : Int}, v ∈ List.zipWith f la lb → ∃ x ∈ la, ∃ y ∈ lb, v = f x y
  | [], _, v, h => by simp at h
  | _ :: _, [], v, h => by simp at h
  | x :: la, y :: lb, v, h => by
    rw [List.zipWith_cons_cons] at h
    rcases List.mem_cons.mp h with rfl | h
    · exact ⟨x, by simp, y, by simp, rfl⟩
    · obtain ⟨a, ha, b, hb, e⟩ := zip_mem h
      exact ⟨a, by simp [ha], b, by simp [hb], e⟩
theorem min39 (x y : Int) : prun Tryd.prog (Builtin.min_ #[39, 39] 39 #[.int .u16 x, .int .u16 y]) = some (.int .u16 (if y < x then y else x)) := id (by kernel_rfl)
theorem max39 (x y : Int) : prun Tryd.prog (Builtin.max_ #[39, 39] 39 #[.int .u16 x, .int .u16 y]) = some (.int .u16 (if y > x then y else x)) := id (by kernel_rfl)
end Go.Sh.YtacfghffojijaaaDoor

namespace Go.Sh.YtacfghffojijaaaDoor
open Go Go.Proofs Go.RowKit
set_option linter.unusedVariables false
set_option linter.unusedSimpArgs false
set_option maxRecDepth 100000
section
variable {part of : Int} (hof : 1 ≤ of) (hp0 : 0 ≤ part) (hp1 : part < of)
variable {w0 : World} {A B M N : Option Addr} {ca cb cm cn : Nat} {qa qb qm qn : List Pl} (ra : Rd w0 A (qa.map Pl.v)) (rb : Rd w0 B (qb.map Pl.v)) (rm : Rd w0 M (qm.map Pl.v)) (rn : Rd w0 N (qn.map Pl.v)) (oa : ∀ x ∈ qa, x.ok w0) (ob : ∀ x ∈ qb, x.ok w0) (om : ∀ x ∈ qm, x.ok w0) (on : ∀ x ∈ qn, x.ok w0) {a b c d : Nat} {W H D : Int} {al : Bool}
    (ba : Blk w0 a 30 (fcs W H D al (.slice A qa.length ca))) (bb : Blk w0 b 30 (fcs W H D al (.slice B qb.length cb))) (bm : Blk w0 c 30 (fcs W H D al (.slice M qm.length cm))) (bn : Blk w0 d 30 (fcs W H D al (.slice N qn.length cn)))
    (la : qa.length ≤ maxLen) (lb : qb.length = qa.length) (lm : qm.length = qa.length) (ln : qn.length = qa.length) (heq : ∀ (p : Nat) (x y : Pl), qa[p]? = some x → qb[p]? = some y → x.l.length = y.l.length)
    (hm : ∀ (p : Nat) (x y z : Pl), qa[p]? = some x → qb[p]? = some y → qm[p]? = some z → z.l = mixl part of x.l y.l) (hn : ∀ (p : Nat) (x y z : Pl), qa[p]? = some x → qb[p]? = some y → qn[p]? = some z → z.l = mixl (part + 1) of x.l y.l)
include hof hp0 hp1 ra rb rm rn oa ob om on ba bb bm bn la lb lm ln heq hm hn
theorem bet_l0 {i : Nat} {x y z t : Pl} (hx : qa[i]? = some x) (hy : qb[i]? = some y) (hz : qm[i]? = some z) (ht : qn[i]? = some t) {w : World} (G0 : w0.grownBy w none) :
    ∃ w', iter (f4.l0 C) [.pointer (some ⟨a, 0, none⟩), .pointer (some ⟨b, 0, none⟩), .pointer (some ⟨c, 0, none⟩), .pointer (some ⟨d, 0, none⟩), .int .i64 i, .int .i64 0] w = some (.exit 2 [.pointer (some ⟨a, 0, none⟩), .pointer (some ⟨b, 0, none⟩), .pointer (some ⟨c, 0, none⟩), .pointer (some ⟨d, 0, none⟩), .int .i64 i] w') ∧ w0.grownBy w' none := by
  have hxl := (oa x (List.mem_of_getElem? hx)).len
  have hxy := heq i x y hx hy
  have hzl := hm i x y z hx hy hz
  have htl := hn i x y t hx hy ht
  have key := iter_down (f := f4.l0 C) (fun dd st w1 => ∃ j : Nat, st = [.pointer (some ⟨a, 0, none⟩), .pointer (some ⟨b, 0, none⟩), .pointer (some ⟨c, 0, none⟩), .pointer (some ⟨d, 0, none⟩), .int .i64 i, .int .i64 j] ∧ j + dd = x.l.length ∧ w0.grownBy w1 none)
    (fun r => ∃ w1, r = .exit 2 [.pointer (some ⟨a, 0, none⟩), .pointer (some ⟨b, 0, none⟩), .pointer (some ⟨c, 0, none⟩), .pointer (some ⟨d, 0, none⟩), .int .i64 i] w1 ∧ w0.grownBy w1 none) (by
      rintro dd st w1 ⟨j, rfl, hj, G⟩
      have ba1 := ba.grown G (by simp)
      have bb1 := bb.grown G (by simp)
      have bm1 := bm.grown G (by simp)
      have bn1 := bn.grown G (by simp)
      cases dd with
      | zero =>
        obtain rfl : j = x.l.length := by omega
        obtain ⟨aA, rfl, i1, c1⟩ := plane_at (ra.grown G) hx la ca
        exact .inr ⟨_, by simp [f4.l0, addL, ba1.cell_eq 4 rfl, i1, c1], ⟨w1, rfl, G⟩, by simp⟩
      | succ dd =>
        have hjl : j < x.l.length := by omega
        obtain ⟨s, hs⟩ : ∃ s, x.l[j]? = some s := ⟨_, List.getElem?_eq_getElem hjl⟩
        obtain ⟨r, hr⟩ : ∃ r, y.l[j]? = some r := ⟨_, List.getElem?_eq_getElem (by omega)⟩
        have hzs : z.l[j]? = some (mv part of s r) := by rw [hzl]; unfold mixl; rw [List.getElem?_zipWith, hs, hr]
        have hts : t.l[j]? = some (mv (part + 1) of s r) := by rw [htl]; unfold mixl; rw [List.getElem?_zipWith, hs, hr]
        have hzj := (List.getElem?_eq_some_iff.mp hzs).1
        have htj := (List.getElem?_eq_some_iff.mp hts).1
        obtain ⟨s0, s1⟩ := (oa x (List.mem_of_getElem? hx)).rng s (List.mem_of_getElem? hs)
        obtain ⟨r0, r1⟩ := (ob y (List.mem_of_getElem? hy)).rng r (List.mem_of_getElem? hr)
        obtain ⟨aA, aX, e1, i1, c1, k1, d1⟩ := at_ok (ra.grown G) (fun x hx => (oa x hx).grown G) hx hjl la hs ca
        obtain ⟨aB, aY, e2, i2, c2, k2, d2⟩ := at_ok (rb.grown G) (fun x hx => (ob x hx).grown G) hy (by omega) (by omega) hr cb
        obtain ⟨aM, aZ, e3, i3, c3, k3, d3⟩ := at_ok (rm.grown G) (fun x hx => (om x hx).grown G) hz hzj (by omega) hzs cm
        obtain ⟨aN, aT, e4, i4, c4, k4, d4⟩ := at_ok (rn.grown G) (fun x hx => (on x hx).grown G) ht htj (by omega) hts cn
        subst e1
        subst e2
        subst e3
        subst e4
        obtain ⟨m1, hm1⟩ : ∃ m1, m1 = mv part of s r := ⟨_, rfl⟩
        obtain ⟨m2, hm2⟩ : ∃ m2, m2 = mv (part + 1) of s r := ⟨_, rfl⟩
        rw [← hm1] at d3
        rw [← hm2] at d4
        have st := mv_step hof hp0 hp1 s0 s1 r0 r1
        rw [← hm1, ← hm2] at st
        have e5 : IntKind.i64.wrap ((j : Int) + 1) = ((j + 1 : Nat) : Int) := (wrap_i64 (by omega) (by omega)).trans (by omega)
        refine .inl ⟨dd, _, w1, by omega, ?_, ⟨j + 1, rfl, by omega, G⟩⟩
        by_cases h : s ≤ r
        · have up := mv_up hof hp0 (by omega) s0 r1 h
          rw [← hm1] at up
          have h1 : (if r < s then r else s) = s := if_neg (by omega)
          have h2 : (if s < r then r else s) = r := by split <;> omega
          have q1 : (m1 < s) = False := eq_false (by omega)
          have q2 : (r < m1) = False := eq_false (by omega)
          have q3 : (m2 < m1) = False := eq_false (by omega)
          have q4 : (s ≤ r) = True := eq_true h
          by_cases h' : r ≤ s
          · have q5 : (r ≤ s) = True := eq_true h'
            have q6 : (m1 < m2) = False := eq_false (by omega)
            simp (disch := omega) [f4.l0, lt_t, addL, ba1.cell_eq 4 rfl, bb1.cell_eq 4 rfl, bm1.cell_eq 4 rfl, bn1.cell_eq 4 rfl, i1, i2, i3, i4, c1, c2, c3, c4, k1, k2, k3, k4, d1, d2, d3, d4, min39, max39, h1, h2, q1, q2, q3, q4, q5, q6, e5]
          · have q5 : (r ≤ s) = False := eq_false h'
            simp (disch := omega) [f4.l0, lt_t, addL, ba1.cell_eq 4 rfl, bb1.cell_eq 4 rfl, bm1.cell_eq 4 rfl, bn1.cell_eq 4 rfl, i1, i2, i3, i4, c1, c2, c3, c4, k1, k2, k3, k4, d1, d2, d3, d4, min39, max39, h1, h2, q1, q2, q3, q4, q5, e5]
        · have h' : r ≤ s := by omega
          have dn := mv_dn hof hp0 (by omega) r0 s1 h'
          rw [← hm1] at dn
          have h1 : (if r < s then r else s) = r := if_pos (by omega)
          have h2 : (if s < r then r else s) = s := if_neg (by omega)
          have q1 : (m1 < r) = False := eq_false (by omega)
          have q2 : (s < m1) = False := eq_false (by omega)
          have q6 : (m1 < m2) = False := eq_false (by omega)
          have q4 : (s ≤ r) = False := eq_false h
          have q5 : (r ≤ s) = True := eq_true h'
          simp (disch := omega) [f4.l0, lt_t, addL, ba1.cell_eq 4 rfl, bb1.cell_eq 4 rfl, bm1.cell_eq 4 rfl, bn1.cell_eq 4 rfl, i1, i2, i3, i4, c1, c2, c3, c4, k1, k2, k3, k4, d1, d2, d3, d4, min39, max39, h1, h2, q1, q2, q4, q5, q6, e5]) x.l.length _ w ⟨0, rfl, by omega, G0⟩
  obtain ⟨r, h1, w1, rfl, G1⟩ := key
  exact ⟨w1, h1, G1⟩
theorem bet_l1 {w : World} (G0 : w0.grownBy w none) :
    ∃ w', iter (f4.l1 C) [.pointer (some ⟨a, 0, none⟩), .pointer (some ⟨b, 0, none⟩), .pointer (some ⟨c, 0, none⟩), .pointer (some ⟨d, 0, none⟩), .int .i64 0] w = some (.exit 0 [] w') ∧ w0.grownBy w' none := by
  have hmx : (maxLen : Int) = 9223372036854775807 := by simp [maxLen]
  have key := iter_down (f := f4.l1 C) (fun dd st w1 => ∃ i : Nat, st = [.pointer (some ⟨a, 0, none⟩), .pointer (some ⟨b, 0, none⟩), .pointer (some ⟨c, 0, none⟩), .pointer (some ⟨d, 0, none⟩), .int .i64 i] ∧ i + dd = qa.length ∧ w0.grownBy w1 none)
    (fun r => ∃ w1, r = .exit 0 [] w1 ∧ w0.grownBy w1 none) (by
      rintro dd st w1 ⟨i, rfl, hi, G⟩
      have ba1 := ba.grown G (by simp)
      have bm1 := bm.grown G (by simp)
      have bn1 := bn.grown G (by simp)
      cases dd with
      | zero =>
        obtain rfl : i = qa.length := by omega
        exact .inr ⟨_, by simp [f4.l1, addL, ba1.cell_eq 4 rfl], ⟨w1, rfl, G⟩, by simp⟩
      | succ dd =>
        have hil : i < qa.length := by omega
        obtain ⟨x, hx⟩ : ∃ x, qa[i]? = some x := ⟨_, List.getElem?_eq_getElem hil⟩
        obtain ⟨y, hy⟩ : ∃ y, qb[i]? = some y := ⟨_, List.getElem?_eq_getElem (by omega)⟩
        obtain ⟨z, hz⟩ : ∃ z, qm[i]? = some z := ⟨_, List.getElem?_eq_getElem (by omega)⟩
        obtain ⟨t, ht⟩ : ∃ t, qn[i]? = some t := ⟨_, List.getElem?_eq_getElem (by omega)⟩
        have hxy := heq i x y hx hy
        have hzl : z.l.length = x.l.length := by rw [hm i x y z hx hy hz]; exact mixl_length part of hxy
        have htl : t.l.length = x.l.length := by rw [hn i x y t hx hy ht]; exact mixl_length of (part := part + 1) hxy
        obtain ⟨u, hu⟩ : ∃ u, u = w1.drew := ⟨_, rfl⟩
        have gu : w1.grownBy u none := hu ▸ grown_drew w1 none
        have Gu := grown_trans G gu (by simp)
        have bau := ba.grown Gu (by simp)
        have bmu := bm.grown Gu (by simp)
        have bnu := bn.grown Gu (by simp)
        obtain ⟨aA, e1, i1, c1⟩ := plane_at (ra.grown Gu) hx la ca
        obtain ⟨aM, e3, i3, c3⟩ := plane_at (rm.grown Gu) hz (by omega) cm
        obtain ⟨aN, e4, i4, c4⟩ := plane_at (rn.grown Gu) ht (by omega) cn
        subst e1
        subst e3
        subst e4
        obtain ⟨w2, l2, G2⟩ := bet_l0 hof hp0 hp1 ra rb rm rn oa ob om on ba bb bm bn la lb lm ln heq hm hn hx hy hz ht Gu
        have e5 : IntKind.i64.wrap ((i : Int) + 1) = ((i + 1 : Nat) : Int) := (wrap_i64 (by omega) (by omega)).trans (by omega)
        refine .inl ⟨dd, _, w2, by omega, ?_, ⟨i + 1, rfl, by omega, G2⟩⟩
        rw [lm] at i3 bmu
        rw [ln] at i4 bnu
        rw [hzl] at c3
        rw [htl] at c4
        simp (disch := omega) [f4.l1, lt_t, ← hu, addL, ba1.cell_eq 4 rfl, bau.cell_eq 4 rfl, bmu.cell_eq 4 rfl, bnu.cell_eq 4 rfl, i1, i3, i4, c1, c3, c4, l2, e5]) qa.length _ w ⟨0, rfl, by omega, G0⟩
  obtain ⟨r, h1, w1, rfl, G1⟩ := key
  exact ⟨w1, h1, G1⟩
end
end Go.Sh.YtacfghffojijaaaDoor

namespace Go.Sh.YtacfghffojijaaaDoor
open Go Go.Proofs Go.RowKit
set_option linter.unusedVariables false
set_option linter.unusedSimpArgs false
set_option maxRecDepth 100000
theorem hold (w : World) (W H D : Int) (al : Bool) (A : Option Addr) (n c : Nat) :
    ∃ W1 w2, erun Tryd.prog (Instr.alloc 30 true (.tuple #[])) w = some (.pointer (some ⟨w.heap.size, 0, none⟩), W1) ∧ erun Tryd.prog (Instr.storeAt 30 (.pointer (some ⟨w.heap.size, 0, none⟩)) (fv W H D al A n c)) W1 = some ((), w2) ∧ Blk w2 w.heap.size 30 (fcs W H D al (.slice A n c)) ∧ w.grownBy w2 none := by
  have g1 : w.grownBy (w.alloc (.cells #[.int .i64 0, .int .i64 0, .int .i64 0, .bool false, .slice none 0 0] 30)) none := World.grownBy_alloc w _ none
  have b1 : Blk (w.alloc (.cells #[.int .i64 0, .int .i64 0, .int .i64 0, .bool false, .slice none 0 0] 30)) w.heap.size 30 (fcs 0 0 0 false (.slice none 0 0)) := Blk.new w 30 (fcs 0 0 0 false (.slice none 0 0))
  obtain ⟨w2, s2, b2, g2⟩ := st30 b1 rfl W H D al A n c
  exact ⟨_, w2, alloc30 w, s2, b2, grown_trans g1 g2 fun k hk => by cases hk; omega⟩
theorem mcode_zero {W H D : Int} {al : Bool} {qa : List Pl} {W' H' D' : Int} {al' : Bool} {qb : List Pl} (h : mcode W H D al qa W' H' D' al' qb = 0) : vcode W H D al qa = 0 ∧ vcode W' H' D' al' qb = 0 ∧ W = W' ∧ H = H' ∧ D = D' ∧ al = al' := by
  unfold mcode at h
  split at h
  · rename_i h1; exact absurd h h1
  · rename_i h1
    split at h
    · rename_i h2; exact absurd h h2
    · rename_i h2
      split at h
      · rename_i h3
        exact ⟨Classical.not_not.mp h1, Classical.not_not.mp h2, h3⟩
      · cases h
theorem mcode_self {W H D : Int} {al : Bool} {qa : List Pl} (h : vcode W H D al qa = 0) : mcode W H D al qa W H D al qa = 0 := by
  unfold mcode
  rw [if_neg (fun h' => h' h), if_neg (fun h' => h' h), if_pos ⟨rfl, rfl, rfl, rfl⟩]
section
variable {w : World} {W H D : Int} {al : Bool} {A : Option Addr} {ca : Nat} {qa : List Pl} {B : Option Addr} {cb : Nat} {qb : List Pl}
    (ra : Rd w A (qa.map Pl.v)) (rb : Rd w B (qb.map Pl.v)) (oa : ∀ x ∈ qa, x.ok w) (ob : ∀ x ∈ qb, x.ok w) (la : qa.length ≤ maxLen) (lb : qb.length ≤ maxLen)
include ra rb oa ob la lb
/-- a mix, held in a variable -/
theorem mix_hold {part of : Int} (hof : 1 ≤ of) (hof' : of ≤ 101) (hp0 : 0 ≤ part) (hp1 : part ≤ of) (hm : mcode W H D al qa W H D al qb = 0) (ca cb : Nat) :
    ∃ (M : Option Addr) (cM : Nat) (q : List Pl) (w1 W2 w3 : World), C 8 #[fv W H D al A qa.length ca, fv W H D al B qb.length cb, .int .i64 part, .int .i64 of] w = some (.tuple #[fv W H D al M q.length cM, .int .i64 0], w1) ∧
      erun Tryd.prog (Instr.alloc 30 true (.tuple #[])) w1 = some (.pointer (some ⟨w1.heap.size, 0, none⟩), W2) ∧ erun Tryd.prog (Instr.storeAt 30 (.pointer (some ⟨w1.heap.size, 0, none⟩)) (fv W H D al M q.length cM)) W2 = some ((), w3) ∧
      Blk w3 w1.heap.size 30 (fcs W H D al (.slice M q.length cM)) ∧ w.grownBy w3 none ∧ q.length = qa.length ∧ Rd w3 M (q.map Pl.v) ∧ (∀ x ∈ q, x.ok w3) ∧
      ∀ (p : Nat) (x y z : Pl), qa[p]? = some x → qb[p]? = some y → q[p]? = some z → z.l = mixl part of x.l y.l := by
  obtain ⟨va, vb, _⟩ := mcode_zero hm
  obtain ⟨_, l1, e1, _⟩ := vcode_zero va
  obtain ⟨_, l2, e2, _⟩ := vcode_zero vb
  obtain ⟨v, w1, a1, g1, hcase⟩ := mix_ok hof hof' hp0 hp1 (W := W) (H := H) (D := D) (al := al) (ca := ca) (W' := W) (H' := H) (D' := D) (al' := al) (cb := cb) ra rb oa ob la lb
  rw [hm] at a1 hcase
  rcases hcase with ⟨h0, _⟩ | ⟨_, M, cM, q, rfl, lq, mid, F⟩
  · exact absurd rfl h0
  obtain ⟨ql, k1, k2, k3, k4⟩ := fr_pl F (fun p => mixl part of ((qa[p]?.map Pl.l).getD []) ((qb[p]?.map Pl.l).getD [])) (fun p r hr => by
    have hp := (List.getElem?_eq_some_iff.mp hr).1
    obtain ⟨x, hx⟩ : ∃ x, qa[p]? = some x := ⟨_, List.getElem?_eq_getElem (by omega)⟩
    obtain ⟨y, hy⟩ : ∃ y, qb[p]? = some y := ⟨_, List.getElem?_eq_getElem (by omega)⟩
    obtain ⟨⟨P, hP⟩, hrl, hru⟩ := mid p r x y hr hx hy
    have hru := hru (by omega)
    have hxy : x.l.length = y.l.length := by have h1 := e1 p x hx; have h2 := e2 p y hy; omega
    have hml := mixl_length part of hxy
    simp only [hx, hy, Option.map_some, Option.getD_some]
    refine ⟨⟨P, by rw [hml]; exact hP⟩, hru, by rw [hml]; exact (oa x (List.mem_of_getElem? hx)).len, fun v hv => ?_⟩
    obtain ⟨s, hs, r, hr, rfl⟩ := zip_mem hv
    obtain ⟨s0, s1⟩ := (oa x (List.mem_of_getElem? hx)).rng s hs
    obtain ⟨r0, r1⟩ := (ob y (List.mem_of_getElem? hy)).rng r hr
    exact mv_range hof hp0 hp1 s0 s1 r0 r1)
  obtain ⟨W2, w3, s2, s3, b3, g3⟩ := hold w1 W H D al M ql.length cM
  rw [← k1] at a1
  refine ⟨M, cM, ql, w1, W2, w3, a1, s2, s3, b3, grown_trans g1 g3 (by simp), by omega, k3.grown g3, fun x hx => (k4 x hx).grown g3, fun p x y z hx hy hz => ?_⟩
  rw [k2 p z hz]
  simp only [hx, hy, Option.map_some, Option.getD_some]
end
theorem ldp4 {w : World} {b : Nat} {W H D : Int} {al : Bool} {A : Option Addr} {n c : Nat} (h : Blk w b 30 (fcs W H D al (.slice A n c))) : w.cell? ⟨b, 4, none⟩ = some (.slice A n c) := h.cell_eq 4 rfl
theorem between_ok {w : World} (hT : Tb w) {W H D : Int} {al : Bool} {A : Option Addr} {ca : Nat} {qa : List Pl} {W' H' D' : Int} {al' : Bool} {B : Option Addr} {cb : Nat} {qb : List Pl}
    (ra : Rd w A (qa.map Pl.v)) (rb : Rd w B (qb.map Pl.v)) (oa : ∀ x ∈ qa, x.ok w) (ob : ∀ x ∈ qb, x.ok w) (la : qa.length ≤ maxLen) (lb : qb.length ≤ maxLen)
    {x y : Int} (x0 : -9223372036854775808 ≤ x) (x1 : x ≤ 9223372036854775807) (y0 : -9223372036854775808 ≤ y) (y1 : y ≤ 9223372036854775807) :
    ∃ w', C 4 #[fv W H D al A qa.length ca, fv W' H' D' al' B qb.length cb, .int .i64 x, .int .i64 y] w = some (.bool true, w') ∧ w.grownBy w' none := by
  obtain ⟨W0, hW0⟩ : ∃ W0, W0 = w.alloc (.cells #[.int .i64 W, .int .i64 H, .int .i64 D, .bool al, .slice A qa.length ca] 30) := ⟨_, rfl⟩
  have g0 : w.grownBy W0 none := hW0 ▸ World.grownBy_alloc w _ none
  have b0 : Blk W0 w.heap.size 30 (fcs W H D al (.slice A qa.length ca)) := hW0 ▸ Blk.new w 30 (fcs W H D al (.slice A qa.length ca))
  obtain ⟨W1, hW1⟩ : ∃ W1, W1 = W0.alloc (.cells #[.int .i64 W', .int .i64 H', .int .i64 D', .bool al', .slice B qb.length cb] 30) := ⟨_, rfl⟩
  have g1 : W0.grownBy W1 none := hW1 ▸ World.grownBy_alloc W0 _ none
  have b1 : Blk W1 W0.heap.size 30 (fcs W' H' D' al' (.slice B qb.length cb)) := hW1 ▸ Blk.new W0 30 (fcs W' H' D' al' (.slice B qb.length cb))
  have b01 := b0.grown g1 (by simp)
  have G1 := grown_trans g0 g1 (by simp)
  obtain ⟨w2, a2, g2⟩ := awake_ok (hT.grown G1)
  have G2 := grown_trans G1 g2 (by simp)
  have ba2 := b01.grown g2 (by simp)
  have bb2 := b1.grown g2 (by simp)
  obtain ⟨rr, p1, r0, r1⟩ := pick_ok y 101 (by omega) (by omega) y0 y1 w2
  have e1 : IntKind.i64.wrap (1 + rr) = 1 + rr := wrap_i64 (by omega) (by omega)
  obtain ⟨of, hof⟩ : ∃ of, of = 1 + rr := ⟨_, rfl⟩
  rw [← hof] at e1
  have of1 : 1 ≤ of := by omega
  have of2 : of ≤ 101 := by omega
  obtain ⟨part, p2, pt0, pt1⟩ := pick_ok x of (by omega) (by omega) x0 x1 w2
  have e2 : IntKind.i64.wrap (part + 1) = part + 1 := wrap_i64 (by omega) (by omega)
  by_cases hm : mcode W H D al qa W' H' D' al' qb = 0
  · obtain ⟨va, vb, rfl, rfl, rfl, rfl⟩ := mcode_zero hm
    obtain ⟨_, l1, k1, _⟩ := vcode_zero va
    obtain ⟨_, l2, k2, _⟩ := vcode_zero vb
    have lab : qb.length = qa.length := by omega
    have hxy : ∀ (p : Nat) (x y : Pl), qa[p]? = some x → qb[p]? = some y → x.l.length = y.l.length := fun p x y hx hy => by have h1 := k1 p x hx; have h2 := k2 p y hy; omega
    obtain ⟨M, cM, qm, w3, W4, w5, a3, a4, a5, b5, g5, lm, rm, om, hmm⟩ := mix_hold (ra.grown G2) (rb.grown G2) (fun x hx => (oa x hx).grown G2) (fun x hx => (ob x hx).grown G2) la lb of1 of2 pt0 (by omega) hm ca cb
    have G5 := grown_trans G2 g5 (by simp)
    have ba5 := ba2.grown g5 (by simp)
    have bb5 := bb2.grown g5 (by simp)
    obtain ⟨N, cN, qn, w6, W7, w8, a6, a7, a8, b8, g8, ln, rn, on, hmn⟩ := mix_hold (ra.grown G5) (rb.grown G5) (fun x hx => (oa x hx).grown G5) (fun x hx => (ob x hx).grown G5) la lb (part := part + 1) of1 of2 (by omega) (by omega) hm ca cb
    have G8 := grown_trans G5 g8 (by simp)
    have ba8 := ba5.grown g8 (by simp)
    have bb8 := bb5.grown g8 (by simp)
    obtain ⟨O, cO, qo, w9, W10, w11, a9, a10, a11, b11, g11, lo, ro, oo, hmo⟩ := mix_hold (ra.grown G8) (rb.grown G8) (fun x hx => (oa x hx).grown G8) (fun x hx => (ob x hx).grown G8) la lb (part := 0) of1 of2 (by omega) (by omega) hm ca cb
    have G11 := grown_trans G8 g11 (by simp)
    have ba11 := ba8.grown g11 (by simp)
    have bb11 := bb8.grown g11 (by simp)
    obtain ⟨P, cP, qp, w12, W13, w14, a12, a13, a14, b14, g14, lp, rp, op, hmp⟩ := mix_hold (ra.grown G11) (rb.grown G11) (fun x hx => (oa x hx).grown G11) (fun x hx => (ob x hx).grown G11) la lb (part := of) of1 of2 (by omega) (by omega) hm ca cb
    have G14 := grown_trans G11 g14 (by simp)
    have ba14 := ba11.grown g14 (by simp)
    have bb14 := bb11.grown g14 (by simp)
    obtain ⟨Q, cQ, qq, w15, W16, w17, a15, a16, a17, b17, g17, lq, rq, oq, hmq⟩ := mix_hold (ra.grown G14) (ra.grown G14) (fun x hx => (oa x hx).grown G14) (fun x hx => (oa x hx).grown G14) la la (part := part) of1 of2 (by omega) (by omega) (mcode_self va) ca ca
    have G17 := grown_trans G14 g17 (by simp)
    have ba17 := ba14.grown g17 (by simp)
    have bb17 := bb14.grown g17 (by simp)
    have b11_17 := (b11.grown g14 (by simp)).grown g17 (by simp)
    obtain ⟨w18, a18, g18⟩ := same_ok ((ro.grown g14).grown g17) (ra.grown G17) (fun x hx => ((oo x hx).grown g14).grown g17) (fun x hx => (oa x hx).grown G17) (ca := cO) (cb := ca) W H D al (by omega) (by omega) (fun p z x hz hx => by
      have hp := (List.getElem?_eq_some_iff.mp hx).1
      obtain ⟨y, hy⟩ : ∃ y, qb[p]? = some y := ⟨_, List.getElem?_eq_getElem (by omega)⟩
      rw [hmo p x y z hx hy hz]
      exact zip_left _ _ _ (hxy p x y hx hy) fun s hs r hr => by
        obtain ⟨s0, s1⟩ := (oa x (List.mem_of_getElem? hx)).rng s hs
        obtain ⟨r0, r1⟩ := (ob y (List.mem_of_getElem? hy)).rng r hr
        exact mv_zero of1 s0 s1 r0 r1)
    have G18 := grown_trans G17 g18 (by simp)
    have b14_18 := (b14.grown g17 (by simp)).grown g18 (by simp)
    have bb18 := bb17.grown g18 (by simp)
    have ba18 := ba17.grown g18 (by simp)
    obtain ⟨w19, a19, g19⟩ := same_ok ((rp.grown g17).grown g18) (rb.grown G18) (fun x hx => ((op x hx).grown g17).grown g18) (fun x hx => (ob x hx).grown G18) (ca := cP) (cb := cb) W H D al (by omega) (by omega) (fun p z y hz hy => by
      have hp := (List.getElem?_eq_some_iff.mp hy).1
      obtain ⟨x, hx⟩ : ∃ x, qa[p]? = some x := ⟨_, List.getElem?_eq_getElem (by omega)⟩
      rw [hmp p x y z hx hy hz]
      exact zip_right _ _ _ (hxy p x y hx hy) fun s hs r hr => by
        obtain ⟨s0, s1⟩ := (oa x (List.mem_of_getElem? hx)).rng s hs
        obtain ⟨r0, r1⟩ := (ob y (List.mem_of_getElem? hy)).rng r hr
        exact mv_all of1 s0 s1 r0 r1)
    have G19 := grown_trans G18 g19 (by simp)
    have b17_19 := (b17.grown g18 (by simp)).grown g19 (by simp)
    have ba19 := ba18.grown g19 (by simp)
    obtain ⟨w20, a20, g20⟩ := same_ok ((rq.grown g18).grown g19) (ra.grown G19) (fun x hx => ((oq x hx).grown g18).grown g19) (fun x hx => (oa x hx).grown G19) (ca := cQ) (cb := ca) W H D al (by omega) (by omega) (fun p z x hz hx => by
      rw [hmq p x x z hx hx hz]
      exact zip_self _ _ fun s hs => by
        obtain ⟨s0, s1⟩ := (oa x (List.mem_of_getElem? hx)).rng s hs
        exact mv_self of1 pt0 (by omega) s0 s1)
    have G20 := grown_trans G19 g20 (by simp)
    have g8_20 : w8.grownBy w20 none := grown_trans (grown_trans (grown_trans (grown_trans (grown_trans g11 g14 (by simp)) g17 (by simp)) g18 (by simp)) g19 (by simp)) g20 (by simp)
    have g5_20 := grown_trans g8 g8_20 (by simp)
    have ba20 := ba19.grown g20 (by simp)
    have bb20 := (bb18.grown g19 (by simp)).grown g20 (by simp)
    obtain ⟨w21, a21, g21⟩ := bet_l1 of1 pt0 pt1 (ra.grown G20) (rb.grown G20) (rm.grown g5_20) (rn.grown g8_20) (fun x hx => (oa x hx).grown G20) (fun x hx => (ob x hx).grown G20) (fun x hx => (om x hx).grown g5_20) (fun x hx => (on x hx).grown g8_20) ba20 bb20 (b5.grown g5_20 (by simp)) (b8.grown g8_20 (by simp)) la lab lm ln hxy hmm hmn (grown_refl _ _)
    refine ⟨w21, f4.run rfl ?_, grown_trans G20 g21 (by simp)⟩
    simp only [f4]
    simp [box_any, Value.cells, ← hW0, ← hW1, a2, p1, ← hof, e1, p2, e2, ld30b ba2, ld30b bb2, a3, ext2_0, ext2_1, a4, a5, ld30b ba5, ld30b bb5, a6, a7, a8, bool_not, ld30b ba8, ld30b bb8, a9, a10, a11, ld30b ba11, ld30b bb11, a12, a13, a14, ld30b ba14, ld30b bb14, a15, a16, a17, ld30b ba17, ld30b bb17, ld30b b11_17, a18, ld30b b14_18, ld30b bb18, a19, ld30b b17_19, ld30b ba19, a20, a21]
  · obtain ⟨v3, w3, a3, g3, c3⟩ := mix_ok of1 of2 pt0 (by omega) (W := W) (H := H) (D := D) (al := al) (ca := ca) (W' := W') (H' := H') (D' := D') (al' := al') (cb := cb) (ra.grown G2) (rb.grown G2) (fun x hx => (oa x hx).grown G2) (fun x hx => (ob x hx).grown G2) la lb
    rcases c3 with ⟨_, rfl⟩ | ⟨h, _⟩
    · obtain ⟨W4, w5, a4, a5, b5, g5⟩ := hold w3 0 0 0 false none 0 0
      have G5' := grown_trans g3 g5 (by simp)
      have G5 := grown_trans G2 G5' (by simp)
      have ba5 := ba2.grown G5' (by simp)
      have bb5 := bb2.grown G5' (by simp)
      obtain ⟨v6, w6, a6, g6, c6⟩ := mix_ok of1 of2 (part := part + 1) (by omega) (by omega) (W := W) (H := H) (D := D) (al := al) (ca := ca) (W' := W') (H' := H') (D' := D') (al' := al') (cb := cb) (ra.grown G5) (rb.grown G5) (fun x hx => (oa x hx).grown G5) (fun x hx => (ob x hx).grown G5) la lb
      rcases c6 with ⟨_, rfl⟩ | ⟨h, _⟩
      · obtain ⟨W7, w8, a7, a8, b8, g8⟩ := hold w6 0 0 0 false none 0 0
        have G8' := grown_trans g6 g8 (by simp)
        have G8 := grown_trans G5 G8' (by simp)
        have b58 := b5.grown G8' (by simp)
        refine ⟨w8, f4.run rfl ?_, G8⟩
        simp only [f4]
        simp [box_any, Value.cells, ← hW0, ← hW1, a2, p1, ← hof, e1, p2, e2, ld30b ba2, ld30b bb2, a3, ext2_0, ext2_1, a4, a5, ld30b ba5, ld30b bb5, a6, a7, a8, bool_not, hm, addL, ldp4 b58, ldp4 b8]
      · exact absurd h hm
    · exact absurd h hm
end Go.Sh.YtacfghffojijaaaDoor

namespace Go.Sh.YtacfghffojijaaaDoor
open Go Go.Proofs Go.RowKit Go.ChangeShapes Go.WideShapes
set_option linter.unusedVariables false
set_option linter.unusedSimpArgs false
set_option maxRecDepth 100000
theorem table_ok {W : World} (h : laidMetH Tryd.prog Go.Proofs.YtacfghffojijaaaDoor.Rows.conformBetweenRow.laid W) : Tb W := by
  rw [MakeChecks.laidMetH_plain _ _ _ (by kernel_rfl)] at h
  obtain ⟨ps, ⟨_, _, _, _, _, _, _, _, _, _, ⟨g, t, cs, fuel, p, q, hg, ht, hv, hd, _, _⟩, _⟩, _, _⟩ := h
  obtain rfl := Option.some.inj ((show Tryd.prog.globalNamed "dailies/timecode.table" = some 2 by kernel_rfl).symm.trans hg)
  obtain rfl := Option.some.inj ((show (Tryd.prog.globals[2]?).map (·.type) = some 105 by kernel_rfl).symm.trans ht)
  have hcell := fun j => World.var?_cell (show Tryd.prog.globalNamed "dailies/timecode.table" = some 2 by kernel_rfl) hv j
  obtain ⟨xs, m, _, ex, _, hl, hel⟩ := DataW.trod_array Tryd.underlying105 hd
  have c95 : Tryd.prog.cellsOf 95 = 4 := by kernel_rfl
  have c3 : Tryd.prog.cellsOf 3 = 1 := by kernel_rfl
  have e3 := (DataW.agg.inj (Prod.mk.inj ex).1)
  have hE := hel 2 (by omega)
  rw [c95, List.getElem?_eq_getElem (by omega)] at hE
  have e4 : (xs[2]'(by omega)).1 = .agg [.lit (.int .i64 25), .lit (.int .i64 25), .lit (.int .i64 1), .lit (.int .i64 0)] := by
    have e5 : (xs.map (·.1))[2]? = some (.agg [.lit (.int .i64 25), .lit (.int .i64 25), .lit (.int .i64 1), .lit (.int .i64 0)]) := by rw [← e3]; rfl
    rw [List.getElem?_map, List.getElem?_eq_getElem (by omega)] at e5
    exact Option.some.inj e5
  obtain ⟨ys, m', _, ey, hlen, hyl, hf⟩ := DataW.trod_struct Tryd.underlying95 hE
  rw [ey] at e4
  have e6 := DataW.agg.inj e4
  have h0 := hf 0 _ rfl
  have h1 := hf 1 _ rfl
  have h2 := hf 2 _ rfl
  have h3 := hf 3 _ rfl
  erw [c3] at h0 h1 h2 h3
  match ys, hyl with
  | [y0, y1, y2, y3], _ =>
    obtain ⟨n0, a0, b0, _⟩ := DataW.trod_int Tryd.underlying3 h0
    obtain ⟨n1, a1, b1, _⟩ := DataW.trod_int Tryd.underlying3 h1
    obtain ⟨n2, a2, b2, _⟩ := DataW.trod_int Tryd.underlying3 h2
    obtain ⟨n3, a3, b3, _⟩ := DataW.trod_int Tryd.underlying3 h3
    subst b0
    subst b1
    subst b2
    subst b3
    simp only [List.map_cons, List.map_nil, List.cons.injEq, DataW.lit.injEq, Lit.int.injEq, true_and, and_true] at e6
    obtain ⟨rfl, rfl, rfl, rfl⟩ := e6
    have key : ∀ (j : Nat) (v : Value), j < 4 → ((((cs.toList.drop (2 * 4)).take 4).drop j).take 1) = [v] → W.cell? ⟨2, 8 + j, none⟩ = some v := by
      intro j v hj hv
      rw [hcell, ← Array.getElem?_toList]
      have e : ((((cs.toList.drop (2 * 4)).take 4).drop j).take 1)[0]? = some v := by rw [hv]; rfl
      rw [List.getElem?_take_of_lt (by omega), List.getElem?_drop, List.getElem?_take_of_lt (by omega), List.getElem?_drop] at e
      simpa using e
    intro j v hv
    match j, hv with
    | 0, hv => cases hv; exact key 0 _ (by omega) a0
    | 1, hv => cases hv; exact key 1 _ (by omega) a1
    | 2, hv => cases hv; exact key 2 _ (by omega) a2
    | 3, hv => cases hv; exact key 3 _ (by omega) a3
theorem frame_in {W : World} {H : Type} {enc : TypeId × Value → H} {base : Nat} {v : Value} (o : Value.okWide Tryd.prog W .any base 30 v) (z : Dat enc Tryd.prog W 30 v.cells.toList) :
    ∃ (Wd Hd D : Int) (al : Bool) (A : Option Addr) (c : Nat) (q : List Pl), v = fv Wd Hd D al A q.length c ∧ Rd W A (q.map Pl.v) ∧ (∀ x ∈ q, x.ok W) ∧ q.length ≤ maxLen := by
  have o' : ∃ cs, v = .agg cs ∧ cs.size = Tryd.prog.cellsOf 30 ∧ Row.okWide Tryd.prog W .any base 30 cs := by
    unfold Value.okWide at o
    rw [Tryd.underlying30] at o
    exact o
  obtain ⟨cs, rfl, hsz, _⟩ := o'
  have z' : Dat enc Tryd.prog W 30 cs.toList := z
  have c30 : Tryd.prog.cellsOf 30 = 5 := by kernel_rfl
  have c27 : Tryd.prog.cellsOf 27 = 4 := by kernel_rfl
  have c28 : Tryd.prog.cellsOf 28 = 1 := by kernel_rfl
  have c38 : Tryd.prog.cellsOf 38 = 1 := by kernel_rfl
  have c3 : Tryd.prog.cellsOf 3 = 1 := by kernel_rfl
  have c4 : Tryd.prog.cellsOf 4 = 1 := by kernel_rfl
  obtain ⟨hl, hf⟩ := dat_struct Tryd.underlying30 z'
  rw [c30] at hl
  have f0 := hf 0 _ rfl
  have f1 := hf 1 _ rfl
  erw [c27] at f0
  erw [c28] at f1
  obtain ⟨cs⟩ := cs
  match cs, hl with
  | [x0, x1, x2, x3, x4], _ =>
    simp only [List.drop, List.take] at f0 f1
    obtain ⟨hl', hf'⟩ := dat_struct Tryd.underlying27 f0
    have g0 := hf' 0 _ rfl
    have g1 := hf' 1 _ rfl
    have g2 := hf' 2 _ rfl
    have g3 := hf' 3 _ rfl
    erw [c3] at g0 g1 g2
    erw [c4] at g3
    obtain ⟨Wd, e0, _⟩ := dat_int Tryd.underlying3 g0
    obtain ⟨Hd, e1, _⟩ := dat_int Tryd.underlying3 g1
    obtain ⟨D, e2, _⟩ := dat_int Tryd.underlying3 g2
    obtain ⟨al, e3⟩ := dat_bool Tryd.underlying4 g3
    obtain ⟨A, n, c, e4, hnc, hcm, hAn, rows, hrl, hrow, hrd⟩ := dat_slice Tryd.underlying28 f1
    have e0 : [x0] = [Value.int .i64 Wd] := e0
    have e1 : [x1] = [Value.int .i64 Hd] := e1
    have e2 : [x2] = [Value.int .i64 D] := e2
    have e3 : [x3] = [Value.bool al] := e3
    have e4 : [x4] = [Value.slice A n c] := e4
    cases e0
    cases e1
    cases e2
    cases e3
    cases e4
    obtain ⟨q, rfl, hq, hQ⟩ := choose_rows (fun x : Pl => [x.v]) (fun x => x.ok W) (rows := rows) (by
      intro r hr
      obtain ⟨_, hd⟩ := hrow r hr
      obtain ⟨X, n', c', l, rfl, hl, h1, h2, h3, h4, h5⟩ := dat_ints Tryd.underlying38 Tryd.underlying39 hd
      refine ⟨⟨X, c', l⟩, by simp [Pl.v, hl], h5, by simp only; omega, by simp only; simp [maxLen] at h2; omega, fun v hv => ?_⟩
      have := h4 v hv
      simp [Lit.wf, IntKind.min, IntKind.max, IntKind.signed, IntKind.bits] at this
      omega)
    have hqn : q.length = n := by rw [hq, hrl]
    have hflat : (q.map fun x : Pl => [x.v]).flatten = q.map Pl.v := by
      clear hQ hq hrl hrow hrd hqn
      induction q with
      | nil => rfl
      | cons x q ih => simp [ih]
    rw [hflat] at hrd
    refine ⟨Wd, Hd, D, al, A, c, q, by rw [hqn], hrd, hQ, by omega⟩
theorem between_walk (W : World) {H : Type} {enc : TypeId × Value → H} {base : Nat} (v0 : Value) (o0 : Value.okWide Tryd.prog W .any base 30 v0) (z0 : Dat enc Tryd.prog W 30 v0.cells.toList) (v1 : Value) (o1 : Value.okWide Tryd.prog W .any base 30 v1) (z1 : Dat enc Tryd.prog W 30 v1.cells.toList)
    (a : Int) (wa : (Lit.int .i64 a).wf = true) (b : Int) (wb : (Lit.int .i64 b).wf = true) (hL : laidMetH Tryd.prog Go.Proofs.YtacfghffojijaaaDoor.Rows.conformBetweenRow.laid W) :
    Calls Tryd.prog 4 #[v0, v1, .int .i64 a, .int .i64 b] W fun e w' => e = .returned (.bool true) ∧ Below W.heap.size W w' := by
  obtain ⟨W0, H0, D0, al0, A, ca, qa, rfl, ra, oa, la⟩ := frame_in o0 z0
  obtain ⟨W1, H1, D1, al1, B, cb, qb, rfl, rb, ob, lb⟩ := frame_in o1 z1
  obtain ⟨x0, x1⟩ := wf_i64 wa
  obtain ⟨y0, y1⟩ := wf_i64 wb
  obtain ⟨w', h, G⟩ := between_ok (table_ok hL) (W := W0) (H := H0) (D := D0) (al := al0) (ca := ca) (W' := W1) (H' := H1) (D' := D1) (al' := al1) (cb := cb) ra rb oa ob la lb x0 x1 y0 y1
  exact (calls_of_run (by kernel_rfl) noPrim_ok h).mono fun e v ⟨h1, h2⟩ => ⟨h1, h2 ▸ below_of_grown G⟩
end Go.Sh.YtacfghffojijaaaDoor

