/- plane: within, Valid: what they answer. Conditions: those of each statement. -/
import Derived.Test.YtacfghffojijaaaDoorCP1
namespace Go.Sh.YtacfghffojijaaaDoor
open Go Go.Proofs Go.RowKit
set_option linter.unusedVariables false
set_option linter.unusedSimpArgs false
set_option maxRecDepth 100000
/-- samples, as cells -/
def uv (l : List Int) : List Value := l.map (Value.int .u16)
theorem shr_pos (v : Int) (D : Nat) (hD : D = 10 ∨ D = 12) (h0 : 0 ≤ v) : (v.fdiv (2 ^ min D IntKind.u16.bits) ≠ 0) ↔ (2 : Int) ^ D ≤ v := by
  have e : IntKind.u16.bits = 16 := rfl
  rw [e]
  rcases hD with rfl | rfl
  · have : (v.fdiv (2 ^ min 10 16)) = v / 1024 := by rw [Int.fdiv_eq_ediv_of_nonneg]; rfl; decide
    rw [this]
    show v / 1024 ≠ 0 ↔ (1024 : Int) ≤ v
    omega
  · have : (v.fdiv (2 ^ min 12 16)) = v / 4096 := by rw [Int.fdiv_eq_ediv_of_nonneg]; rfl; decide
    rw [this]
    show v / 4096 ≠ 0 ↔ (4096 : Int) ≤ v
    omega
theorem above_ok {w : World} {b : Nat} {D : Nat} (hD : D = 10 ∨ D = 12) (h : w.cell? ⟨b, 0, none⟩ = some (.int .i64 D)) (v : Int) (h0 : 0 ≤ v) : C 38 #[.int .u16 v, .pointer (some ⟨b, 0, none⟩)] w = some (.bool (decide ((2 : Int) ^ D ≤ v)), w) := by
  refine f38.run rfl ?_
  have hs := p_shr (P := Tryd.prog) 39 (.tmp 4) (.tmp 5) .u16 .i64 v D (by omega)
  rw [Int.toNat_natCast] at hs
  have hiff := shr_pos v D hD h0
  simp only [f38, ld3, h, Option.bind_some, hs]
  by_cases hc : (2 : Int) ^ D ≤ v
  · have hn := hiff.mpr hc
    simp [hn, hc]
  · have hn : v.fdiv (2 ^ min D IntKind.u16.bits) = 0 := by
      by_cases he : v.fdiv (2 ^ min D IntKind.u16.bits) = 0
      · exact he
      · exact absurd (hiff.mp he) hc
    simp [hn, hc]
theorem index_ok {w : World} {b : Nat} {D : Nat} (hD : D = 10 ∨ D = 12) (hb : w.cell? ⟨b, 0, none⟩ = some (.int .i64 D)) {A : Option Addr} {c : Nat} {l : List Int} (hr : Rd w A (uv l)) (hl : l.length ≤ maxLen) (h0 : ∀ v ∈ l, 0 ≤ v) :
    ∃ r : Int, C 47 #[.slice A l.length c, .func (.func 38) #[] #[.pointer (some ⟨b, 0, none⟩)]] w = some (.int .i64 r, w) ∧ ((0 ≤ r) ↔ ∃ v ∈ l, (2 : Int) ^ D ≤ v) := by
  have hmx : (maxLen : Int) = 9223372036854775807 := by simp [maxLen]
  have key := iter_down (f := f47.l0 C) (fun d st w2 => ∃ i : Nat, st = [.slice A l.length c, .func (.func 38) #[] #[.pointer (some ⟨b, 0, none⟩)], .int .i64 l.length, .int .i64 i] ∧ i + d = l.length ∧ w2 = w ∧ ∀ j v, j < i → l[j]? = some v → ¬ (2 : Int) ^ D ≤ v)
    (fun r => (r = .exit 0 [] w ∧ ∀ v ∈ l, ¬ (2 : Int) ^ D ≤ v) ∨ ∃ i : Nat, r = .ret [.int .i64 i] w ∧ ∃ v ∈ l, (2 : Int) ^ D ≤ v) (by
      rintro d st w2 ⟨i, rfl, hi, rfl, hno⟩
      cases d with
      | zero =>
        obtain rfl : i = l.length := by omega
        refine .inr ⟨_, by simp [f47.l0], .inl ⟨rfl, fun v hv => ?_⟩, by simp⟩
        obtain ⟨j, hj⟩ := List.getElem?_of_mem hv
        exact hno j v (List.getElem?_eq_some_iff.mp hj).1 hj
      | succ d =>
        have hil : i < l.length := by omega
        obtain ⟨v, hv⟩ : ∃ v, v = l[i] := ⟨_, rfl⟩
        have hiv : l[i]? = some v := by rw [hv]; exact List.getElem?_eq_getElem hil
        have huv : (uv l)[i]? = some (.int .u16 v) := by simp [uv, hiv]
        cases A with
        | none => have h : uv l = [] := hr; rw [h] at huv; simp at huv
        | some a =>
          have cl := hr i _ huv
          have ix := ix38 a l.length c .i64 i (by omega) (by omega)
          simp only [Int.toNat_natCast, Nat.mul_one] at ix
          have a1 := above_ok hD hb v (h0 v (List.mem_of_getElem? hiv))
          have e3 : IntKind.i64.wrap ((i : Int) + 1) = ((i + 1 : Nat) : Int) := (wrap_i64 (by omega) (by omega)).trans (by omega)
          by_cases hc : (2 : Int) ^ D ≤ v
          · refine .inr ⟨_, ?_, .inr ⟨i, rfl, v, List.mem_of_getElem? hiv, hc⟩, by simp⟩
            rw [decide_eq_true hc] at a1
            simp (disch := omega) [f47.l0, lt_t, ix, cl, callV, a1]
          · refine .inl ⟨d, _, w2, by omega, ?_, ⟨i + 1, rfl, by omega, rfl, fun j u hj hu => ?_⟩⟩
            · rw [decide_eq_false hc] at a1
              simp (disch := omega) [f47.l0, lt_t, ix, cl, callV, a1, e3]
            · by_cases hji : j = i
              · subst hji
                rw [hiv] at hu
                cases hu
                exact hc
              · exact hno j u (by omega) hu) l.length _ w ⟨0, rfl, by omega, rfl, fun j v hj => by omega⟩
  obtain ⟨r, h1, hr⟩ := key
  rcases hr with ⟨rfl, hno⟩ | ⟨i, rfl, hex⟩
  · refine ⟨-1, f47.run rfl ?_, ⟨fun h => by omega, fun ⟨v, hv, hc⟩ => absurd hc (hno v hv)⟩⟩
    simp at h1
    simp [f47, h1]
  · refine ⟨i, f47.run rfl ?_, ⟨fun _ => hex, fun _ => by omega⟩⟩
    simp at h1
    simp [f47, h1]
open Classical in
theorem within_ok {w : World} {D : Nat} (hD : D = 10 ∨ D = 12) {A : Option Addr} {c : Nat} {l : List Int} (hr : Rd w A (uv l)) (hl : l.length ≤ maxLen) (h0 : ∀ v ∈ l, 0 ≤ v) :
    ∃ w', C 23 #[.slice A l.length c, .int .i64 D] w = some (.bool (decide (∀ v ∈ l, v < (2 : Int) ^ D)), w') ∧ w.grownBy w' none := by
  obtain ⟨W0, hW0⟩ : ∃ W0, W0 = w.alloc (.cells #[.int .i64 D] 3) := ⟨_, rfl⟩
  have g0 : w.grownBy W0 none := hW0 ▸ World.grownBy_alloc w _ none
  have b0 : Blk W0 w.heap.size 3 [.int .i64 D] := hW0 ▸ Blk.new w 3 [.int .i64 D]
  obtain ⟨r, a1, hiff⟩ := index_ok hD (b0.cell_eq 0 rfl) (c := c) (hr.grown g0) hl h0
  have a2 : C 37 #[.slice A l.length c, .func (.func 38) #[] #[.pointer (some ⟨w.heap.size, 0, none⟩)]] W0 = some (.bool (decide (0 ≤ r)), W0) := by
    refine f37.run rfl ?_
    simp [f37, a1]
  refine ⟨W0, f23.run rfl ?_, g0⟩
  have e : (!decide (0 ≤ r)) = decide (∀ v ∈ l, v < (2 : Int) ^ D) := by
    by_cases hc : 0 ≤ r
    · obtain ⟨v, hv, h2⟩ := hiff.mp hc
      have : ¬ ∀ v ∈ l, v < (2 : Int) ^ D := fun h => by have := h v hv; omega
      simp only [hc, decide_true, Bool.not_true]
      exact (decide_eq_false this).symm
    · have : ∀ v ∈ l, v < (2 : Int) ^ D := fun v hv => by
        by_cases h2 : (2 : Int) ^ D ≤ v
        · exact absurd (hiff.mpr ⟨v, hv, h2⟩) hc
        · omega
      simp only [hc, decide_false, Bool.not_false]
      exact (decide_eq_true this).symm
  simp [f23, box_any, Value.cells, ← hW0, a2, bool_not]
  rw [← e]
  simp
/-- a plane that came in, or was made -/
structure Pl where
  A : Option Addr
  c : Nat
  l : List Int
def Pl.v (x : Pl) : Value := .slice x.A x.l.length x.c
structure Pl.ok (x : Pl) (w : World) : Prop where
  rd : Rd w x.A (uv x.l)
  cap : x.l.length ≤ x.c
  len : x.l.length ≤ 9223372036854775807
  rng : ∀ v ∈ x.l, 0 ≤ v ∧ v ≤ 65535
theorem Pl.ok.grown {x : Pl} {w w' : World} (h : x.ok w) (hg : w.grownBy w' none) : x.ok w' := ⟨h.rd.grown hg, h.cap, h.len, h.rng⟩
open Classical in
/-- what Valid answers -/
noncomputable def vcode (W H D : Int) (al : Bool) (q : List Pl) : Int :=
  if ¬ Shd W H D al then 61 else if q.length ≠ pl al then 62 else if ∃ p x, q[p]? = some x ∧ (x.l.length : Int) ≠ wd W p * H then 63 else if ∃ x ∈ q, ∃ v ∈ x.l, (2 : Int) ^ D.toNat ≤ v then 64 else 0
theorem valid_ok {W H D : Int} {al : Bool} {A : Option Addr} {c : Nat} {q : List Pl} {w : World} (hr : Rd w A (q.map Pl.v)) (hq : ∀ x ∈ q, x.ok w) (hlen : q.length ≤ maxLen) :
    ∃ w', C 16 #[fv W H D al A q.length c] w = some (.int .i64 (vcode W H D al q), w') ∧ w.grownBy w' none := by
  have hmx : (maxLen : Int) = 9223372036854775807 := by simp [maxLen]
  obtain ⟨W0, hW0⟩ : ∃ W0, W0 = w.alloc (.cells #[.int .i64 W, .int .i64 H, .int .i64 D, .bool al, .slice A q.length c] 30) := ⟨_, rfl⟩
  have g0 : w.grownBy W0 none := hW0 ▸ World.grownBy_alloc w _ none
  have b0 : Blk W0 w.heap.size 30 [.int .i64 W, .int .i64 H, .int .i64 D, .bool al, .slice A q.length c] := hW0 ▸ Blk.new w 30 [.int .i64 W, .int .i64 H, .int .i64 D, .bool al, .slice A q.length c]
  obtain ⟨w1, a1, g1⟩ := shaped_ok W H D al W0
  have G1 := grown_trans g0 g1 (by simp)
  by_cases hS : Shd W H D al
  · rw [if_pos hS] at a1
    obtain ⟨h0, h1, h2, h3, hD, hts⟩ := hS
    obtain ⟨u, hu⟩ : ∃ u, u = w1.drew := ⟨_, rfl⟩
    have gu : w1.grownBy u none := hu ▸ grown_drew w1 none
    have b1 := b0.grown g1 (by simp)
    have bu := b1.grown gu (by simp)
    obtain ⟨w2, a2, g2⟩ := planes_ok W H D al u
    have b2 := bu.grown g2 (by simp)
    have G2 := grown_trans (grown_trans G1 gu (by simp)) g2 (by simp)
    have hple := pl_le al
    by_cases hpl : q.length = pl al
    · have hplI : ((q.length : Int) = (pl al : Int)) = True := eq_true (by omega)
      have key := iter_down (f := f16.l0 C) (fun d st w3 => ∃ i : Nat, st = [.pointer (some ⟨w.heap.size, 0, none⟩), .slice A q.length c, .int .i64 q.length, .int .i64 i] ∧ i + d = q.length ∧ w2.grownBy w3 none ∧ ∀ p x, p < i → q[p]? = some x → (x.l.length : Int) = wd W p * H)
        (fun r => (∃ w3, r = .exit 0 [.pointer (some ⟨w.heap.size, 0, none⟩)] w3 ∧ w2.grownBy w3 none ∧ ∀ p x, q[p]? = some x → (x.l.length : Int) = wd W p * H) ∨ ∃ w3, r = .ret [.int .i64 63] w3 ∧ w2.grownBy w3 none ∧ ∃ p x, q[p]? = some x ∧ (x.l.length : Int) ≠ wd W p * H) (by
          rintro d st w3 ⟨i, rfl, hi, G, hno⟩
          cases d with
          | zero =>
            obtain rfl : i = q.length := by omega
            exact .inr ⟨_, by simp [f16.l0], .inl ⟨w3, rfl, G, fun p x hp => hno p x (List.getElem?_eq_some_iff.mp hp).1 hp⟩, by simp⟩
          | succ d =>
            have hil : i < q.length := by omega
            obtain ⟨x, hx⟩ : ∃ x, x = q[i] := ⟨_, rfl⟩
            have hix : q[i]? = some x := by rw [hx]; exact List.getElem?_eq_getElem hil
            have hxo := hq x (List.mem_of_getElem? hix)
            have hxl := hxo.len
            have hv : (q.map Pl.v)[i]? = some x.v := by simp [hix]
            have b3 := b2.grown G (by simp)
            have G3 := grown_trans G2 G (by simp)
            obtain ⟨u3, hu3⟩ : ∃ u3, u3 = w3.drew := ⟨_, rfl⟩
            have gu3 : w3.grownBy u3 none := hu3 ▸ grown_drew w3 none
            have bu3 := b3.grown gu3 (by simp)
            obtain ⟨w4, a4, g4⟩ := width_ok H D al h0 h1 i u3
            have b4 := bu3.grown g4 (by simp)
            cases A with
            | none => have h : q.map Pl.v = [] := hr; rw [h] at hv; simp at hv
            | some a =>
              have cl := (hr.grown G3) i _ hv
              have ix := ix28 a q.length c .i64 i (by omega) (by omega)
              simp only [Int.toNat_natCast, Nat.mul_one] at ix
              have hwd := wd_le h0 h1 i
              have hm := prod_bound (a := wd W i) (b := H) (by omega) (by omega) (by omega) h3
              have e1 : IntKind.i64.wrap (wd W i * H) = wd W i * H := wrap_i64 (by omega) (by omega)
              have e3 : IntKind.i64.wrap ((i : Int) + 1) = ((i + 1 : Nat) : Int) := (wrap_i64 (by omega) (by omega)).trans (by omega)
              by_cases hc : (x.l.length : Int) = wd W i * H
              · refine .inl ⟨d, _, w4, by omega, ?_, ⟨i + 1, rfl, by omega, grown_trans (grown_trans G gu3 (by simp)) g4 (by simp), fun p y hp hy => ?_⟩⟩
                · unfold Pl.v at cl
                  simp (disch := omega) [f16.l0, lt_t, ix, cl, ← hu3, addL, ld27b b3 rfl, ld27b bu3 rfl, a4, b3.cell_eq 1 rfl, bu3.cell_eq 1 rfl, b4.cell_eq 1 rfl, e1, hc, e3]
                · by_cases hpi : p = i
                  · subst hpi; rw [hix] at hy; cases hy; exact hc
                  · exact hno p y (by omega) hy
              · refine .inr ⟨_, ?_, .inr ⟨w4, rfl, grown_trans (grown_trans G gu3 (by simp)) g4 (by simp), i, x, hix, hc⟩, by simp⟩
                unfold Pl.v at cl
                simp (disch := omega) [f16.l0, lt_t, ix, cl, ← hu3, addL, ld27b b3 rfl, ld27b bu3 rfl, a4, b3.cell_eq 1 rfl, bu3.cell_eq 1 rfl, b4.cell_eq 1 rfl, e1, hc]) q.length _ w2 ⟨0, rfl, by omega, grown_refl _ _, fun p x hp => by omega⟩
      obtain ⟨r, h4, hcase⟩ := key
      rcases hcase with ⟨w3, rfl, g3, hall⟩ | ⟨w3, rfl, g3, hex⟩
      · -- samples
        have G3 := grown_trans G2 g3 (by simp)
        obtain ⟨D, rfl⟩ : ∃ Dn : Nat, D = Dn := ⟨D.toNat, by omega⟩
        have hDn : D = 10 ∨ D = 12 := by omega
        have key2 := iter_down (f := f16.l1 C) (fun d st w4 => ∃ i : Nat, st = [.pointer (some ⟨w.heap.size, 0, none⟩), .slice A q.length c, .int .i64 q.length, .int .i64 i] ∧ i + d = q.length ∧ w3.grownBy w4 none ∧ ∀ p x, p < i → q[p]? = some x → ∀ v ∈ x.l, v < (2 : Int) ^ D)
          (fun r => (∃ w4, r = .exit 2 [] w4 ∧ w3.grownBy w4 none ∧ ∀ x ∈ q, ∀ v ∈ x.l, v < (2 : Int) ^ D) ∨ ∃ w4, r = .ret [.int .i64 64] w4 ∧ w3.grownBy w4 none ∧ ∃ x ∈ q, ∃ v ∈ x.l, (2 : Int) ^ D ≤ v) (by
            rintro d st w4 ⟨i, rfl, hi, G, hno⟩
            cases d with
            | zero =>
              obtain rfl : i = q.length := by omega
              refine .inr ⟨_, by simp [f16.l1], .inl ⟨w4, rfl, G, fun x hx => ?_⟩, by simp⟩
              obtain ⟨p, hp⟩ := List.getElem?_of_mem hx
              exact hno p x (List.getElem?_eq_some_iff.mp hp).1 hp
            | succ d =>
              have hil : i < q.length := by omega
              obtain ⟨x, hx⟩ : ∃ x, x = q[i] := ⟨_, rfl⟩
              have hix : q[i]? = some x := by rw [hx]; exact List.getElem?_eq_getElem hil
              have hxo := hq x (List.mem_of_getElem? hix)
              have hv : (q.map Pl.v)[i]? = some x.v := by simp [hix]
              have b4 := (b2.grown g3 (by simp)).grown G (by simp)
              have G4 := grown_trans G3 G (by simp)
              obtain ⟨w5, a5, g5⟩ := within_ok hDn (c := x.c) ((hxo.rd).grown G4) (by have := hxo.len; simp [maxLen]; omega) (fun v hv => (hxo.rng v hv).1)
              cases A with
              | none => have h : q.map Pl.v = [] := hr; rw [h] at hv; simp at hv
              | some a =>
                have cl := (hr.grown G4) i _ hv
                have ix := ix28 a q.length c .i64 i (by omega) (by omega)
                simp only [Int.toNat_natCast, Nat.mul_one] at ix
                have e3 : IntKind.i64.wrap ((i : Int) + 1) = ((i + 1 : Nat) : Int) := (wrap_i64 (by omega) (by omega)).trans (by omega)
                unfold Pl.v at cl
                by_cases hc : ∀ v ∈ x.l, v < (2 : Int) ^ D
                · rw [decide_eq_true hc] at a5
                  refine .inl ⟨d, _, w5, by omega, ?_, ⟨i + 1, rfl, by omega, grown_trans G g5 (by simp), fun p y hp hy => ?_⟩⟩
                  · simp (disch := omega) [f16.l1, lt_t, ix, cl, addL, b4.cell_eq 2 rfl, a5, bool_not, e3]
                  · by_cases hpi : p = i
                    · subst hpi; rw [hix] at hy; cases hy; exact hc
                    · exact hno p y (by omega) hy
                · rw [decide_eq_false hc] at a5
                  have hex : ∃ v ∈ x.l, (2 : Int) ^ D ≤ v := by
                    apply Classical.byContradiction
                    intro hn
                    exact hc fun v hv => by
                      by_cases h2 : (2 : Int) ^ D ≤ v
                      · exact absurd ⟨v, hv, h2⟩ hn
                      · omega
                  refine .inr ⟨_, ?_, .inr ⟨w5, rfl, grown_trans G g5 (by simp), x, List.mem_of_getElem? hix, hex⟩, by simp⟩
                  simp (disch := omega) [f16.l1, lt_t, ix, cl, addL, b4.cell_eq 2 rfl, a5, bool_not]) q.length _ w3 ⟨0, rfl, by omega, grown_refl _ _, fun p x hp => by omega⟩
        obtain ⟨r, h5, hcase⟩ := key2
        have b3 := b2.grown g3 (by simp)
        have hS : Shd W H D al := ⟨h0, h1, h2, h3, hD, hts⟩
        have hn63 : ¬ ∃ p x, q[p]? = some x ∧ (x.l.length : Int) ≠ wd W p * H := fun ⟨p, x, hp, hne⟩ => hne (hall p x hp)
        have z0 : ((0 : Nat) : Int) = 0 := rfl
        rw [z0] at h4 h5
        rcases hcase with ⟨w4, rfl, g4, hw⟩ | ⟨w4, rfl, g4, hw⟩
        · refine ⟨w4, f16.run rfl ?_, grown_trans G3 g4 (by simp)⟩
          have hn64 : ¬ ∃ x ∈ q, ∃ v ∈ x.l, (2 : Int) ^ (D : Int).toNat ≤ v := fun ⟨x, hx, v, hv, h6⟩ => by have := hw x hx v hv; rw [Int.toNat_natCast] at h6; omega
          have hv : vcode W H D al q = 0 := by
            unfold vcode
            rw [if_neg (fun h => h hS), if_neg (fun h => h hpl), if_neg hn63, if_neg hn64]
          rw [hv]
          simp [f16, box_any, Value.cells, ← hW0, addL, ld27b b0 rfl, a1, ← hu, b1.cell_eq 4 rfl, bu.cell_eq 4 rfl, b2.cell_eq 4 rfl, ld27b b1 rfl, ld27b bu rfl, a2, hplI, h4, b3.cell_eq 4 rfl, h5]
        · refine ⟨w4, f16.run rfl ?_, grown_trans G3 g4 (by simp)⟩
          have h64 : ∃ x ∈ q, ∃ v ∈ x.l, (2 : Int) ^ (D : Int).toNat ≤ v := by rw [Int.toNat_natCast]; exact hw
          have hv : vcode W H D al q = 64 := by
            unfold vcode
            rw [if_neg (fun h => h hS), if_neg (fun h => h hpl), if_neg hn63, if_pos h64]
          rw [hv]
          simp [f16, box_any, Value.cells, ← hW0, addL, ld27b b0 rfl, a1, ← hu, b1.cell_eq 4 rfl, bu.cell_eq 4 rfl, b2.cell_eq 4 rfl, ld27b b1 rfl, ld27b bu rfl, a2, hplI, h4, b3.cell_eq 4 rfl, h5]
      · refine ⟨w3, f16.run rfl ?_, grown_trans G2 g3 (by simp)⟩
        have hS : Shd W H D al := ⟨h0, h1, h2, h3, hD, hts⟩
        have hv : vcode W H D al q = 63 := by
          unfold vcode
          rw [if_neg (fun h => h hS), if_neg (fun h => h hpl), if_pos hex]
        rw [hv]
        have z0 : ((0 : Nat) : Int) = 0 := rfl
        rw [z0] at h4
        simp [f16, box_any, Value.cells, ← hW0, addL, ld27b b0 rfl, a1, ← hu, b1.cell_eq 4 rfl, bu.cell_eq 4 rfl, b2.cell_eq 4 rfl, ld27b b1 rfl, ld27b bu rfl, a2, hplI, h4]
    · refine ⟨w2, f16.run rfl ?_, G2⟩
      have hS : Shd W H D al := ⟨h0, h1, h2, h3, hD, hts⟩
      have hv : vcode W H D al q = 62 := by
        unfold vcode
        rw [if_neg (fun h => h hS), if_pos hpl]
      have hne : ¬ ((q.length : Int) = (pl al : Int)) := by omega
      rw [hv]
      simp [f16, box_any, Value.cells, ← hW0, addL, ld27b b0 rfl, a1, ← hu, b1.cell_eq 4 rfl, bu.cell_eq 4 rfl, b2.cell_eq 4 rfl, ld27b b1 rfl, ld27b bu rfl, a2, hne]
  · rw [if_neg hS] at a1
    refine ⟨w1, f16.run rfl ?_, G1⟩
    have hv : vcode W H D al q = 61 := by
      unfold vcode
      rw [if_pos hS]
    rw [hv]
    simp [f16, box_any, Value.cells, ← hW0, addL, ld27b b0 rfl, a1]
end Go.Sh.YtacfghffojijaaaDoor
