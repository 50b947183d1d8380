/- the arithmetic of a mix. Conditions: those of each statement. -/
import Derived.Test.YtacfghffojijaaaDoorCPA
namespace Go.Sh.YtacfghffojijaaaDoor
open Go Go.Proofs Go.RowKit
set_option linter.unusedVariables false
set_option linter.unusedSimpArgs false
set_option maxRecDepth 100000
theorem wrap_u16 {x : Int} (h0 : 0 ≤ x) (h1 : x ≤ 65535) : IntKind.u16.wrap x = x := by
  show x.emod 65536 = x
  exact Int.emod_eq_of_lt h0 (by omega)
theorem avg {x y p of : Int} (hxy : x ≤ y) (h0 : 0 ≤ p) (h1 : p ≤ of) : x * of ≤ x * (of - p) + y * p ∧ x * (of - p) + y * p ≤ y * of := by
  have e1 : x * (of - p) = x * of - x * p := Int.mul_sub _ _ _
  have e2 : y * (of - p) = y * of - y * p := Int.mul_sub _ _ _
  have a1 := Int.mul_le_mul_of_nonneg_right hxy h0
  have a2 := Int.mul_le_mul_of_nonneg_right hxy (show 0 ≤ of - p by omega)
  omega
theorem avg' {x y p of : Int} (hxy : y ≤ x) (h0 : 0 ≤ p) (h1 : p ≤ of) : y * of ≤ x * (of - p) + y * p ∧ x * (of - p) + y * p ≤ x * of := by
  have e1 : x * (of - p) = x * of - x * p := Int.mul_sub _ _ _
  have e2 : y * (of - p) = y * of - y * p := Int.mul_sub _ _ _
  have a1 := Int.mul_le_mul_of_nonneg_right hxy h0
  have a2 := Int.mul_le_mul_of_nonneg_right hxy (show 0 ≤ of - p by omega)
  omega
theorem round {lo hi S of : Int} (hof : 1 ≤ of) (h1 : lo * of ≤ S) (h2 : S ≤ hi * of) : lo ≤ (S + of / 2) / of ∧ (S + of / 2) / of ≤ hi := by
  refine ⟨(Int.le_ediv_iff_mul_le (by omega)).mpr (by omega), ?_⟩
  have : (S + of / 2) / of < hi + 1 := (Int.ediv_lt_iff_lt_mul (by omega)).mpr (by rw [Int.add_mul]; omega)
  omega
theorem mv_raw {part of x y lo hi : Int} (hof : 1 ≤ of) (l0 : 0 ≤ lo) (l1 : hi ≤ 65535) (h1 : lo * of ≤ x * (of - part) + y * part) (h2 : x * (of - part) + y * part ≤ hi * of) :
    mv part of x y = (x * (of - part) + y * part + of / 2) / of ∧ lo ≤ mv part of x y ∧ mv part of x y ≤ hi := by
  have r := round hof h1 h2
  have f1 : of.tdiv 2 = of / 2 := Int.tdiv_eq_ediv_of_nonneg (by omega)
  have f0 : 0 ≤ lo * of := Int.mul_nonneg l0 (by omega)
  have f2 : (x * (of - part) + y * part + of / 2).tdiv of = (x * (of - part) + y * part + of / 2) / of := Int.tdiv_eq_ediv_of_nonneg (by omega)
  have e : mv part of x y = (x * (of - part) + y * part + of / 2) / of := by
    unfold mv
    rw [f1, f2]
    exact wrap_u16 (by omega) (by omega)
  rw [e]
  exact ⟨rfl, r⟩
theorem mv_up {part of x y : Int} (hof : 1 ≤ of) (h0 : 0 ≤ part) (h1 : part ≤ of) (x0 : 0 ≤ x) (y1 : y ≤ 65535) (hxy : x ≤ y) :
    mv part of x y = (x * (of - part) + y * part + of / 2) / of ∧ x ≤ mv part of x y ∧ mv part of x y ≤ y := mv_raw hof x0 y1 (avg hxy h0 h1).1 (avg hxy h0 h1).2
theorem mv_dn {part of x y : Int} (hof : 1 ≤ of) (h0 : 0 ≤ part) (h1 : part ≤ of) (y0 : 0 ≤ y) (x1 : x ≤ 65535) (hxy : y ≤ x) :
    mv part of x y = (x * (of - part) + y * part + of / 2) / of ∧ y ≤ mv part of x y ∧ mv part of x y ≤ x := mv_raw hof y0 x1 (avg' hxy h0 h1).1 (avg' hxy h0 h1).2
theorem mv_step {part of x y : Int} (hof : 1 ≤ of) (h0 : 0 ≤ part) (h1 : part < of) (x0 : 0 ≤ x) (x1 : x ≤ 65535) (y0 : 0 ≤ y) (y1 : y ≤ 65535) :
    (x ≤ y → mv part of x y ≤ mv (part + 1) of x y) ∧ (y ≤ x → mv (part + 1) of x y ≤ mv part of x y) := by
  have e1 : x * (of - part) = x * (of - (part + 1)) + x := by rw [show of - part = (of - (part + 1)) + 1 by omega, Int.mul_add, Int.mul_one]
  have e2 : y * (part + 1) = y * part + y := by rw [Int.mul_add, Int.mul_one]
  constructor
  · intro h
    rw [(mv_up hof h0 (by omega) x0 y1 h).1, (mv_up hof (by omega) (by omega) x0 y1 h).1]
    exact Int.ediv_le_ediv (by omega) (by omega)
  · intro h
    rw [(mv_dn hof h0 (by omega) y0 x1 h).1, (mv_dn hof (by omega) (by omega) y0 x1 h).1]
    exact Int.ediv_le_ediv (by omega) (by omega)
theorem mv_range {part of x y : Int} (hof : 1 ≤ of) (h0 : 0 ≤ part) (h1 : part ≤ of) (x0 : 0 ≤ x) (x1 : x ≤ 65535) (y0 : 0 ≤ y) (y1 : y ≤ 65535) : 0 ≤ mv part of x y ∧ mv part of x y ≤ 65535 := by
  by_cases h : x ≤ y
  · have := mv_up hof h0 h1 x0 y1 h; omega
  · have := mv_dn hof h0 h1 y0 x1 (show y ≤ x by omega); omega
theorem div_same {x of : Int} (hof : 1 ≤ of) : (x * of + of / 2) / of = x := by
  have r := round (lo := x) (hi := x) hof (S := x * of) (Int.le_refl _) (Int.le_refl _)
  omega
theorem mv_zero {of x y : Int} (hof : 1 ≤ of) (x0 : 0 ≤ x) (x1 : x ≤ 65535) (y0 : 0 ≤ y) (y1 : y ≤ 65535) : mv 0 of x y = x := by
  have e : (x * (of - 0) + y * 0 + of / 2) / of = x := by rw [Int.sub_zero, Int.mul_zero, Int.add_zero]; exact div_same hof
  by_cases h : x ≤ y
  · rw [(mv_up hof (Int.le_refl 0) (by omega) x0 y1 h).1, e]
  · rw [(mv_dn hof (Int.le_refl 0) (by omega) y0 x1 (show y ≤ x by omega)).1, e]
theorem mv_all {of x y : Int} (hof : 1 ≤ of) (x0 : 0 ≤ x) (x1 : x ≤ 65535) (y0 : 0 ≤ y) (y1 : y ≤ 65535) : mv of of x y = y := by
  have e : (x * (of - of) + y * of + of / 2) / of = y := by rw [Int.sub_self, Int.mul_zero, Int.zero_add]; exact div_same hof
  by_cases h : x ≤ y
  · rw [(mv_up hof (by omega) (Int.le_refl of) x0 y1 h).1, e]
  · rw [(mv_dn hof (by omega) (Int.le_refl of) y0 x1 (show y ≤ x by omega)).1, e]
theorem mv_self {part of x : Int} (hof : 1 ≤ of) (h0 : 0 ≤ part) (h1 : part ≤ of) (x0 : 0 ≤ x) (x1 : x ≤ 65535) : mv part of x x = x := by
  have := mv_up hof h0 h1 x0 x1 (Int.le_refl x); omega
theorem zip_left (f : Int → Int → Int) : ∀ (la lb : List Int), la.length = lb.length → (∀ x ∈ la, ∀ y ∈ lb, f x y = x) → List.zipWith f la lb = la
  | [], _, _, _ => by simp
  | x :: la, [], h, _ => by simp at h
  | x :: la, y :: lb, h, hf => by
    rw [List.zipWith_cons_cons, hf x (by simp) y (by simp), zip_left f la lb (by simpa using h) fun a ha b hb => hf a (by simp [ha]) b (by simp [hb])]
theorem zip_right (f : Int → Int → Int) : ∀ (la lb : List Int), la.length = lb.length → (∀ x ∈ la, ∀ y ∈ lb, f x y = y) → List.zipWith f la lb = lb
  | [], [], _, _ => by simp
  | [], y :: lb, h, _ => by simp at h
  | x :: la, [], h, _ => by simp at h
  | x :: la, y :: lb, h, hf => by
    rw [List.zipWith_cons_cons, hf x (by simp) y (by simp), zip_right f la lb (by simpa using h) fun a ha b hb => hf a (by simp [ha]) b (by simp [hb])]
theorem zip_self (f : Int → Int → Int) : ∀ (la : List Int), (∀ x ∈ la, f x x = x) → List.zipWith f la la = la
  | [], _ => by simp
  | x :: la, hf => by
    rw [List.zipWith_cons_cons, hf x (by simp), zip_self f la fun a ha => hf a (by simp [ha])]
theorem zip_mem {f : Int → Int → Int} : ∀ {la lb : List Int} {v : Int}, v ∈ List.zipWith f la lb → ∃ x ∈ la, ∃ y ∈ lb, v = f x y
  | [], _, v, h => by simp at h
  | _ :: _, [], v, h => by simp at h
  | x :: la, y :: lb, v, h => by
    rw [List.zipWith_cons_cons] at h
    rcases List.mem_cons.mp h with rfl | h
    · exact ⟨x, by simp, y, by simp, rfl⟩
    · obtain ⟨a, ha, b, hb, e⟩ := zip_mem h
      exact ⟨a, by simp [ha], b, by simp [hb], e⟩
theorem min39 (x y : Int) : prun Tryd.prog (Builtin.min_ #[39, 39] 39 #[.int .u16 x, .int .u16 y]) = some (.int .u16 (if y < x then y else x)) := id (by kernel_rfl)
theorem max39 (x y : Int) : prun Tryd.prog (Builtin.max_ #[39, 39] 39 #[.int .u16 x, .int .u16 y]) = some (.int .u16 (if y > x then y else x)) := id (by kernel_rfl)
end Go.Sh.YtacfghffojijaaaDoor
