/- The layer 'Sh': data that came in, of a bulk that is bounded. No condition but those that each law names. -/
import Derived.Test.YtokpgallfmpmkaaShRows
namespace Go.Sh
open Go
set_option linter.unusedVariables false
/-- a measure of what is read -/
structure Bulk (H : Type) where
  f : DataW H → Nat
  one : ∀ d, 1 ≤ f d
  elem : ∀ elems spare d, d ∈ elems → f d ≤ f (.slice elems spare)
  len : ∀ elems spare, elems.length ≤ f (.slice elems spare)
  part : ∀ parts d, d ∈ parts → f d ≤ f (.agg parts)
  str : ∀ b : List UInt8, b.length ≤ f (.lit (.string b))
  ptr : ∀ d, f d ≤ f (.ptr d)
section
variable {H : Type} {enc : TypeId × Value → H} {P : Program} {W : World} {μ : Bulk H} {B : Nat}
def DatB (μ : Bulk H) (B : Nat) (enc : TypeId × Value → H) (P : Program) (W : World) (t : TypeId) (cs : List Value) : Prop := ∃ n y, DataW.trod enc P W 0 (fun _ => true) true n t cs = some y ∧ μ.f y.1 ≤ B
theorem DatB.dat {t : TypeId} {cs : List Value} (h : DatB μ B enc P W t cs) : Dat enc P W t cs := by
  obtain ⟨n, y, h, _⟩ := h
  exact ⟨n, y, h⟩
theorem datB_of {t : TypeId} {v : Value} {d : DataW H} {ps : List MemPlace} (h : DataW.Trod enc P W 0 (fun _ => true) true t v d ps) (hb : μ.f d ≤ B) : DatB μ B enc P W t v.cells.toList := by
  obtain ⟨n, h⟩ := h
  exact ⟨n, _, h, hb⟩
theorem datB_struct {t : TypeId} {fs : Array Field} {cs : List Value} (ht : P.underlying t = some (.struct fs)) (h : DatB μ B enc P W t cs) : cs.length = P.cellsOf t ∧ ∀ (i : Nat) (f : Field), fs[i]? = some f → DatB μ B enc P W f.type ((cs.drop f.offset).take (P.cellsOf f.type)) := by
  obtain ⟨n, y, h, hb⟩ := h
  obtain ⟨xs, m, _, hy, hl, hx, hf⟩ := DataW.trod_struct ht h
  refine ⟨hl, fun i f hi => ?_⟩
  have h1 := hf i f hi
  have h2 : i < xs.length := by rw [hx]; exact (Array.getElem?_eq_some_iff.mp hi).1
  rw [List.getElem?_eq_getElem h2] at h1
  refine ⟨m, _, h1, Nat.le_trans (μ.part (xs.map (·.1)) _ (List.mem_map.mpr ⟨_, List.getElem_mem h2, rfl⟩)) ?_⟩
  rw [hy] at hb
  exact hb
theorem datB_slice {t e : TypeId} {cs : List Value} (ht : P.underlying t = some (.slice e)) (h : DatB μ B enc P W t cs) :
    ∃ A len cap, cs = [.slice A len cap] ∧ len ≤ cap ∧ cap ≤ maxLen ∧ len ≤ B ∧ (A = none → cap = 0) ∧ ∃ rows : List (List Value), rows.length = len ∧ (∀ r ∈ rows, r.length = P.cellsOf e ∧ DatB μ B enc P W e r) ∧ Rd W A rows.flatten := by
  obtain ⟨n, y, h, hb⟩ := h
  rcases DataW.trod_slice ht h with ⟨rfl, _⟩ | ⟨a, len, cap, elems, rest, m, _, rfl, hy, _, hlc, hcm, hel, hi, _, _⟩
  · exact ⟨none, 0, 0, rfl, Nat.le_refl _, by simp [maxLen], Nat.zero_le _, fun _ => rfl, [], rfl, by simp, rfl⟩
  · rw [hy] at hb
    have hlB : len ≤ B := Nat.le_trans (by have := μ.len (elems.map (·.1)) (rest.map (·.1)); rw [List.length_map, hel] at this; exact this) hb
    refine ⟨some a, len, cap, rfl, hlc, hcm, hlB, fun h => by simp at h, ?_⟩
    have each : ∀ i, i < len → ∃ r, W.cells? 0 (a.add (i * P.cellsOf e)) (P.cellsOf e) = some r ∧ DatB μ B enc P W e r := by
      intro i hlt
      have h1 := hi i hlt
      rw [List.getElem?_eq_getElem (by omega), Option.bind_eq_some_iff] at h1
      obtain ⟨r, h2, h3⟩ := h1
      exact ⟨r, h2, m, _, h3, Nat.le_trans (μ.elem (elems.map (·.1)) (rest.map (·.1)) _ (List.mem_map.mpr ⟨_, List.getElem_mem (by omega), rfl⟩)) hb⟩
    have all : ∀ k, k ≤ len → ∃ rows : List (List Value), rows.length = k ∧ (∀ r ∈ rows, DatB μ B enc P W e r) ∧ ∀ (i : Nat) (r : List Value), rows[i]? = some r → W.cells? 0 (a.add (i * P.cellsOf e)) (P.cellsOf e) = some r := by
      intro k
      induction k with
      | zero => exact fun _ => ⟨[], rfl, by simp, by simp⟩
      | succ k ih =>
        intro hk
        obtain ⟨rows, h1, h2, h3⟩ := ih (by omega)
        obtain ⟨r, h4, h5⟩ := each k (by omega)
        refine ⟨rows ++ [r], by simp [h1], ?_, ?_⟩
        · intro q hq
          simp only [List.mem_append, List.mem_singleton] at hq
          rcases hq with hq | rfl
          · exact h2 q hq
          · exact h5
        · intro i q hq
          by_cases hik : i < k
          · rw [List.getElem?_append_left (by omega)] at hq
            exact h3 i q hq
          · have : i = k := by
              have := (List.getElem?_eq_some_iff.mp hq).1
              simp at this
              omega
            subst this
            rw [List.getElem?_append_right (by omega), h1, Nat.sub_self] at hq
            simp at hq
            subst hq
            exact h4
    obtain ⟨rows, h1, h2, h3⟩ := all len (Nat.le_refl _)
    have hlen : ∀ r ∈ rows, r.length = P.cellsOf e := by
      intro r hr
      obtain ⟨i, hi⟩ := List.getElem?_of_mem hr
      exact (World.cells?_some (h3 i r hi)).2.1
    refine ⟨rows, h1, fun r hr => ⟨hlen r hr, h2 r hr⟩, rd_flat hlen fun i r hi j hj => ?_⟩
    exact (World.cells?_some (h3 i r hi)).2.2 j hj
theorem datB_ints {t e : TypeId} {k : IntKind} {cs : List Value} (ht : P.underlying t = some (.slice e)) (he : P.underlying e = some (.int k)) (h : DatB μ B enc P W t cs) :
    ∃ (A : Option Addr) (n c : Nat) (l : List Int), cs = [.slice A n c] ∧ l.length = n ∧ n ≤ B ∧ n ≤ c ∧ c ≤ maxLen ∧ (A = none → c = 0) ∧ (∀ x ∈ l, (Lit.int k x).wf = true) ∧ Rd W A (l.map (Value.int k)) := by
  obtain ⟨A, n, c, l, rfl, h1, h2, h3, h4, h5, h6⟩ := dat_ints ht he h.dat
  obtain ⟨A', n', c', e', _, _, hB, _⟩ := datB_slice ht h
  cases e'
  exact ⟨A, n, c, l, rfl, h1, hB, h2, h3, h4, h5, h6⟩
end
end Go.Sh
