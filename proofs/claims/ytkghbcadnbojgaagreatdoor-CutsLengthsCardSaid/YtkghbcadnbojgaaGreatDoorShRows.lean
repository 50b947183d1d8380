/- The layer 'Sh': data that came in: rows of anything, structs. No condition but those that each statement names. -/
import Derived.Test.YtkghbcadnbojgaaGreatDoorShEq
import Derived.Deep.Strs
import Derived.DataElems
import Derived.SizedLaws
namespace Go.Sh
open Go Go.RowKit Go.ChangeShapes Go.WideShapes
set_option linter.unusedVariables false
section
variable {H : Type} {enc : TypeId × Value → H} {P : Program} {W : World}
/-- these cells are a datum of type t -/
def Dat (enc : TypeId × Value → H) (P : Program) (W : World) (t : TypeId) (cs : List Value) : Prop := ∃ n y, DataW.trod enc P W 0 (fun _ => true) true n t cs = some y
theorem dat_int {t : TypeId} {k : IntKind} {cs : List Value} (ht : P.underlying t = some (.int k)) (h : Dat enc P W t cs) : ∃ x : Int, cs = [.int k x] ∧ (Lit.int k x).wf = true := by
  obtain ⟨n, y, h⟩ := h
  obtain ⟨x, h1, _, h2⟩ := DataW.trod_int ht h
  exact ⟨x, h1, h2⟩
theorem dat_bool {t : TypeId} {cs : List Value} (ht : P.underlying t = some .bool) (h : Dat enc P W t cs) : ∃ x : Bool, cs = [.bool x] := by
  obtain ⟨n, y, h⟩ := h
  obtain ⟨x, h1, _⟩ := DataW.trod_bool ht h
  exact ⟨x, h1⟩
theorem dat_struct {t : TypeId} {fs : Array Field} {cs : List Value} (ht : P.underlying t = some (.struct fs)) (h : Dat enc P W t cs) : cs.length = P.cellsOf t ∧ ∀ (i : Nat) (f : Field), fs[i]? = some f → Dat enc P W f.type ((cs.drop f.offset).take (P.cellsOf f.type)) := by
  obtain ⟨n, y, h⟩ := h
  obtain ⟨xs, m, _, _, hl, hx, hf⟩ := DataW.trod_struct ht h
  refine ⟨hl, fun i f hi => ?_⟩
  have h1 := hf i f hi
  have h2 : i < xs.length := by rw [hx]; exact (Array.getElem?_eq_some_iff.mp hi).1
  rw [List.getElem?_eq_getElem h2] at h1
  exact ⟨m, _, h1⟩
theorem rd_flat {a : Addr} {s : Nat} {rows : List (List Value)} (hs : ∀ r ∈ rows, r.length = s) (h : ∀ (i : Nat) (r : List Value), rows[i]? = some r → ∀ j, j < s → W.cell? ((a.add (i * s)).add j) = r[j]?) : Rd W (some a) rows.flatten := by
  induction rows generalizing a with
  | nil => exact Rd.nil _ _
  | cons r rest ih =>
    intro j v hj
    rw [List.flatten_cons] at hj
    have hr := hs r (by simp)
    by_cases hlt : j < r.length
    · rw [List.getElem?_append_left hlt] at hj
      have := h 0 r rfl j (by omega)
      rw [Nat.zero_mul, Addr.add_add, Nat.zero_add] at this
      rw [this]; exact hj
    · rw [List.getElem?_append_right (by omega)] at hj
      have := ih (a := a.add s) (fun r hr => hs r (by simp [hr])) (fun i r hi j hj => by
        have := h (i + 1) r (by simpa using hi) j hj
        rw [Addr.add_add] at this ⊢
        rw [Addr.add_add]
        rw [← this]
        congr 2
        rw [Nat.add_mul]; omega) (j - r.length) v hj
      rw [Addr.add_add] at this
      rw [← this]
      congr 2
      omega
theorem dat_slice {t e : TypeId} {cs : List Value} (ht : P.underlying t = some (.slice e)) (h : Dat enc P W t cs) :
    ∃ A len cap, cs = [.slice A len cap] ∧ len ≤ cap ∧ cap ≤ maxLen ∧ (A = none → cap = 0) ∧ ∃ rows : List (List Value), rows.length = len ∧ (∀ r ∈ rows, r.length = P.cellsOf e ∧ Dat enc P W e r) ∧ Rd W A rows.flatten := by
  obtain ⟨n, y, h⟩ := h
  rcases DataW.trod_slice ht h with ⟨rfl, _⟩ | ⟨a, len, cap, elems, rest, m, _, rfl, _, _, hlc, hcm, hel, hi, _, _⟩
  · exact ⟨none, 0, 0, rfl, Nat.le_refl _, by simp [maxLen], fun _ => rfl, [], rfl, by simp, rfl⟩
  · refine ⟨some a, len, cap, rfl, hlc, hcm, fun h => by simp at h, ?_⟩
    have each : ∀ i, i < len → ∃ r, W.cells? 0 (a.add (i * P.cellsOf e)) (P.cellsOf e) = some r ∧ Dat enc P W e r := by
      intro i hlt
      have h1 := hi i hlt
      rw [List.getElem?_eq_getElem (by omega), Option.bind_eq_some_iff] at h1
      obtain ⟨r, h2, h3⟩ := h1
      exact ⟨r, h2, m, _, h3⟩
    have all : ∀ k, k ≤ len → ∃ rows : List (List Value), rows.length = k ∧ (∀ r ∈ rows, Dat enc P W e r) ∧ ∀ (i : Nat) (r : List Value), rows[i]? = some r → W.cells? 0 (a.add (i * P.cellsOf e)) (P.cellsOf e) = some r := by
      intro k
      induction k with
      | zero => exact fun _ => ⟨[], rfl, by simp, by simp⟩
      | succ k ih =>
        intro hk
        obtain ⟨rows, h1, h2, h3⟩ := ih (by omega)
        obtain ⟨r, h4, h5⟩ := each k (by omega)
        refine ⟨rows ++ [r], by simp [h1], ?_, ?_⟩
        · intro q hq
          simp only [List.mem_append, List.mem_singleton] at hq
          rcases hq with hq | rfl
          · exact h2 q hq
          · exact h5
        · intro i q hq
          by_cases hik : i < k
          · rw [List.getElem?_append_left (by omega)] at hq
            exact h3 i q hq
          · have : i = k := by
              have := (List.getElem?_eq_some_iff.mp hq).1
              simp at this
              omega
            subst this
            rw [List.getElem?_append_right (by omega), h1, Nat.sub_self] at hq
            simp at hq
            subst hq
            exact h4
    obtain ⟨rows, h1, h2, h3⟩ := all len (Nat.le_refl _)
    have hlen : ∀ r ∈ rows, r.length = P.cellsOf e := by
      intro r hr
      obtain ⟨i, hi⟩ := List.getElem?_of_mem hr
      exact (World.cells?_some (h3 i r hi)).2.1
    refine ⟨rows, h1, fun r hr => ⟨hlen r hr, h2 r hr⟩, rd_flat hlen fun i r hi j hj => ?_⟩
    exact (World.cells?_some (h3 i r hi)).2.2 j hj
theorem dat_of {t : TypeId} {v : Value} {d : DataW H} {ps : List MemPlace} (h : DataW.Trod enc P W 0 (fun _ => true) true t v d ps) : Dat enc P W t v.cells.toList := by
  obtain ⟨n, h⟩ := h
  exact ⟨n, _, h⟩
theorem choose_rows {α : Type} (f : α → List Value) (Q : α → Prop) {rows : List (List Value)} (h : ∀ r ∈ rows, ∃ q, r = f q ∧ Q q) : ∃ qs : List α, rows = qs.map f ∧ qs.length = rows.length ∧ ∀ q ∈ qs, Q q := by
  induction rows with
  | nil => exact ⟨[], rfl, rfl, by simp⟩
  | cons r rest ih =>
    obtain ⟨qs, h1, h2, h3⟩ := ih fun r hr => h r (by simp [hr])
    obtain ⟨q, h4, h5⟩ := h r (by simp)
    refine ⟨q :: qs, by simp [h1, h4], by simp [h2], ?_⟩
    intro p hp
    simp only [List.mem_cons] at hp
    rcases hp with rfl | hp
    · exact h5
    · exact h3 p hp
/-- bytes that came in -/
theorem dat_bytes {t e : TypeId} {cs : List Value} (ht : P.underlying t = some (.slice e)) (he : P.underlying e = some (.int .u8)) (hc : P.cellsOf e = 1) (h : Dat enc P W t cs) :
    ∃ (A : Option Addr) (n c : Nat) (l : List UInt8), cs = [.slice A n c] ∧ l.length = n ∧ n ≤ c ∧ c ≤ maxLen ∧ (A = none → c = 0) ∧ Rd W A (bv l) := by
  obtain ⟨A, n, c, rfl, h1, h2, h3, rows, h4, h5, h6⟩ := dat_slice ht h
  obtain ⟨l, rfl, hl, _⟩ := choose_rows (fun x : UInt8 => [Value.int .u8 x.toNat]) (fun _ => True) (rows := rows) (by
    intro r hr
    obtain ⟨_, hd⟩ := h5 r hr
    obtain ⟨x, rfl, hw⟩ := dat_int he hd
    refine ⟨UInt8.ofNat x.toNat, ?_, trivial⟩
    simp [Lit.wf, IntKind.min, IntKind.max, IntKind.signed, IntKind.bits] at hw
    simp
    omega)
  refine ⟨A, n, c, l, rfl, hl.trans h4, h1, h2, h3, ?_⟩
  have e : (l.map fun x : UInt8 => [Value.int .u8 x.toNat]).flatten = bv l := by
    clear h4 h5 h6 hl
    induction l with
    | nil => rfl
    | cons x r ih => simp [bv] at ih ⊢; exact ih
  rwa [e] at h6
/-- ints that came in -/
theorem dat_ints {t e : TypeId} {k : IntKind} {cs : List Value} (ht : P.underlying t = some (.slice e)) (he : P.underlying e = some (.int k)) (h : Dat enc P W t cs) :
    ∃ (A : Option Addr) (n c : Nat) (l : List Int), cs = [.slice A n c] ∧ l.length = n ∧ n ≤ c ∧ c ≤ maxLen ∧ (A = none → c = 0) ∧ (∀ x ∈ l, (Lit.int k x).wf = true) ∧ Rd W A (l.map (Value.int k)) := by
  obtain ⟨A, n, c, rfl, h1, h2, h3, rows, h4, h5, h6⟩ := dat_slice ht h
  obtain ⟨l, rfl, hl, hw⟩ := choose_rows (fun x : Int => [Value.int k x]) (fun x => (Lit.int k x).wf = true) (rows := rows) (by
    intro r hr
    obtain ⟨_, hd⟩ := h5 r hr
    exact dat_int he hd)
  refine ⟨A, n, c, l, rfl, hl.trans h4, h1, h2, h3, hw, ?_⟩
  have e : (l.map fun x : Int => [Value.int k x]).flatten = l.map (Value.int k) := by
    clear h4 h5 h6 hl hw
    induction l with
    | nil => rfl
    | cons x r ih => simpa using ih
  rwa [e] at h6
theorem sized_rows {base : Nat} {spare : Nat → Bool} {held : Bool} {t e : TypeId} {a : Option Addr} {len cap : Nat} {d : DataW H} {ps : List MemPlace} {ts : List TypeId} {ds : List (DataW H)} {j : Nat}
    (hsz : (DataW.weightsEach P ts ds).all (· ≤ reachBytes) = true) (ht : ts[j]? = some t) (hd : ds[j]? = some d) (hu : P.underlying t = some (.slice e)) {B : Nat} (hB : P.bytesOf e = B)
    (h : DataW.Trod enc P W base spare held t (.slice a len cap) d ps) : len * B ≤ 140737488351232 := by
  obtain ⟨fuel, hf⟩ := h
  rcases DataW.trod_slice hu hf with ⟨hcs, _⟩ | ⟨x, l, c, elems, rest, m, _, hcs, hx, _, _, _, hel, _, _, _⟩
  · have h0 : len = 0 := by simp [Value.cells] at hcs; exact hcs.2.1
    subst h0
    omega
  · have hcs' : len = l := by simp [Value.cells] at hcs; exact hcs.2.1
    subst hcs'
    obtain ⟨rfl, _⟩ := Prod.mk.inj hx
    have z := sized_slice hsz ht hd hu
    rw [hB] at z
    refine Nat.le_trans (Nat.mul_le_mul_right _ ?_) z
    simp
    omega
end
end Go.Sh
