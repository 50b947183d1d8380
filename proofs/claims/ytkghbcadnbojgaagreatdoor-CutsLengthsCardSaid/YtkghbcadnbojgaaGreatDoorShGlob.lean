/- The layer 'Sh': what package-level variables that a row lists hold, cell by cell: for the evaluator of closed runs. Conditions: those of each statement. -/
import Derived.Test.YtkghbcadnbojgaaGreatDoorShEv7
import Derived.LaidLaws
import Derived.OpenShut
namespace Go.Sh.Ev
open Go Go.RowKit
set_option linter.unusedVariables false
set_option linter.unusedSimpArgs false
mutual
def flatD : DataW Unit → Option (List Value)
  | .lit (.int k n) => some [.int k n]
  | .lit (.bool b) => some [.bool b]
  | .lit (.string bs) => some [.string ⟨bs.toArray⟩]
  | .agg l => flatL l
  | _ => none
def flatL : List (DataW Unit) → Option (List Value)
  | [] => some []
  | d :: r => (flatD d).bind fun x => (flatL r).bind fun y => some (x ++ y)
end
section
variable (P : Program)
/-- fields beside one another from a place on; where they end -/
def fieldsEnd (ok : TypeId → Bool) : List Field → Nat → Option Nat
  | [], o => some o
  | f :: r, o => bif Nat.beq f.offset o && ok f.type then fieldsEnd ok r (o + P.cellsOf f.type) else none
/-- a type of numbers, bools, strings, one beside the other -/
def contig : Nat → TypeId → Bool
  | 0, _ => false
  | n + 1, t => match P.underlying t with
    | some (.int _) | some .bool | some .string => true
    | some (.array k e) => contig n e && Nat.beq (P.cellsOf t) (k * P.cellsOf e)
    | some (.struct fs) => fieldsEnd P (contig n) fs.toList 0 == some (P.cellsOf t)
    | _ => false
variable {P}
theorem chunks_flat {c : Nat} : ∀ (xs : List (List Value)) (cs : List Value), cs.length = xs.length * c → (∀ i, i < xs.length → some ((cs.drop (i * c)).take c) = xs[i]?) → cs = xs.flatten
  | [], cs, h, _ => by simp at h; subst h; rfl
  | x :: r, cs, h, hx => by
    have h0 := hx 0 (by simp)
    simp at h0
    simp only [List.length_cons, Nat.add_mul, Nat.one_mul] at h
    have := chunks_flat (c := c) r (cs.drop c) (by simp; omega) fun i hi => by
      have := hx (i + 1) (by simp; omega)
      simp only [List.getElem?_cons_succ] at this
      rw [List.drop_drop, show c + i * c = (i + 1) * c by rw [Nat.add_mul]; omega]
      exact this
    rw [List.flatten_cons, ← this, ← h0, List.take_append_drop]
theorem flatL_some : ∀ {l : List (DataW Unit)} {vs : List Value}, flatL l = some vs → ∃ xs : List (List Value), xs.length = l.length ∧ vs = xs.flatten ∧ ∀ (i : Nat) (d : DataW Unit), l[i]? = some d → ∃ x, xs[i]? = some x ∧ flatD d = some x
  | [], vs, h => by simp only [flatL, Option.some.injEq] at h; subst h; exact ⟨[], rfl, rfl, fun i d h => by simp at h⟩
  | d :: r, vs, h => by
    simp only [flatL, Option.bind_eq_some_iff, Option.some.injEq] at h
    obtain ⟨x, h1, y, h2, rfl⟩ := h
    obtain ⟨xs, h3, rfl, h4⟩ := flatL_some h2
    refine ⟨x :: xs, by simp [h3], rfl, fun i d' hi => ?_⟩
    cases i with
    | zero => simp at hi; subst hi; exact ⟨x, rfl, h1⟩
    | succ i => simp at hi; simpa using h4 i d' hi
theorem fields_flat {W : World} {enc : TypeId × Value → Unit} {base : Nat} {spare : Nat → Bool} {held : Bool} {ok : TypeId → Bool} {m : Nat} {cs : List Value} (hok : ∀ t cs d ps vs, DataW.trod enc P W base spare held m t cs = some (d, ps) → ok t = true → flatD d = some vs → cs = vs) :
    ∀ (fs : List Field) (o e : Nat) (xs : List (DataW Unit × List MemPlace)) (vs : List Value), fieldsEnd P ok fs o = some e → xs.length = fs.length →
      (∀ (i : Nat) (f : Field), fs[i]? = some f → DataW.trod enc P W base spare held m f.type ((cs.drop f.offset).take (P.cellsOf f.type)) = xs[i]?) → flatL (xs.map (·.1)) = some vs → o ≤ e ∧ (cs.drop o).take (e - o) = vs
  | [], o, e, xs, vs, h, hl, hx, hv => by
    simp only [fieldsEnd, Option.some.injEq] at h
    subst h
    have : xs = [] := by simpa using hl
    subst this
    simp only [List.map_nil, flatL, Option.some.injEq] at hv
    subst hv
    simp
  | f :: r, o, e, xs, vs, h, hl, hx, hv => by
    simp only [fieldsEnd] at h
    cases hb : (Nat.beq f.offset o && ok f.type) with
    | false => rw [hb] at h; cases h
    | true =>
      rw [hb] at h
      simp only [cond_true] at h
      simp only [Bool.and_eq_true, Nat.beq_eq] at hb
      obtain ⟨ho, hf⟩ := hb
      cases xs with
      | nil => simp at hl
      | cons x xs =>
        simp only [List.map_cons, flatL, Option.bind_eq_some_iff, Option.some.injEq] at hv
        obtain ⟨a, h1, b, h2, rfl⟩ := hv
        have h3 := hx 0 f rfl
        simp only [List.getElem?_cons_zero] at h3
        have h4 := hok _ _ _ _ _ h3 hf h1
        obtain ⟨h5, h6⟩ := fields_flat hok r _ e xs b h (by simpa using hl) (fun i g hi => by simpa using hx (i + 1) g (by simpa using hi)) h2
        refine ⟨by omega, ?_⟩
        rw [ho] at h4
        rw [← h4, ← h6, show e - o = P.cellsOf f.type + (e - (o + P.cellsOf f.type)) by omega, List.take_add, List.drop_drop]
theorem flat_ok {W : World} {enc : TypeId × Value → Unit} {base : Nat} {spare : Nat → Bool} {held : Bool} : ∀ (n m : Nat) (t : TypeId) (cs : List Value) (d : DataW Unit) (ps : List MemPlace) (vs : List Value), DataW.trod enc P W base spare held m t cs = some (d, ps) → contig P n t = true → flatD d = some vs → cs = vs := by
  intro n
  induction n with
  | zero => intro m t cs d ps vs _ h; cases h
  | succ n ih =>
    intro m t cs d ps vs h hc hv
    unfold contig at hc
    split at hc
    · rename_i k hu
      obtain ⟨z, rfl, e, _⟩ := DataW.trod_int hu h
      cases e
      simpa [flatD] using hv
    · rename_i hu
      obtain ⟨z, rfl, e⟩ := DataW.trod_bool hu h
      cases e
      simpa [flatD] using hv
    · rename_i hu
      obtain ⟨z, rfl, e, _⟩ := DataW.trod_string hu h
      cases e
      simpa [flatD] using hv
    · rename_i k e hu
      simp only [Bool.and_eq_true, Nat.beq_eq] at hc
      obtain ⟨c1, c2⟩ := hc
      obtain ⟨xs, m', _, ex, hl, hlen, hel⟩ := DataW.trod_array hu h
      cases ex
      simp only [flatD] at hv
      obtain ⟨ys, y1, rfl, y2⟩ := flatL_some hv
      simp only [List.length_map] at y1
      refine chunks_flat (c := P.cellsOf e) ys cs (by rw [hl, c2, y1, hlen]) fun i hi => ?_
      have hi' : i < xs.length := by omega
      obtain ⟨x, x1, x2⟩ := y2 i _ (by rw [List.getElem?_map, List.getElem?_eq_getElem hi']; rfl)
      have := hel i (by omega)
      rw [List.getElem?_eq_getElem hi'] at this
      rw [x1, ih _ _ _ _ _ _ this c1 x2]
    · rename_i fs hu
      obtain ⟨xs, m', _, ex, hl, hlen, hel⟩ := DataW.trod_struct hu h
      cases ex
      simp only [flatD] at hv
      have hc' : fieldsEnd P (contig P n) fs.toList 0 = some (P.cellsOf t) := by simpa using hc
      obtain ⟨_, h2⟩ := fields_flat (cs := cs) (fun t cs d ps vs a b c => ih m' t cs d ps vs a b c) fs.toList 0 _ xs vs hc' (by simpa using hlen) (fun i f hi => hel i f (by simpa using hi)) hv
      simp only [List.drop_zero, Nat.sub_zero] at h2
      rw [← h2, ← hl, List.take_length]
    · cases hc
theorem laid_mem {W : World} : ∀ {l : List (String × DataW Unit)} {ps : List MemPlace}, DataW.LaidVars P W l ps → ∀ {x : String × DataW Unit}, x ∈ l →
    ∃ g t cs fuel p, P.globalNamed x.1 = some g ∧ (P.globals[g]?).map (·.type) = some t ∧ W.var? P x.1 = some cs ∧ DataW.trod (fun _ => ()) P W 0 (fun _ => true) false fuel t cs.toList = some (x.2, p)
  | [], ps, _, x, hx => by cases hx
  | y :: r, ps, h, x, hx => by
    obtain ⟨g, t, cs, fuel, p, q, h1, h2, h3, h4, h5, _⟩ := h
    rcases List.mem_cons.mp hx with rfl | hx
    · exact ⟨g, t, cs, fuel, p, h1, h2, h3, h4⟩
    · exact laid_mem h5 hx
/-- the check of one listed variable -/
def globB (P : Program) (laid : List (String × DataW Unit)) (n : String) (b : Nat) (d : DataW Unit) (vs : List Value) : Prop :=
  (n, d) ∈ laid ∧ d.handleName? = none ∧ P.globalNamed n = some b ∧ (∃ t, (P.globals[b]?).map (·.type) = some t ∧ contig P 5 t = true) ∧ flatD d = some vs
theorem cells_of_laid {laid : List (String × DataW Unit)} {W : World} (h : laidMetH P laid W) {n : String} {b : Nat} {d : DataW Unit} {vs : List Value} (hb : globB P laid n b d vs) : ∀ i V, vs[i]? = some V → W.cell? ⟨b, i, none⟩ = some V := by
  obtain ⟨b1, b2, b3, ⟨t, b4, b5⟩, b6⟩ := hb
  have key : ∃ l, laidMet P l W ∧ (n, d) ∈ l := by
    unfold laidMetH at h
    split at h
    · exact ⟨_, h, b1⟩
    · exact ⟨_, h.1, List.mem_filter.mpr ⟨b1, by simp [b2]⟩⟩
  obtain ⟨l, ⟨ps, h1, _⟩, h2⟩ := key
  obtain ⟨g, t', cs, fuel, p, k1, k2, k3, k4⟩ := laid_mem h1 h2
  rw [b3] at k1
  cases k1
  rw [b4] at k2
  cases k2
  have := flat_ok 5 _ _ _ _ _ _ k4 b5 b6
  intro i V hi
  rw [World.var?_cell b3 k3, ← Array.getElem?_toList, this]
  exact hi
end
end Go.Sh.Ev
