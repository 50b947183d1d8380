/- The layer 'Sh', fifth part: arguments that are slices of whole numbers. No condition but those that each statement names. -/
import Derived.Test.YtkghbcadnbojgaaGreatDoorShLaws
import Derived.SizedLaws
import Derived.ChangeSlices
namespace Go.Sh
open Go Go.RowKit Go.ChangeShapes Go.WideShapes

/-- a slice of whole numbers that came in: what it reads up to its capacity -/
def IsRow (k : IntKind) (w : World) (a : Option Addr) (len cap : Nat) (zs : List Int) : Prop :=
  (a = none ∧ len = 0 ∧ cap = 0 ∧ zs = []) ∨
  ∃ x, a = some x ∧ len ≤ cap ∧ cap ≤ maxLen ∧ zs.length = cap ∧ (∀ i, i < zs.length → w.cell? (x.add i) = some (.int k (zs.getD i 0))) ∧ ∀ n ∈ zs, (Lit.int k n).wf = true

theorem sized_ints {H : Type} {enc : TypeId × Value → H} {P : Program} {W : World} {base : Nat} {spare : Nat → Bool} {held : Bool} {t e : TypeId} {k : IntKind} {a : Option Addr} {len cap : Nat} {d : DataW H} {ps : List MemPlace} {ts : List TypeId} {ds : List (DataW H)} {j : Nat}
    (hsz : (DataW.weightsEach P ts ds).all (· ≤ reachBytes) = true) (ht : ts[j]? = some t) (hd : ds[j]? = some d) (hu : P.underlying t = some (.slice e)) (he : P.underlying e = some (.int k)) (hc : P.cellsOf e = 1) {B : Nat} (hB : P.bytesOf e = B)
    (h : DataW.Trod enc P W base spare held t (.slice a len cap) d ps) : len * B ≤ 140737488351232 := by
  obtain ⟨fuel, hf⟩ := h
  rcases open_ints hu he hc hf with ⟨hcs, _⟩ | ⟨x, l, c, zs, hcs, _, hl, _, hz, hx, _, _⟩
  · have h0 : len = 0 := by simp [Value.cells] at hcs; exact hcs.2.1
    subst h0
    omega
  · have hcs' : x = x ∧ a = some x ∧ len = l ∧ cap = c := by simp [Value.cells] at hcs; exact ⟨rfl, hcs.1, hcs.2.1, hcs.2.2⟩
    obtain ⟨_, rfl, rfl, rfl⟩ := hcs'
    obtain ⟨rfl, _⟩ := Prod.mk.inj hx
    have z := sized_slice hsz ht hd hu
    rw [hB] at z
    have hle : len ≤ (lits (H := H) k (zs.take len)).length + (lits (H := H) k (zs.drop len)).length := by
      have hz' : len ≤ zs.length := by rw [hz]; split <;> omega
      simp [lits]
      omega
    exact Nat.le_trans (Nat.mul_le_mul_right _ hle) z

theorem IsRow.len {k : IntKind} {w : World} {a : Option Addr} {len cap : Nat} {zs : List Int} (h : IsRow k w a len cap zs) : len ≤ zs.length := by
  rcases h with ⟨_, rfl, _, rfl⟩ | ⟨x, _, h1, _, h2, _⟩
  · simp
  · omega
theorem IsRow.rd {k : IntKind} {w : World} {a : Option Addr} {len cap : Nat} {zs : List Int} (h : IsRow k w a len cap zs) : Rd w a ((zs.take len).map (Value.int k)) := by
  rcases h with ⟨rfl, rfl, _, rfl⟩ | ⟨x, rfl, h1, _, h2, h3, _⟩
  · rfl
  · intro j v hj
    rw [List.getElem?_map, List.getElem?_take] at hj
    split at hj
    · rename_i hjl
      have hlt : j < zs.length := by omega
      rw [List.getElem?_eq_getElem hlt] at hj
      simp only [Option.map_some, Option.some.injEq] at hj
      subst hj
      have := h3 j hlt
      simpa [List.getD_eq_getElem?_getD, List.getElem?_eq_getElem hlt] using this
    · cases hj
theorem IsRow.wf {k : IntKind} {w : World} {a : Option Addr} {len cap : Nat} {zs : List Int} (h : IsRow k w a len cap zs) : ∀ n ∈ zs, (Lit.int k n).wf = true := by
  rcases h with ⟨_, _, _, rfl⟩ | ⟨x, _, _, _, _, _, h⟩
  · simp
  · exact h
theorem IsRow.nil {k : IntKind} {w : World} {a : Option Addr} {len cap : Nat} {zs : List Int} (h : IsRow k w a len cap zs) : a = none → cap = 0 := by
  rcases h with ⟨_, _, h, _⟩ | ⟨x, hx, _⟩
  · exact fun _ => h
  · intro h; rw [h] at hx; cases hx
theorem IsRow.le {k : IntKind} {w : World} {a : Option Addr} {len cap : Nat} {zs : List Int} (h : IsRow k w a len cap zs) : len ≤ cap ∧ cap ≤ maxLen := by
  rcases h with ⟨_, rfl, rfl, _⟩ | ⟨x, _, h1, h2, _⟩
  · exact ⟨Nat.le_refl _, by simp [maxLen]⟩
  · exact ⟨h1, h2⟩
/-- element i, where memory that was there is as it was -/
theorem IsRow.get {k : IntKind} {w : World} {a : Option Addr} {len cap : Nat} {zs : List Int} (h : IsRow k w a len cap zs) {w' : World} (hg : w.grownBy w' none) {i : Nat} (hi : i < len) :
    ∃ x, a = some x ∧ w'.cell? (x.add i) = some (.int k (zs.getD i 0)) ∧ (Lit.int k (zs.getD i 0)).wf = true := by
  have hr := h.rd.grown hg
  have hl := h.len
  cases a with
  | none =>
    rcases h with ⟨_, h, _⟩ | ⟨x, hx, _⟩
    · omega
    · cases hx
  | some x =>
    have hlt : i < zs.length := by omega
    refine ⟨x, rfl, ?_, h.wf _ (by simp [List.getD_eq_getElem?_getD, List.getElem?_eq_getElem hlt])⟩
    have := hr i (.int k (zs.getD i 0)) (by simp [hi, List.getD_eq_getElem?_getD, List.getElem?_eq_getElem hlt])
    exact this
end Go.Sh
