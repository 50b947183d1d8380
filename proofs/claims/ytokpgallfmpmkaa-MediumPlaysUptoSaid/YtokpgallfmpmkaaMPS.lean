/- MediumPlays: the walk: of a script that came in. Conditions: those of each statement. -/
import Derived.Test.YtokpgallfmpmkaaMPR
import Derived.Test.YtokpgallfmpmkaaShBulk
import Derived.Test.YtokpgallfmpmkaaRows
import Derived.Test.YtokpgallfmpmkaaShLaid
namespace Go.Sh.Ytokpgallfmpmkaa
open Go Go.Proofs Go.RowKit Go.ChangeShapes Go.WideShapes
open Go.Proofs.Ytokpgallfmpmkaa
set_option linter.unusedVariables false
set_option linter.unusedSimpArgs false
set_option maxRecDepth 100000
theorem bulk_one {H : Type} (d : DataW H) : 1 ≤ Rows.uptoBulk d := by
  cases d with
  | lit l => cases l <;> simp [Rows.uptoBulk]
  | _ => simp [Rows.uptoBulk]
theorem bulk_part {H : Type} {d : DataW H} {l : List (DataW H)} (h : d ∈ l) : Rows.uptoBulk d ≤ Rows.uptoBulkAll l := by
  induction l with
  | nil => cases h
  | cons x r ih =>
    simp only [Rows.uptoBulkAll]
    cases List.mem_cons.1 h with
    | inl e => subst e; omega
    | inr e => have := ih e; omega
theorem bulk_len {H : Type} (l : List (DataW H)) : l.length ≤ Rows.uptoBulkAll l := by
  induction l with
  | nil => simp [Rows.uptoBulkAll]
  | cons x r ih => have := bulk_one x; simp only [Rows.uptoBulkAll, List.length_cons]; omega
def bulkMu (H : Type) : Bulk H where
  f := Rows.uptoBulk
  one := bulk_one
  elem := fun e s d h => by have := bulk_part h; simp only [Rows.uptoBulk]; omega
  len := fun e s => by have := bulk_len e; simp only [Rows.uptoBulk]; omega
  part := fun p d h => by have := bulk_part h; simp only [Rows.uptoBulk]; omega
  str := fun b => by simp [Rows.uptoBulk]
  ptr := fun d => by simp [Rows.uptoBulk]
theorem datB_bytes {H : Type} {enc : TypeId × Value → H} {P : Program} {W : World} {μ : Bulk H} {B : Nat} {t e : TypeId} {cs : List Value} (ht : P.underlying t = some (.slice e)) (he : P.underlying e = some (.int .u8)) (hc : P.cellsOf e = 1) (h : DatB μ B enc P W t cs) :
    ∃ (A : Option Addr) (c : Nat) (l : List UInt8), cs = [.slice A l.length c] ∧ l.length ≤ B ∧ l.length ≤ c ∧ (A = none → c = 0) ∧ Rd W A (bv l) := by
  obtain ⟨A, n, c, l, rfl, h1, h2, h3, h4, h5⟩ := dat_bytes ht he hc h.dat
  obtain ⟨A', n', c', e', _, _, hB, _⟩ := datB_slice ht h
  cases e'
  subst h1
  exact ⟨A, c, l, rfl, hB, h2, h4, h5⟩
theorem plays_walk (W : World) {H : Type} {enc : TypeId × Value → H} (A : Option Addr) (n c : Nat) {d : DataW H} {p : List MemPlace} (h : DataW.Trod enc Try.prog W 0 (fun _ => true) true 53 (.slice A n c) d p) (y : n * 56 ≤ 140737488351232)
    (hb : Rows.uptoSmall H [d] = true) (hL : laidMetH Try.prog Rows.mediumPlaysUptoRow.laid W) :
    Calls Try.prog 6 #[.slice A n c] W fun e w' => e = .returned (.bool true) ∧ Below W.heap.size W w' := by
  have hd : Rows.uptoBulk d ≤ 1048576 := by
    have : Rows.uptoBulkAll [d] ≤ 1048576 := by simpa [Rows.uptoSmall] using hb
    simp only [Rows.uptoBulkAll] at this
    omega
  have z := datB_of (μ := bulkMu H) h hd
  obtain ⟨A', len, cap, he, _, _, hnB, _, rows, h1, h2, h3⟩ := datB_slice Try.underlying53 z
  have he' : [Value.slice A n c] = [.slice A' len cap] := he
  simp only [List.cons.injEq, Value.slice.injEq, and_true] at he'
  obtain ⟨rfl, rfl, rfl⟩ := he'
  obtain ⟨q, rfl, hq, hw⟩ := choose_rows Opd.cs (fun x => x.ok W) (rows := rows) (by
    intro r hr
    obtain ⟨hl, hd⟩ := h2 r hr
    obtain ⟨_, hs⟩ := datB_struct Try.underlying68 hd
    have hl5 : r.length = 5 := hl.trans (by kernel_rfl)
    match r, hl5 with
    | [r0, r1, r2, r3, r4], _ =>
      obtain ⟨k, e0, w0⟩ := dat_int Try.underlying3 (hs 0 _ rfl).dat
      obtain ⟨x, e1, w1⟩ := dat_int Try.underlying3 (hs 1 _ rfl).dat
      obtain ⟨y, e2, w2⟩ := dat_int Try.underlying3 (hs 2 _ rfl).dat
      obtain ⟨b, e3⟩ := dat_bool Try.underlying4 (hs 3 _ rfl).dat
      obtain ⟨A4, c4, l, e4, f1, f2, f3, f4⟩ := datB_bytes Try.underlying22 Try.underlying5 (by kernel_rfl) (hs 4 _ rfl)
      have c1 : Try.prog.cellsOf 3 = 1 := by kernel_rfl
      have c2 : Try.prog.cellsOf 4 = 1 := by kernel_rfl
      have c3 : Try.prog.cellsOf 22 = 1 := by kernel_rfl
      simp [c1, c2, c3] at e0 e1 e2 e3 e4
      subst e0; subst e1; subst e2; subst e3; subst e4
      exact ⟨⟨k, x, y, b, A4, c4, l⟩, rfl, f4, f3, f2, by simp only; omega, wf_i64 w1, wf_i64 w2⟩)
  rw [← List.flatMap_def] at h3
  have hlen : q.length = n := hq.trans h1
  subst hlen
  obtain ⟨w', h, g⟩ := plays_ok (c := c) h3 hw (by omega)
  exact (calls_of_run (by kernel_rfl) mu_ok h).mono fun e v ⟨h1, h2⟩ => ⟨h1, h2 ▸ below_of_grown g⟩
end Go.Sh.Ytokpgallfmpmkaa
