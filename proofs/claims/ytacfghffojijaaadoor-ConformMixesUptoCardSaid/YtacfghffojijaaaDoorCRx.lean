/- ConformMixes, first part: the lists that came out are written over, grown, and looked at. Conditions: those of each statement. -/
import Derived.Test.YtacfghffojijaaaDoorCQ
import Derived.Test.YtacfghffojijaaaDoorCMx
import Derived.Test.YtacfghffojijaaaDoorShFull
import Derived.Test.YtacfghffojijaaaDoorCPx
import Derived.Test.YtacfghffojijaaaDoorShBulk
namespace Go.Sh.YtacfghffojijaaaDoor
open Go Go.Proofs Go.RowKit
set_option linter.unusedVariables false
set_option linter.unusedSimpArgs false
set_option maxRecDepth 100000
def ku (i : Nat) : Int := IntKind.u16.wrap (IntKind.i64.wrap (5000 + (i : Int)))
theorem ku_eq (i : Nat) : IntKind.u16.wrap (IntKind.i64.wrap (5000 + (i : Int))) = ku i := id rfl
def Caps (q : List (Value × List Value)) : Prop := ∀ p ∈ q, p.2.length ≤ 140737488355000 / 2 ∧ ∃ A, p.1 = .slice A p.2.length p.2.length
def All (q : List (Value × List Value)) (k : Nat) : Prop := ∀ (j : Nat) p, j < k → q[j]? = some p → p.2 = List.replicate p.2.length (.int .u16 (ku j))
theorem Caps.set {q : List (Value × List Value)} (h : Caps q) {i : Nat} {p : Value × List Value} (hi : q[i]? = some p) {xs : List Value} (hx : xs.length = p.2.length) : Caps (q.set i (p.1, xs)) := by
  intro r hr
  rcases List.mem_or_eq_of_mem_set hr with h1 | rfl
  · exact h r h1
  · obtain ⟨h1, A, h2⟩ := h p (List.mem_of_getElem? hi)
    exact ⟨by simpa [hx] using h1, A, by simpa [hx] using h2⟩
theorem Fr.put {w w' : World} {base : Nat} {V : Value} {q : List (Value × List Value)} (h : Fr w base V q) {i : Nat} {p : Value × List Value} (hi : q[i]? = some p) {xs : List Value} (hx : xs.length = p.2.length) (hg : Grew (fun k => p.1.ownBlock = some k) w w') (o : w'.ownsRow base 39 1 p.1 p.2.length xs) : Fr w' base V (q.set i (p.1, xs)) := by
  have hm : (q.set i (p.1, xs)).map (·.1) = q.map (·.1) := by
    rw [List.map_set]
    refine List.ext_getElem? fun j => ?_
    by_cases hj : i = j
    · subst hj
      have hil := (List.getElem?_eq_some_iff.mp hi).1
      rw [List.getElem?_set_self (by simpa using hil)]
      simp [hi]
    · rw [List.getElem?_set_ne hj]
  refine ⟨?_, h.pl.set hi hg (by simpa [hx] using o) fun k hk => .inl hk⟩
  rw [hm, List.length_set]
  exact own_grew h.row hg fun k hk hk' => own_own_ne h.row (h.pl.part hi) (by decide) hk hk'
theorem Fr.form {w : World} {base : Nat} {V : Value} {q : List (Value × List Value)} (h : Fr w base V q) : ∃ A c, V = .slice A q.length c := by
  obtain ⟨A, c, h1, _⟩ := own_form h.row
  exact ⟨A, c, h1⟩
theorem Fr.cell {w : World} {base : Nat} {V : Value} {q : List (Value × List Value)} (h : Fr w base V q) {i : Nat} {p : Value × List Value} (hi : q[i]? = some p) : ∃ a c, V = .slice (some a) q.length c ∧ w.cell? (a.add i) = some p.1 := by
  obtain ⟨A, c, rfl⟩ := h.form
  obtain ⟨a, rfl, hc⟩ := own_cell h.row (j := i) (v := p.1) (by simp [hi])
  exact ⟨a, c, rfl, hc⟩
/-- one list is written over -/
theorem fill_l2 (up : Value) {w : World} {base : Nat} {V : Value} {q : List (Value × List Value)} (h : Fr w base V q) (hc : Caps q) (hl : q.length ≤ 8000000000000) {i : Nat} {p : Value × List Value} (hip : q[i]? = some p) :
    ∃ w', iter (f3.l2 C) [up, V, .int .i64 i, .int .i64 0] w = some (.exit 10 [up, V, .int .i64 i] w') ∧ Fr w' base V (q.set i (p.1, List.replicate p.2.length (.int .u16 (ku i)))) ∧ Grew (fun k => base ≤ k) w w' := by
  have hil := (List.getElem?_eq_some_iff.mp hip).1
  obtain ⟨hb, A, hA⟩ := hc p (List.mem_of_getElem? hip)
  obtain ⟨aV, cV, hV, _⟩ := h.cell hip
  subst hV
  have ix := ix28 aV q.length cV .i64 i (by omega) (by omega)
  simp only [Int.toNat_natCast, Nat.mul_one] at ix
  have hsame : q.set i (p.1, p.2) = q := by
    refine List.ext_getElem? fun j => ?_
    by_cases hj : i = j
    · subst hj; rw [List.getElem?_set_self hil, hip]
    · rw [List.getElem?_set_ne hj]
  have key := iter_down (f := f3.l2 C) (fun d st w1 => ∃ (j : Nat) (ys : List Value), st = [up, .slice (some aV) q.length cV, .int .i64 i, .int .i64 j] ∧ j + d = p.2.length ∧ ys.length = d ∧ Fr w1 base (.slice (some aV) q.length cV) (q.set i (p.1, List.replicate j (.int .u16 (ku i)) ++ ys)) ∧ Grew (fun k => base ≤ k) w w1)
    (fun r => ∃ w1, r = .exit 10 [up, .slice (some aV) q.length cV, .int .i64 i] w1 ∧ Fr w1 base (.slice (some aV) q.length cV) (q.set i (p.1, List.replicate p.2.length (.int .u16 (ku i)))) ∧ Grew (fun k => base ≤ k) w w1) (by
      rintro d st w1 ⟨j, ys, rfl, hj, hys, E, G⟩
      have hget : (q.set i (p.1, List.replicate j (.int .u16 (ku i)) ++ ys))[i]? = some (p.1, List.replicate j (.int .u16 (ku i)) ++ ys) := List.getElem?_set_self hil
      obtain ⟨a1, c1, hV1, cell⟩ := E.cell hget
      rw [List.length_set] at hV1
      cases hV1
      rw [hA] at cell
      cases d with
      | zero =>
        obtain rfl : j = p.2.length := by omega
        have : ys = [] := by simpa using hys
        subst this
        rw [List.append_nil] at E
        refine .inr ⟨_, ?_, ⟨w1, rfl, E, G⟩, by simp⟩
        simp (disch := omega) [f3.l2, ix, cell]
      | succ d =>
        cases ys with
        | nil => simp at hys
        | cons z ys =>
          have o := E.pl.part hget
          have hlen : (List.replicate j (Value.int .u16 (ku i)) ++ z :: ys).length = p.2.length := by simp at hys ⊢; omega
          simp only [hlen] at o
          rw [hA] at o
          obtain ⟨pa, w2, e, hba, s2, o2, g2⟩ := own_store (P := Tryd.prog) o (t := 39) inf39 size39 (j := j) (by omega) (v := .int .u16 (ku i)) rfl rfl
          have hset : (List.replicate j (Value.int .u16 (ku i)) ++ z :: ys).set j (.int .u16 (ku i)) = List.replicate (j + 1) (.int .u16 (ku i)) ++ ys := by
            rw [List.set_append_right _ _ (by simp), List.length_replicate, Nat.sub_self, List.set_cons_zero, List.replicate_succ']
            simp
          rw [hset] at o2
          subst e
          have i5 := ix38 pa p.2.length p.2.length .i64 j (by omega) (by omega)
          simp only [Int.toNat_natCast, Nat.mul_one] at i5
          have e3 : IntKind.i64.wrap ((j : Int) + 1) = ((j + 1 : Nat) : Int) := (wrap_i64 (by omega) (by omega)).trans (by omega)
          have F2 := E.put hget (xs := List.replicate (j + 1) (.int .u16 (ku i)) ++ ys) (by simp; omega) (grew_of g2 fun k hk => .inl (by rw [hA]; exact hk)) (by rw [hA]; simpa only [hlen] using o2)
          rw [List.set_set] at F2
          refine .inl ⟨d, _, w2, by omega, ?_, ⟨j + 1, ys, rfl, by omega, by simpa using hys, F2, G.step (grew_of g2 fun k hk => .inl ?_)⟩⟩
          · simp (disch := omega) [f3.l2, lt_t, ix, cell, i5, cv3_39, ku_eq, s2, e3]
          · exact (o.lt k hk).1)
      p.2.length _ w ⟨0, p.2, rfl, by omega, rfl, (by simpa [hsame] using h), Grew.refl _ _⟩
  obtain ⟨r, h1, w1, rfl, o1, G1⟩ := key
  exact ⟨w1, h1, o1, G1⟩
/-- all lists are written over -/
theorem fill_l3 (up : Value) {w0 : World} {base : Nat} {V : Value} {n : Nat} (hl : n ≤ 8000000000000) :
    ∀ (d : Nat) (st : List Value) (w : World), (∃ (i : Nat) (q : List (Value × List Value)), st = [up, V, .int .i64 i] ∧ i + d = n ∧ q.length = n ∧ Fr w base V q ∧ Caps q ∧ All q i ∧ Grew (fun k => base ≤ k) w0 w) →
    ∃ r, iter (f3.l3 C) st w = some r ∧ ∃ q w', r = .exit 8 [up, V] w' ∧ q.length = n ∧ Fr w' base V q ∧ Caps q ∧ All q n ∧ Grew (fun k => base ≤ k) w0 w' := by
  refine iter_down _ _ ?_
  rintro d st w ⟨i, q, rfl, hi, hq, F, hc, ha, G⟩
  obtain ⟨A, c, rfl⟩ := F.form
  cases d with
  | zero =>
    obtain rfl : i = n := by omega
    refine .inr ⟨_, ?_, ⟨q, w, rfl, hq, F, hc, ha, G⟩, by simp⟩
    simp [f3.l3, hq]
  | succ d =>
    obtain ⟨p, hp⟩ : ∃ p, q[i]? = some p := ⟨_, List.getElem?_eq_getElem (by omega)⟩
    obtain ⟨w1, h1, F1, G1⟩ := fill_l2 up F hc (by omega) hp
    have e3 : IntKind.i64.wrap ((i : Int) + 1) = ((i + 1 : Nat) : Int) := (wrap_i64 (by omega) (by omega)).trans (by omega)
    refine .inl ⟨d, _, w1, by omega, ?_, ⟨i + 1, _, rfl, by omega, by simpa using hq, F1, hc.set hp (by simp), ?_, G.step G1⟩⟩
    · simp (disch := omega) [f3.l3, lt_t, hq ▸ h1, hq, h1, e3]
    · intro j r hj hr
      by_cases hij : i = j
      · subst hij
        rw [List.getElem?_set_self (by omega)] at hr
        cases hr
        simp
      · rw [List.getElem?_set_ne hij] at hr
        exact ha j r (by omega) hr
/-- one list is grown -/
theorem grow_l4 (up : Value) {w : World} {base : Nat} {A : Option Addr} {n : Nat} {xs : List Value} (V : Value) (o : w.ownsRow base 39 1 (.slice A n n) n xs) (hn : n ≤ 140737488355000 / 2) (hbase : base ≤ w.heap.size) (i : Nat) (hi : i ≤ 8000000000000) :
    ∃ w', iter (f3.l4 C) [up, V, .int .i64 i, .slice A n n, .int .i64 0] w = some (.exit 14 [up, V, .int .i64 i] w') ∧ w.grownBy w' none := by
  have bs : ∀ (k : Int) (w : World), erun Tryd.prog (Instr.buildSlice 38 1 #[(0, .int .u16 k)]) w = some (.slice (some ⟨w.heap.size, 0, none⟩) 1 1, w.alloc (.cells #[.int .u16 k] 39)) := fun k w => id (by kernel_rfl)
  have hx : xs.length = n := by simpa using o.1
  obtain ⟨v1, w1, h1, o1, g1⟩ := own_push_full (P := Tryd.prog) (ty := 38) Tryd.underlying38 inf39 zero39 size39 bytes39 rfl o (x := .int .u16 (ku i)) rfl (by simp [maxLen]; omega) (by omega) hbase
  have key := iter_down (f := f3.l4 C) (fun d st w2 => ∃ (j : Nat) (v : Value) (ys : List Value), st = [up, V, .int .i64 i, v, .int .i64 ((j + 1 : Nat) : Int)] ∧ j + d = 19 ∧ w2.ownsRow w.heap.size 39 1 v (n + 1 + j) ys ∧ w.grownBy w2 none)
    (fun r => ∃ w2, r = .exit 14 [up, V, .int .i64 i] w2 ∧ w.grownBy w2 none) (by
      rintro d st w2 ⟨j, v, ys, rfl, hj, E, G⟩
      cases d with
      | zero =>
        obtain rfl : j = 19 := by omega
        exact .inr ⟨_, by simp [f3.l4], ⟨w2, rfl, G⟩, by simp⟩
      | succ d =>
        obtain ⟨v', w3, h3, o3, g3, _⟩ := own_push (P := Tryd.prog) (ty := 38) Tryd.underlying38 inf39 zero39 size39 bytes39 rfl E (x := .int .u16 (ku i)) rfl (by simp [maxLen]; omega) (by omega) G.size
        have e3 : IntKind.i64.wrap ((j : Int) + 1 + 1) = (j : Int) + 1 + 1 := wrap_i64 (by omega) (by omega)
        refine .inl ⟨d, _, w3, by omega, ?_, ⟨j + 1, v', _, rfl, by omega, o3, grown_trans G g3 fun k hk => (E.lt k hk).1⟩⟩
        simp (disch := omega) [f3.l4, lt_t, cv3_39, ku_eq, bs, h3, e3])
      19 _ w1 ⟨0, v1, _, rfl, rfl, o1, g1⟩
  obtain ⟨r, h2, w2, rfl, G2⟩ := key
  refine ⟨w2, iter_once ?_ h2, G2⟩
  have e0 : IntKind.i64.wrap 1 = 1 := wrap_i64 (by omega) (by omega)
  simp (disch := omega) [f3.l4, lt_t, cv3_39, ku_eq, bs, h1, e0]
theorem grow_l5 (up : Value) {w0 : World} {base : Nat} {V : Value} {q : List (Value × List Value)} (hc : Caps q) (hl : q.length ≤ 8000000000000) (hbase : base ≤ w0.heap.size) :
    ∀ (d : Nat) (st : List Value) (w : World), (∃ (i : Nat), st = [up, V, .int .i64 i] ∧ i + d = q.length ∧ Fr w base V q ∧ w0.grownBy w none) →
    ∃ r, iter (f3.l5 C) st w = some r ∧ ∃ w', r = .exit 12 [up, V] w' ∧ Fr w' base V q ∧ w0.grownBy w' none := by
  refine iter_down _ _ ?_
  rintro d st w ⟨i, rfl, hi, F, G⟩
  cases d with
  | zero =>
    obtain rfl : i = q.length := by omega
    obtain ⟨A, c, rfl⟩ := F.form
    exact .inr ⟨_, by simp [f3.l5], ⟨w, rfl, F, G⟩, by simp⟩
  | succ d =>
    obtain ⟨p, hp⟩ : ∃ p, q[i]? = some p := ⟨_, List.getElem?_eq_getElem (by omega)⟩
    obtain ⟨hb, A, hA⟩ := hc p (List.mem_of_getElem? hp)
    obtain ⟨aV, cV, hV, cell⟩ := F.cell hp
    subst hV
    have ix := ix28 aV q.length cV .i64 i (by omega) (by omega)
    simp only [Int.toNat_natCast, Nat.mul_one] at ix
    have o := F.pl.part hp
    rw [hA] at o cell
    obtain ⟨w1, h1, G1⟩ := grow_l4 up (.slice (some aV) q.length cV) o hb (Nat.le_trans hbase G.size) i (by omega)
    have e3 : IntKind.i64.wrap ((i : Int) + 1) = ((i + 1 : Nat) : Int) := (wrap_i64 (by omega) (by omega)).trans (by omega)
    refine .inl ⟨d, _, w1, by omega, ?_, ⟨i + 1, rfl, by omega, F.new G1, grown_trans G G1 (by simp)⟩⟩
    simp (disch := omega) [f3.l5, lt_t, ix, cell, h1, e3]
/-- one list is looked at -/
theorem look_l6 (up : Value) {w : World} {base : Nat} {V : Value} {q : List (Value × List Value)} (h : Fr w base V q) (hc : Caps q) (ha : All q q.length) (hl : q.length ≤ 8000000000000) {i : Nat} {p : Value × List Value} (hip : q[i]? = some p) :
    iter (f3.l6 C) [up, V, .int .i64 i, .int .i64 0] w = some (.exit 18 [up, V, .int .i64 i] w) := by
  have hil := (List.getElem?_eq_some_iff.mp hip).1
  obtain ⟨hb, A, hA⟩ := hc p (List.mem_of_getElem? hip)
  obtain ⟨aV, cV, hV, cell⟩ := h.cell hip
  subst hV
  have ix := ix28 aV q.length cV .i64 i (by omega) (by omega)
  simp only [Int.toNat_natCast, Nat.mul_one] at ix
  have o := h.pl.part hip
  have hall := ha i p hil hip
  rw [hA] at o cell
  refine iter_up p.2.length (fun j => [up, .slice (some aV) q.length cV, .int .i64 i, .int .i64 j]) (by simp) (fun j hj => ?_) ?_
  · obtain ⟨a, rfl, hcell⟩ := own_cell o (j := j) (v := .int .u16 (ku i)) (by rw [hall]; simp [List.getElem?_replicate, hj])
    have i5 := ix38 a p.2.length p.2.length .i64 j (by omega) (by omega)
    simp only [Int.toNat_natCast, Nat.mul_one] at i5
    have e1 : IntKind.i64.wrap ((j : Int) + 1) = ((j + 1 : Nat) : Int) := (wrap_i64 (by omega) (by omega)).trans (by omega)
    simp (disch := omega) [f3.l6, lt_t, ix, cell, i5, hcell, cv3_39, ku_eq, e1]
  · simp (disch := omega) [f3.l6, ix, cell]
theorem look_l7 (up : Value) {w : World} {base : Nat} {V : Value} {q : List (Value × List Value)} (h : Fr w base V q) (hc : Caps q) (ha : All q q.length) (hl : q.length ≤ 8000000000000) :
    iter (f3.l7 C) [up, V, .int .i64 0] w = some (.exit 16 [up] w) := by
  refine iter_up q.length (fun i => [up, V, .int .i64 i]) (by simp) (fun i hi => ?_) ?_
  · obtain ⟨p, hp⟩ : ∃ p, q[i]? = some p := ⟨_, List.getElem?_eq_getElem (by omega)⟩
    have h1 := look_l6 up h hc ha hl hp
    obtain ⟨A, c, rfl⟩ := h.form
    have e1 : IntKind.i64.wrap ((i : Int) + 1) = ((i + 1 : Nat) : Int) := (wrap_i64 (by omega) (by omega)).trans (by omega)
    simp (disch := omega) [f3.l7, lt_t, h1, e1]
  · obtain ⟨A, c, rfl⟩ := h.form
    simp [f3.l7]
end Go.Sh.YtacfghffojijaaaDoor

namespace Go.Sh.YtacfghffojijaaaDoor
open Go Go.Proofs Go.RowKit
set_option linter.unusedVariables false
set_option linter.unusedSimpArgs false
set_option maxRecDepth 100000
structure Fm where
  W : Int
  H : Int
  D : Int
  al : Bool
  A : Option Addr
  c : Nat
  q : List (Value × List Value)
abbrev Fm.pv (f : Fm) : Value := .slice f.A f.q.length f.c
abbrev Fm.cs (f : Fm) : List Value := fcs f.W f.H f.D f.al f.pv
abbrev Fm.v (f : Fm) : Value := fv f.W f.H f.D f.al f.A f.q.length f.c
def allq (l : List Fm) : List (Value × List Value) := l.flatMap (·.q)
structure Fms (w : World) (base : Nat) (O : Value) (l : List Fm) : Prop where
  row : w.ownsRow base 30 5 O l.length (l.flatMap Fm.cs)
  hd : ∀ f ∈ l, w.ownsRow base 38 1 f.pv f.q.length (f.q.map (·.1))
  pl : Rows w base 39 (allq l)
  cap : Caps (allq l)
  len : ∀ f ∈ l, f.q.length ≤ 4
def ffp (O : Value) (l : List Fm) : Nat → Prop := fun k => O.ownBlock = some k ∨ (∃ f ∈ l, f.pv.ownBlock = some k) ∨ rfp (allq l) k
section
variable {w w' : World} {base : Nat} {O : Value} {l : List Fm} {S : Nat → Prop}
theorem Fms.grew (h : Fms w base O l) (hg : Grew S w w') (hn : ∀ k, ffp O l k → ¬ S k) : Fms w' base O l :=
  ⟨own_grew h.row hg fun k hk => hn k (.inl hk), fun f hf => own_grew (h.hd f hf) hg fun k hk => hn k (.inr (.inl ⟨f, hf, hk⟩)), h.pl.grew hg fun k hk => hn k (.inr (.inr hk)), h.cap, h.len⟩
theorem Fms.new (h : Fms w base O l) (hg : w.grownBy w' none) : Fms w' base O l := h.grew (grew_new (S := fun _ => False) hg) fun _ _ h => h
theorem Fms.ge (h : Fms w base O l) {k : Nat} (hk : ffp O l k) : base ≤ k ∧ k < w.heap.size := by
  rcases hk with hk | ⟨f, hf, hk⟩ | hk
  · exact h.row.lt k hk
  · exact (h.hd f hf).lt k hk
  · exact h.pl.ge hk
theorem flat5 {l : List Fm} {i : Nat} {f : Fm} (h : l[i]? = some f) {k : Nat} (hk : k < 5) : (l.flatMap Fm.cs)[i * 5 + k]? = (Fm.cs f)[k]? := by
  induction l generalizing i with
  | nil => simp at h
  | cons g l ih =>
    rw [List.flatMap_cons]
    cases i with
    | zero =>
      simp only [List.getElem?_cons_zero, Option.some.injEq] at h
      subst h
      rw [Nat.zero_mul, Nat.zero_add, List.getElem?_append_left (by simpa using hk)]
    | succ i =>
      rw [List.getElem?_append_right (by simp; omega)]
      have : (i + 1) * 5 + k - (Fm.cs g).length = i * 5 + k := by simp; omega
      rw [this]
      exact ih (by simpa using h)
theorem Fms.form (h : Fms w base O l) : ∃ A c, O = .slice A l.length c := by
  obtain ⟨A, c, h1, _⟩ := own_form h.row
  exact ⟨A, c, h1⟩
theorem Fms.cells (h : Fms w base O l) {i : Nat} {f : Fm} (hi : l[i]? = some f) : ∃ a c, O = .slice (some a) l.length c ∧ ∀ k v, k < 5 → (Fm.cs f)[k]? = some v → w.cell? ((a.add (i * 5)).add k) = some v := by
  obtain ⟨A, c, rfl⟩ := h.form
  obtain ⟨a, rfl, _⟩ := own_cell h.row (j := i * 5 + 0) (v := .int .i64 f.W) (by rw [flat5 hi (by omega)]; rfl)
  refine ⟨a, c, rfl, fun k v hk hv => ?_⟩
  obtain ⟨a', ha, hc⟩ := own_cell h.row (j := i * 5 + k) (v := v) (by rw [flat5 hi hk]; exact hv)
  cases ha
  rw [Addr.add_add]
  exact hc
theorem Fms.load (h : Fms w base O l) {i : Nat} {f : Fm} (hi : l[i]? = some f) (hil : i < 9223372036854775807) : ∃ a c, O = .slice (some a) l.length c ∧ prun Tryd.prog (Instr.indexAt 24 O (.int .i64 i)) = some (.pointer (some (a.add (i * 5)))) ∧ rrun Tryd.prog (Instr.loadAt 30 (.pointer (some (a.add (i * 5))))) w = some f.v ∧ w.cell? ((a.add (i * 5)).add 4) = some f.pv := by
  obtain ⟨a, c, rfl, hc⟩ := h.cells hi
  have := (List.getElem?_eq_some_iff.mp hi).1
  have ix := ix24 a l.length c .i64 i (by omega) (by omega)
  simp only [Int.toNat_natCast] at ix
  exact ⟨a, c, rfl, ix, ld30 (hc 0 _ (by omega) rfl) (hc 1 _ (by omega) rfl) (hc 2 _ (by omega) rfl) (hc 3 _ (by omega) rfl) (hc 4 _ (by omega) rfl), hc 4 _ (by omega) rfl⟩
end
/-- the samples of a plane are numbers -/
def Num (q : List (Value × List Value)) : Prop := ∀ x ∈ q, ∃ L : List Int, x.2 = uv L ∧ ∀ v ∈ L, 0 ≤ v ∧ v ≤ 65535
structure Same (f g : Fm) : Prop where
  W : f.W = g.W
  H : f.H = g.H
  D : f.D = g.D
  al : f.al = g.al
  n : f.q.length = g.q.length
  q : ∀ (p : Nat) x y, f.q[p]? = some x → g.q[p]? = some y → x.2 = y.2
  num : Num f.q
def unv : Value → Int
  | .int _ n => n
  | _ => 0
theorem unv_uv (L : List Int) : (uv L).map unv = L := by simp [uv, unv, Function.comp_def]
def cont (q : List (Value × List Value)) (p : Nat) : List Int := ((q[p]?).map fun x => x.2.map unv).getD []
theorem fm_pl {w : World} {base : Nat} {f : Fm} (hd : w.ownsRow base 38 1 f.pv f.q.length (f.q.map (·.1))) (hp : ∀ x ∈ f.q, w.ownsRow base 39 1 x.1 x.2.length x.2) (hc : Caps f.q) (hn : Num f.q) :
    ∃ ql : List Pl, ql.length = f.q.length ∧ (∀ (p : Nat) x, ql[p]? = some x → x.l = cont f.q p) ∧ Rd w f.A (ql.map Pl.v) ∧ ∀ x ∈ ql, x.ok w := by
  have r : Rd w f.A (f.q.map (·.1)) := Rd.owned hd
  obtain ⟨ql, h1, h2, h3, h4⟩ := pl_of r (cont f.q) (fun p v hv => by
    rw [List.getElem?_map, Option.map_eq_some_iff] at hv
    obtain ⟨x, hx, rfl⟩ := hv
    have hm := List.mem_of_getElem? hx
    obtain ⟨L, hL, hv⟩ := hn x hm
    obtain ⟨hb, A, hA⟩ := hc x hm
    have e : cont f.q p = L := by simp [cont, hx, hL, unv_uv]
    have hlen : x.2.length = L.length := by rw [hL]; simp [uv]
    have o := hp x hm
    rw [hA] at o
    rw [e, hA, hlen]
    refine ⟨A, L.length, rfl, Nat.le_refl _, ?_, by omega, hv⟩
    have := Rd.owned o
    rwa [hL] at this)
  exact ⟨ql, by simpa using h1, h2, h3, h4⟩
theorem mem_allq {l : List Fm} {f : Fm} (hf : f ∈ l) {x : Value × List Value} (hx : x ∈ f.q) : x ∈ allq l := List.mem_flatMap.mpr ⟨f, hf, hx⟩
theorem cmp_l0 (up : Value) {base : Nat} {O Wt : Value} {l m : List Fm} (hlm : l.length = m.length) (hs : ∀ (i : Nat) f g, l[i]? = some f → m[i]? = some g → Same f g) (hl : l.length ≤ 8000000000000) {w0 : World} :
    ∀ (d : Nat) (st : List Value) (w : World), (∃ i : Nat, st = [up, O, Wt, .int .i64 i] ∧ i + d = l.length ∧ Fms w base O l ∧ Fms w base Wt m ∧ w0.grownBy w none) →
    ∃ r, iter (f3.l0 C) st w = some r ∧ ∃ w', r = .exit 4 [up, O] w' ∧ Fms w' base O l ∧ w0.grownBy w' none := by
  refine iter_down _ _ ?_
  rintro d st w ⟨i, rfl, hi, F, E, G⟩
  cases d with
  | zero =>
    obtain rfl : i = l.length := by omega
    obtain ⟨A, c, rfl⟩ := F.form
    exact .inr ⟨_, by simp [f3.l0], ⟨w, rfl, F, G⟩, by simp⟩
  | succ d =>
    obtain ⟨f, hf⟩ : ∃ f, l[i]? = some f := ⟨_, List.getElem?_eq_getElem (by omega)⟩
    obtain ⟨g, hg⟩ : ∃ g, m[i]? = some g := ⟨_, List.getElem?_eq_getElem (by omega)⟩
    have S := hs i f g hf hg
    obtain ⟨u, hu⟩ : ∃ u, u = w.drew := ⟨_, rfl⟩
    have gu : w.grownBy u none := hu ▸ grown_drew w none
    have F1 := F.new gu
    have E1 := E.new gu
    obtain ⟨a, c, rfl, i1, i2, _⟩ := F1.load hf (by omega)
    obtain ⟨b, c', rfl, j1, j2, _⟩ := E1.load hg (by omega)
    have fm := List.mem_of_getElem? hf
    have gm := List.mem_of_getElem? hg
    obtain ⟨qa, a1, a2, a3, a4⟩ := fm_pl (F1.hd f fm) (fun x hx => F1.pl.own x (mem_allq fm hx)) (fun x hx => F1.cap x (mem_allq fm hx)) S.num
    obtain ⟨qb, b1, b2, b3, b4⟩ := fm_pl (E1.hd g gm) (fun x hx => E1.pl.own x (mem_allq gm hx)) (fun x hx => E1.cap x (mem_allq gm hx)) (by
      intro y hy
      obtain ⟨p, hp⟩ := List.mem_iff_getElem?.mp hy
      obtain ⟨x, hx⟩ : ∃ x, f.q[p]? = some x := ⟨_, List.getElem?_eq_getElem (by have := (List.getElem?_eq_some_iff.mp hp).1; have := S.n; omega)⟩
      rw [← S.q p x y hx hp]
      exact S.num x (List.mem_of_getElem? hx))
    obtain ⟨w2, h2, g2⟩ := same_ok a3 b3 a4 b4 f.W f.H f.D f.al (ca := f.c) (cb := g.c) (by have := F1.len f fm; simp [maxLen]; omega) (by rw [b1, a1, S.n]) (fun p x y hx hy => by
      rw [a2 p x hx, b2 p y hy]
      have hpa := (List.getElem?_eq_some_iff.mp hx).1
      obtain ⟨x', hx'⟩ : ∃ x, f.q[p]? = some x := ⟨_, List.getElem?_eq_getElem (by omega)⟩
      obtain ⟨y', hy'⟩ : ∃ y, g.q[p]? = some y := ⟨_, List.getElem?_eq_getElem (by have := S.n; omega)⟩
      simp [cont, hx', hy', S.q p x' y' hx' hy'])
    rw [a1, b1] at h2
    have hv : g.v = fv f.W f.H f.D f.al g.A g.q.length g.c := by simp [Fm.v, S.W, S.H, S.D, S.al]
    rw [hv] at j2
    have e3 : IntKind.i64.wrap ((i : Int) + 1) = ((i + 1 : Nat) : Int) := (wrap_i64 (by omega) (by omega)).trans (by omega)
    refine .inl ⟨d, _, w2, by omega, ?_, ⟨i + 1, rfl, by omega, F1.new g2, E1.new g2, grown_trans (grown_trans G gu (by simp)) g2 (by simp)⟩⟩
    simp (disch := omega) [f3.l0, lt_t, ← hu, i1, i2, j1, j2, h2, bool_not, e3]
theorem gather_l1 (up : Value) {base : Nat} {O : Value} {l : List Fm} (hl : l.length ≤ 34359738368) {w0 : World} (hb : base ≤ w0.heap.size) (F0 : Fms w0 base O l) :
    ∀ (d : Nat) (st : List Value) (w : World), (∃ (i : Nat) (V : Value), st = [up, O, V, .int .i64 i] ∧ i + d = l.length ∧ w.ownsRow w0.heap.size 38 1 V (allq (l.take i)).length ((allq (l.take i)).map (·.1)) ∧ w0.grownBy w none) →
    ∃ r, iter (f3.l1 C) st w = some r ∧ ∃ V w', r = .exit 6 [up, V] w' ∧ Fr w' base V (allq l) ∧ w0.grownBy w' none := by
  have hlen : ∀ i, (allq (l.take i)).length ≤ 4 * i := by
    intro i
    induction i with
    | zero => simp [allq]
    | succ i ih =>
      rw [List.take_add_one]
      cases hi : l[i]? with
      | none => simp; omega
      | some f =>
        have := F0.len f (List.mem_of_getElem? hi)
        simp only [allq, List.flatMap_append, List.length_append, Option.toList_some, List.flatMap_cons, List.flatMap_nil, List.append_nil] at ih ⊢
        omega
  refine iter_down _ _ ?_
  rintro d st w ⟨i, V, rfl, hi, o, G⟩
  have F := F0.new G
  cases d with
  | zero =>
    obtain rfl : i = l.length := by omega
    rw [List.take_length] at o
    obtain ⟨A, c, rfl⟩ := F.form
    exact .inr ⟨_, by simp [f3.l1], ⟨V, w, rfl, ⟨own_rebase o fun k hk => Nat.le_trans hb (o.lt k hk).1, F.pl⟩, G⟩, by simp⟩
  | succ d =>
    obtain ⟨f, hf⟩ : ∃ f, l[i]? = some f := ⟨_, List.getElem?_eq_getElem (by omega)⟩
    have fm := List.mem_of_getElem? hf
    obtain ⟨a, c, rfl, i1, _, i3⟩ := F.load hf (by omega)
    have hfl := F.len f fm
    have hil := hlen i
    have hm : (maxLen : Nat) = 9223372036854775807 := rfl
    obtain ⟨V', w2, h2, o2, g2⟩ := ap28 (ty := 28) o (A := f.A) (m := f.q.length) (c := f.c) (news := f.q.map (·.1)) (by simp) (Rd.owned (F.hd f fm)) (own_nil (F.hd f fm)) (by
      intro u hu
      obtain ⟨x, hx, rfl⟩ := List.mem_map.mp hu
      obtain ⟨_, A, hA⟩ := F.cap x (mem_allq fm hx)
      rw [hA]; rfl) (by omega) (by omega) G.size
    have e3 : IntKind.i64.wrap ((i : Int) + 1) = ((i + 1 : Nat) : Int) := (wrap_i64 (by omega) (by omega)).trans (by omega)
    have hq : allq (l.take (i + 1)) = allq (l.take i) ++ f.q := by
      rw [List.take_add_one, hf]
      simp [allq]
    refine .inl ⟨d, _, w2, by omega, ?_, ⟨i + 1, V', rfl, by omega, by rw [hq, List.length_append, List.map_append]; exact o2, grown_trans G g2 fun k hk => (o.lt k hk).1⟩⟩
    simp (disch := omega) [f3.l1, lt_t, i1, i3, h2, e3]
/-- behind the mixing: the comparison, the owner's writing, the last look -/
theorem tail_ok {Rt : List Value → World → Prop} (up : Value) {w : World} {base : Nat} {O Wt : Value} {l m : List Fm} (F : Fms w base O l) (E : Fms w base Wt m) (hlm : l.length = m.length) (hs : ∀ (i : Nat) f g, l[i]? = some f → m[i]? = some g → Same f g) (hl : l.length ≤ 34359738368) (hb : base ≤ w.heap.size)
    (hRt : ∀ w', Grew (fun k => base ≤ k) w w' → Rt [up] w') : f3.k0 C Rt [up, O, Wt] w := by
  obtain ⟨r1, h1, w1, rfl, F1, g1⟩ := cmp_l0 up hlm hs (by omega) l.length _ w ⟨0, rfl, by omega, F, E, grown_refl w none⟩
  obtain ⟨r2, h2, V, w2, rfl, F2, g2⟩ := gather_l1 up hl (Nat.le_trans hb g1.size) F1 l.length _ w1 ⟨0, .slice none 0 0, rfl, by omega, by simpa [allq] using World.ownsRow_nil w1 w1.heap.size 38 1, grown_refl w1 none⟩
  have hcap : Caps (allq l) := F1.cap
  have hlen : (allq l).length ≤ 8000000000000 := by
    have : ∀ l : List Fm, (∀ f ∈ l, f.q.length ≤ 4) → (allq l).length ≤ 4 * l.length := by
      intro l
      induction l with
      | nil => intro _; simp [allq]
      | cons f l ih =>
        intro h
        have a := h f (by simp)
        have b := ih fun g hg => h g (by simp [hg])
        simp only [allq, List.flatMap_cons, List.length_append, List.length_cons] at b ⊢
        omega
    have := this l F1.len
    omega
  obtain ⟨r3, h3, q3, w3, rfl, e3, F3, c3, a3, g3⟩ := fill_l3 (w0 := w2) (base := base) (V := V) up hlen (allq l).length _ w2 ⟨0, allq l, rfl, by omega, rfl, F2, hcap, fun j p hj => absurd hj (by omega), Grew.refl _ _⟩
  obtain ⟨r4, h4, w4, rfl, F4, g4⟩ := grow_l5 (w0 := w3) (base := base) (V := V) (q := q3) up c3 (by omega) (Nat.le_trans hb (Nat.le_trans g1.size (Nat.le_trans g2.size g3.size))) q3.length _ w3 ⟨0, rfl, by omega, F3, grown_refl w3 none⟩
  have h5 := look_l7 up F4 c3 (by rw [e3]; exact a3) (by omega)
  have G : Grew (fun k => base ≤ k) w w4 := (((grew_new g1).step (grew_new g2)).step g3).step (grew_new g4)
  have := hRt w4 G
  simp only [Int.natCast_zero, Int.ofNat_eq_natCast, Int.cast_ofNat_Int] at h1 h2 h3 h4
  simp [f3.k0, nth, h1, h2, h3, h4, h5, Res.unblock, Res.cont, after, this]
end Go.Sh.YtacfghffojijaaaDoor

namespace Go.Sh.YtacfghffojijaaaDoor
open Go Go.Proofs Go.RowKit
set_option linter.unusedVariables false
set_option linter.unusedSimpArgs false
set_option maxRecDepth 100000
/-- a frame that can be read -/
structure Fd where
  W : Int
  H : Int
  D : Int
  al : Bool
  A : Option Addr
  c : Nat
  q : List Pl
abbrev Fd.cs (x : Fd) : List Value := fcs x.W x.H x.D x.al (.slice x.A x.q.length x.c)
abbrev Fd.v (x : Fd) : Value := fv x.W x.H x.D x.al x.A x.q.length x.c
structure Fd.ok (x : Fd) (w : World) : Prop where
  rd : Rd w x.A (x.q.map Pl.v)
  pl : ∀ p ∈ x.q, p.ok w
  len : x.q.length ≤ maxLen
theorem Fd.ok.grown {x : Fd} {w w' : World} (h : x.ok w) (hg : w.grownBy w' none) : x.ok w' :=
  ⟨h.rd.grown hg, fun p hp => (h.pl p hp).grown hg, h.len⟩
/-- two frames that read alike -/
structure Like (x y : Fd) : Prop where
  W : x.W = y.W
  H : x.H = y.H
  D : x.D = y.D
  al : x.al = y.al
  l : x.q.map Pl.l = y.q.map Pl.l
theorem Like.refl (x : Fd) : Like x x := ⟨rfl, rfl, rfl, rfl, rfl⟩
theorem vcode_like {W H D : Int} {al : Bool} {q q' : List Pl} (h : q.map Pl.l = q'.map Pl.l) : vcode W H D al q = vcode W H D al q' := by
  have hl : q.length = q'.length := by have := congrArg List.length h; simpa using this
  have a1 : ∀ q : List Pl, (∃ p x, q[p]? = some x ∧ (x.l.length : Int) ≠ wd W p * H) ↔ ∃ (p : Nat) (l : List Int), (q.map Pl.l)[p]? = some l ∧ (l.length : Int) ≠ wd W p * H := by
    intro q
    constructor
    · rintro ⟨p, x, h1, h2⟩; exact ⟨p, x.l, by simp [h1], h2⟩
    · rintro ⟨p, l, h1, h2⟩
      rw [List.getElem?_map, Option.map_eq_some_iff] at h1
      obtain ⟨x, hx, rfl⟩ := h1
      exact ⟨p, x, hx, h2⟩
  have a2 : ∀ q : List Pl, (∃ x ∈ q, ∃ v ∈ x.l, (2 : Int) ^ D.toNat ≤ v) ↔ ∃ l ∈ q.map Pl.l, ∃ v ∈ l, (2 : Int) ^ D.toNat ≤ v := by
    intro q
    constructor
    · rintro ⟨x, h1, h2⟩; exact ⟨x.l, List.mem_map.mpr ⟨x, h1, rfl⟩, h2⟩
    · rintro ⟨l, h1, h2⟩
      obtain ⟨x, hx, rfl⟩ := List.mem_map.mp h1
      exact ⟨x, hx, h2⟩
  have b1 : (∃ p x, q[p]? = some x ∧ (x.l.length : Int) ≠ wd W p * H) ↔ (∃ p x, q'[p]? = some x ∧ (x.l.length : Int) ≠ wd W p * H) := by rw [a1 q, a1 q', h]
  have b2 : (∃ x ∈ q, ∃ v ∈ x.l, (2 : Int) ^ D.toNat ≤ v) ↔ (∃ x ∈ q', ∃ v ∈ x.l, (2 : Int) ^ D.toNat ≤ v) := by rw [a2 q, a2 q', h]
  unfold vcode
  split
  · rfl
  · rw [hl]
    split
    · rfl
    · by_cases c1 : ∃ p x, q[p]? = some x ∧ (x.l.length : Int) ≠ wd W p * H
      · rw [if_pos c1, if_pos (b1.mp c1)]
      · rw [if_neg c1, if_neg fun e => c1 (b1.mpr e)]
        by_cases c2 : ∃ x ∈ q, ∃ v ∈ x.l, (2 : Int) ^ D.toNat ≤ v
        · rw [if_pos c2, if_pos (b2.mp c2)]
        · rw [if_neg c2, if_neg fun e => c2 (b2.mpr e)]
/-- the error that a Mix answers -/
noncomputable def mc (part of : Int) (x y : Fd) : Int := if 1 ≤ of ∧ of ≤ 101 ∧ 0 ≤ part ∧ part ≤ of then mcode x.W x.H x.D x.al x.q y.W y.H y.D y.al y.q else 1
theorem mc_like {part of : Int} {x y x' y' : Fd} (hx : Like x x') (hy : Like y y') : mc part of x y = mc part of x' y' := by
  unfold mc mcode
  rw [hx.W, hx.H, hx.D, hx.al, hy.W, hy.H, hy.D, hy.al, vcode_like hx.l, vcode_like hy.l]
/-- what a Mix answers, but for where it lies -/
structure Out (part of : Int) (x y : Fd) (f : Fm) : Prop where
  bad : mc part of x y ≠ 0 → f = ⟨0, 0, 0, false, none, 0, []⟩
  good : mc part of x y = 0 → f.W = x.W ∧ f.H = x.H ∧ f.D = x.D ∧ f.al = x.al ∧ f.q.length = x.q.length ∧ x.q.length = y.q.length ∧ ∀ (p : Nat) r a b, f.q[p]? = some r → x.q[p]? = some a → y.q[p]? = some b → r.2 = uv (mixl (of := of) part a.l b.l)
structure Fmo (w : World) (base : Nat) (f : Fm) : Prop where
  hd : w.ownsRow base 38 1 f.pv f.q.length (f.q.map (·.1))
  pl : Rows w base 39 f.q
  cap : Caps f.q
  len : f.q.length ≤ 4
  num : Num f.q
theorem out_same {part of : Int} {x y x' y' : Fd} {f g : Fm} (h : Out part of x y f) (h' : Out part of x' y' g) (hx : Like x x') (hy : Like y y') (hn : Num f.q) : Same f g := by
  have e := mc_like (part := part) (of := of) hx hy
  by_cases hm : mc part of x y = 0
  · obtain ⟨a1, a2, a3, a4, a5, a6, a7⟩ := h.good hm
    obtain ⟨b1, b2, b3, b4, b5, b6, b7⟩ := h'.good (e ▸ hm)
    have lx : x.q.length = x'.q.length := by have := congrArg List.length hx.l; simpa using this
    have ly : y.q.length = y'.q.length := by have := congrArg List.length hy.l; simpa using this
    refine ⟨by rw [a1, b1, hx.W], by rw [a2, b2, hx.H], by rw [a3, b3, hx.D], by rw [a4, b4, hx.al], by omega, fun p r s hr hs => ?_, hn⟩
    have hp := (List.getElem?_eq_some_iff.mp hr).1
    obtain ⟨a, ha⟩ : ∃ a, x.q[p]? = some a := ⟨_, List.getElem?_eq_getElem (by omega)⟩
    obtain ⟨b, hb⟩ : ∃ b, y.q[p]? = some b := ⟨_, List.getElem?_eq_getElem (by omega)⟩
    obtain ⟨a', ha'⟩ : ∃ a, x'.q[p]? = some a := ⟨_, List.getElem?_eq_getElem (by omega)⟩
    obtain ⟨b', hb'⟩ : ∃ b, y'.q[p]? = some b := ⟨_, List.getElem?_eq_getElem (by omega)⟩
    have la : a.l = a'.l := by
      have := congrArg (·[p]?) hx.l
      simpa [ha, ha'] using this
    have lb : b.l = b'.l := by
      have := congrArg (·[p]?) hy.l
      simpa [hb, hb'] using this
    rw [a7 p r a b hr ha hb, b7 p s a' b' hs ha' hb', la, lb]
  · have c1 := h.bad hm
    have c2 := h'.bad (e ▸ hm)
    subst c1
    subst c2
    exact ⟨rfl, rfl, rfl, rfl, rfl, fun p x y hx => by simp at hx, hn⟩
section
variable {part of : Int} {w w' : World} {x y : Fd}
theorem made_out (hof : 1 ≤ of) (hp0 : 0 ≤ part) (hp1 : part ≤ of) (ox : x.ok w) (oy : y.ok w) (h1 : 1 ≤ of ∧ of ≤ 101 ∧ 0 ≤ part ∧ part ≤ of) (hm : mcode x.W x.H x.D x.al x.q y.W y.H y.D y.al y.q = 0) {AV : Option Addr} {cV : Nat} {q : List (Value × List Value)} (hq : q.length = x.q.length)
    (mid : Mid (of := of) part x.q y.q q x.q.length) (F : Fr w' w.heap.size (.slice AV q.length cV) q) : Out part of x y ⟨x.W, x.H, x.D, x.al, AV, cV, q⟩ ∧ Fmo w' w.heap.size ⟨x.W, x.H, x.D, x.al, AV, cV, q⟩ := by
  have hmc : mc part of x y = 0 := by unfold mc; rw [if_pos h1]; exact hm
  obtain ⟨va, vb, e1, e2, e3, e4⟩ := mcode_zero hm
  obtain ⟨sh, l1, z1, _⟩ := vcode_zero va
  obtain ⟨_, l2, z2, _⟩ := vcode_zero vb
  have hple := pl_le x.al
  have hlen : x.q.length = y.q.length := by rw [l1, l2, e4]
  have all : ∀ (p : Nat) r, q[p]? = some r → ∃ a b, x.q[p]? = some a ∧ y.q[p]? = some b ∧ a.l.length = b.l.length ∧ (∃ P, r.1 = .slice P a.l.length a.l.length) ∧ r.2.length = a.l.length ∧ r.2 = uv (mixl (of := of) part a.l b.l) := by
    intro p r hr
    have hp := (List.getElem?_eq_some_iff.mp hr).1
    obtain ⟨a, ha⟩ : ∃ a, x.q[p]? = some a := ⟨_, List.getElem?_eq_getElem (by omega)⟩
    obtain ⟨b, hb⟩ : ∃ b, y.q[p]? = some b := ⟨_, List.getElem?_eq_getElem (by omega)⟩
    obtain ⟨h3, h4, h5⟩ := mid p r a b hr ha hb
    have k1 := z1 p a ha
    have k2 := z2 p b hb
    rw [← e1, ← e2] at k2
    exact ⟨a, b, ha, hb, by omega, h3, h4, h5 (by omega)⟩
  refine ⟨⟨fun h => absurd hmc h, fun _ => ⟨rfl, rfl, rfl, rfl, hq, hlen, fun p r a b hr ha hb => ?_⟩⟩, F.row, F.pl, ?_, by simp only; omega, ?_⟩
  · obtain ⟨a', b', ha', hb', _, _, _, h⟩ := all p r hr
    rw [ha] at ha'; cases ha'
    rw [hb] at hb'; cases hb'
    exact h
  · intro r hr
    obtain ⟨p, hp⟩ := List.mem_iff_getElem?.mp hr
    obtain ⟨a, b, ha, _, _, ⟨P, hP⟩, hl, _⟩ := all p r hp
    have k1 := z1 p a ha
    obtain ⟨s0, s1, s2, s3, _⟩ := sh
    have hw := wd_le s0 s1 p
    have := prod_bound (a := wd x.W p) (b := x.H) (by omega) (by omega) (by omega) s3
    exact ⟨by omega, P, by rw [hl]; exact hP⟩
  · intro r hr
    obtain ⟨p, hp⟩ := List.mem_iff_getElem?.mp hr
    obtain ⟨a, b, ha, hb, _, _, _, h⟩ := all p r hp
    refine ⟨_, h, fun v hv => ?_⟩
    obtain ⟨s, hs, t, ht, rfl⟩ := zip_mem hv
    obtain ⟨s0, s1⟩ := (ox.pl a (List.mem_of_getElem? ha)).rng s hs
    obtain ⟨r0, r1⟩ := (oy.pl b (List.mem_of_getElem? hb)).rng t ht
    exact mv_range hof hp0 hp1 s0 s1 r0 r1
theorem none_out (hm : mc part of x y ≠ 0) : Out part of x y ⟨0, 0, 0, false, none, 0, []⟩ ∧ ∀ (w : World) (base : Nat), Fmo w base ⟨0, 0, 0, false, none, 0, []⟩ :=
  ⟨⟨fun _ => rfl, fun h => absurd h hm⟩, fun w base => ⟨World.ownsRow_nil w base 38 1, Rows.nil, fun p hp => by simp at hp, by simp, fun p hp => by simp at hp⟩⟩
theorem mixed8 (part of : Int) (ox : x.ok w) (oy : y.ok w) : ∃ (f : Fm) (w' : World), C 8 #[x.v, y.v, .int .i64 part, .int .i64 of] w = some (.tuple #[f.v, .int .i64 (mc part of x y)], w') ∧ w.grownBy w' none ∧ Out part of x y f ∧ Fmo w' w.heap.size f := by
  by_cases h : 1 ≤ of ∧ of ≤ 101 ∧ 0 ≤ part ∧ part ≤ of
  · have hmc : mc part of x y = mcode x.W x.H x.D x.al x.q y.W y.H y.D y.al y.q := by unfold mc; rw [if_pos h]
    obtain ⟨v, w', h1, h2, h3⟩ := mix_ok h.1 h.2.1 h.2.2.1 h.2.2.2 (W := x.W) (H := x.H) (D := x.D) (al := x.al) (ca := x.c) (W' := y.W) (H' := y.H) (D' := y.D) (al' := y.al) (cb := y.c) ox.rd oy.rd ox.pl oy.pl ox.len oy.len
    rcases h3 with ⟨h3, rfl⟩ | ⟨h3, AV, cV, q, rfl, hq, mid, F⟩
    · obtain ⟨k1, k2⟩ := none_out (hmc ▸ h3)
      exact ⟨_, w', by rw [hmc]; exact h1, h2, k1, k2 _ _⟩
    · obtain ⟨k1, k2⟩ := made_out h.1 h.2.2.1 h.2.2.2 ox oy h h3 hq mid F
      exact ⟨_, w', by rw [hmc]; exact h1, h2, k1, k2⟩
  · have hmc : mc part of x y = 1 := by unfold mc; rw [if_neg h]
    obtain ⟨w', h1, h2⟩ := mix_arg h w x.W x.H x.D x.al x.A x.q.length x.c y.W y.H y.D y.al y.A y.q.length y.c
    obtain ⟨k1, k2⟩ := none_out (part := part) (of := of) (x := x) (y := y) (by rw [hmc]; decide)
    exact ⟨_, w', by rw [hmc]; exact h1, h2, k1, k2 _ _⟩
theorem mixed10 (part of : Int) (ox : x.ok w) (oy : y.ok w) : ∃ (f : Fm) (w' : World), C 10 #[x.v, y.v, .int .i64 part, .int .i64 of] w = some (.tuple #[f.v, .int .i64 (mc part of x y)], w') ∧ w.grownBy w' none ∧ Out part of x y f ∧ Fmo w' w.heap.size f := by
  by_cases h : 1 ≤ of ∧ of ≤ 101 ∧ 0 ≤ part ∧ part ≤ of
  · have hmc : mc part of x y = mcode x.W x.H x.D x.al x.q y.W y.H y.D y.al y.q := by unfold mc; rw [if_pos h]
    obtain ⟨v, w', h1, h2, h3⟩ := rmix_ok h.1 h.2.1 h.2.2.1 h.2.2.2 (W := x.W) (H := x.H) (D := x.D) (al := x.al) (ca := x.c) (W' := y.W) (H' := y.H) (D' := y.D) (al' := y.al) (cb := y.c) ox.rd oy.rd ox.pl oy.pl ox.len oy.len
    rcases h3 with ⟨h3, rfl⟩ | ⟨h3, AV, cV, q, rfl, hq, mid, F⟩
    · obtain ⟨k1, k2⟩ := none_out (hmc ▸ h3)
      exact ⟨_, w', by rw [hmc]; exact h1, h2, k1, k2 _ _⟩
    · obtain ⟨k1, k2⟩ := made_out h.1 h.2.2.1 h.2.2.2 ox oy h h3 hq mid F
      exact ⟨_, w', by rw [hmc]; exact h1, h2, k1, k2⟩
  · have hmc : mc part of x y = 1 := by unfold mc; rw [if_neg h]
    obtain ⟨w', h1, h2⟩ := rmix_arg h w x.W x.H x.D x.al x.A x.q.length x.c y.W y.H y.D y.al y.A y.q.length y.c
    obtain ⟨k1, k2⟩ := none_out (part := part) (of := of) (x := x) (y := y) (by rw [hmc]; decide)
    exact ⟨_, w', by rw [hmc]; exact h1, h2, k1, k2 _ _⟩
end
end Go.Sh.YtacfghffojijaaaDoor

namespace Go.Sh.YtacfghffojijaaaDoor
open Go Go.Proofs Go.RowKit
set_option linter.unusedVariables false
set_option linter.unusedSimpArgs false
set_option maxRecDepth 100000
structure Mx where
  a : Fd
  b : Fd
  part : Int
  num : Int
abbrev Mx.cs (m : Mx) : List Value := m.a.cs ++ m.b.cs ++ [.int .i64 m.part, .int .i64 m.num]
structure Inp (w : World) (L : Option Addr) (M : List Mx) : Prop where
  rd : Rd w L (M.flatMap Mx.cs)
  ok : ∀ m ∈ M, m.a.ok w ∧ m.b.ok w
theorem Inp.grown {w w' : World} {L : Option Addr} {M : List Mx} (h : Inp w L M) (hg : w.grownBy w' none) : Inp w' L M := ⟨h.rd.grown hg, fun m hm => ⟨(h.ok m hm).1.grown hg, (h.ok m hm).2.grown hg⟩⟩
theorem flat12 {M : List Mx} {i : Nat} {m : Mx} (h : M[i]? = some m) {k : Nat} (hk : k < 12) : (M.flatMap Mx.cs)[i * 12 + k]? = (Mx.cs m)[k]? := by
  induction M generalizing i with
  | nil => simp at h
  | cons g l ih =>
    rw [List.flatMap_cons]
    cases i with
    | zero =>
      simp only [List.getElem?_cons_zero, Option.some.injEq] at h
      subst h
      rw [Nat.zero_mul, Nat.zero_add, List.getElem?_append_left (by simpa using hk)]
    | succ i =>
      rw [List.getElem?_append_right (by simp; omega)]
      have : (i + 1) * 12 + k - (Mx.cs g).length = i * 12 + k := by simp; omega
      rw [this]
      exact ih (by simpa using h)
/-- what is read of the i-th -/
structure At (w : World) (L : Option Addr) (n c i : Nat) (m : Mx) (a : Addr) : Prop where
  ix : prun Tryd.prog (Instr.indexAt 22 (.slice L n c) (.int .i64 i)) = some (.pointer (some a))
  la : rrun Tryd.prog (Instr.loadAt 30 (.pointer (some a))) w = some m.a.v
  lb : rrun Tryd.prog (Instr.loadAt 30 (.pointer (some (a.add 5)))) w = some m.b.v
  lp : w.cell? (a.add 10) = some (.int .i64 m.part)
  lo : w.cell? (a.add 11) = some (.int .i64 m.num)
theorem Inp.at {w : World} {L : Option Addr} {M : List Mx} (h : Inp w L M) (c : Nat) {i : Nat} {m : Mx} (hi : M[i]? = some m) : ∃ a, (∀ w', w.grownBy w' none → At w' L M.length c i m a) := by
  have hr := h.rd
  have r : ∀ k v, k < 12 → (Mx.cs m)[k]? = some v → (M.flatMap Mx.cs)[i * 12 + k]? = some v := fun k v hk hv => by rw [flat12 hi hk]; exact hv
  have hl := (List.getElem?_eq_some_iff.mp hi).1
  cases L with
  | none =>
    have : M.flatMap Mx.cs = [] := hr
    have h0 := r 0 _ (by omega) rfl
    rw [this] at h0
    simp at h0
  | some a =>
    have ix := ix22 a M.length c .i64 i (by omega) (by omega)
    simp only [Int.toNat_natCast] at ix
    refine ⟨a.add (i * 12), fun w' hg => ?_⟩
    have hr' : Rd w' (some a) (M.flatMap Mx.cs) := hr.grown hg
    have cell : ∀ k v, k < 12 → (Mx.cs m)[k]? = some v → w'.cell? ((a.add (i * 12)).add k) = some v := fun k v hk hv => by rw [Addr.add_add]; exact hr' _ _ (r k v hk hv)
    refine ⟨ix, ld30 (cell 0 _ (by omega) rfl) (cell 1 _ (by omega) rfl) (cell 2 _ (by omega) rfl) (cell 3 _ (by omega) rfl) (cell 4 _ (by omega) rfl), ld30 ?_ ?_ ?_ ?_ ?_, cell 10 _ (by omega) rfl, cell 11 _ (by omega) rfl⟩ <;> (rw [Addr.add_add _ _ _]; first | exact cell 5 _ (by omega) rfl | exact cell 6 _ (by omega) rfl | exact cell 7 _ (by omega) rfl | exact cell 8 _ (by omega) rfl | exact cell 9 _ (by omega) rfl)
theorem Fmo.down {w : World} {base B : Nat} {f : Fm} (h : Fmo w B f) (hb : base ≤ B) : Fmo w base f :=
  ⟨own_rebase h.hd fun k hk => Nat.le_trans hb (h.hd.lt k hk).1, ⟨fun p hp => own_rebase (h.pl.own p hp) fun k hk => Nat.le_trans hb ((h.pl.own p hp).lt k hk).1, h.pl.dis⟩, h.cap, h.len, h.num⟩
theorem Fmo.grew {w w' : World} {base : Nat} {f : Fm} {S : Nat → Prop} (h : Fmo w base f) (hg : Grew S w w') (h1 : ∀ k, f.pv.ownBlock = some k → ¬ S k) (h2 : ∀ k, rfp f.q k → ¬ S k) : Fmo w' base f := ⟨own_grew h.hd hg h1, h.pl.grew hg h2, h.cap, h.len, h.num⟩
/-- a result, stored into its variable -/
theorem hold_out {w w2 : World} {f : Fm} {b : Nat} {cs : List Value} (hb : Blk w2 b 30 cs) (hl : cs.length = 5) (g2 : w.grownBy w2 none) (hwb : w.heap.size ≤ b) {base : Nat} (hf : Fmo w2 base f) :
    ∃ w3, erun Tryd.prog (Instr.storeAt 30 (.pointer (some ⟨b, 0, none⟩)) f.v) w2 = some ((), w3) ∧ Blk w3 b 30 f.cs ∧ w.grownBy w3 none ∧ Fmo w3 base f := by
  obtain ⟨w3, h1, h2, h3⟩ := st30 hb hl f.W f.H f.D f.al f.A f.q.length f.c
  refine ⟨w3, h1, h2, grown_trans g2 h3 (fun k hk => by cases hk; exact hwb), hf.grew (S := fun k => k = b) (grew_of h3 fun k hk => by cases hk; exact .inl rfl) (fun k hk e => ?_) fun k hk e => ?_⟩
  · subst e; exact own_blk_ne hf.hd hb (by decide) hk
  · subst e; exact hf.pl.ne_blk hb (by decide) hk
section
variable {Rt rec1 rec6 : List Value → World → Prop} {L : Option Addr} {M : List Mx} {c i : Nat} {m : Mx} {W : World} (I : Inp W L M) (hi : M[i]? = some m)
include I hi
theorem k11_ok {x y : Fd} {n9 n10 : Nat} (ox : x.ok W) (oy : y.ok W) (b9 : Blk W n9 30 x.cs) (b10 : Blk W n10 30 y.cs) (up O Wt sm n v11 v15 : Value)
    (hK : ∀ (b : Nat) (f : Fm) (w' : World), Blk w' b 30 f.cs → W.grownBy w' none → W.heap.size ≤ b → Out (of := m.num) m.part x y f → Fmo w' W.heap.size f →
      f3.k12 C Rt rec1 rec6 [.slice L M.length c, up, O, Wt, sm, .int .i64 i, n, v11, v15, .pointer (some ⟨b, 0, none⟩), .int .i64 (mc (of := m.num) m.part x y)] w') :
    f3.k11 C Rt rec1 rec6 [.slice L M.length c, up, O, Wt, sm, .int .i64 i, n, .pointer (some ⟨n9, 0, none⟩), .pointer (some ⟨n10, 0, none⟩), v11, v15] W := by
  obtain ⟨a, hat⟩ := I.at c hi
  have gd : W.grownBy W.drew none := grown_drew W none
  obtain ⟨W0, hW0⟩ : ∃ W0, W0 = W.drew := ⟨_, rfl⟩
  rw [← hW0] at gd
  have A0 := hat W0 gd
  have x9 := b9.grown gd (by simp)
  have x10 := b10.grown gd (by simp)
  have s0 : W0.heap.size = W.heap.size := by rw [hW0]; rfl
  refine ⟨rfl, ?_, ?_, trivial⟩
  · obtain ⟨W1, hW1⟩ : ∃ W1, W1 = W0.alloc (.cells #[.int .i64 0, .int .i64 0, .int .i64 0, .bool false, .slice none 0 0] 30) := ⟨_, rfl⟩
    have g1 : W0.grownBy W1 none := hW1 ▸ World.grownBy_alloc W0 _ none
    have z1 : Blk W1 W0.heap.size 30 (fcs 0 0 0 false (.slice none 0 0)) := hW1 ▸ Blk.new W0 30 (fcs 0 0 0 false (.slice none 0 0))
    have G1 := grown_trans gd g1 (by simp)
    have A1 := hat W1 G1
    have y9 := x9.grown g1 (by simp)
    have y10 := x10.grown g1 (by simp)
    obtain ⟨f, W2, h2, g2, o2, m2⟩ := mixed8 (of := m.num) m.part (ox.grown G1) (oy.grown G1)
    obtain ⟨W3, h3, b3, g3, m3⟩ := hold_out (z1.grown g2 (by simp)) rfl (grown_trans G1 g2 (by simp)) (by omega) (m2.down (base := W.heap.size) G1.size)
    have := hK W0.heap.size f W3 b3 g3 (by omega) o2 m3
    simp [nth, ← hW0, alloc30, ← hW1, ld30b x9, ld30b x10, ld30b y9, ld30b y10, A1.ix, A0.lp, A0.lo, A1.lp, A1.lo, h2, h3, chkThen, this]
  · obtain ⟨f, W1, h1, g1, o1, m1⟩ := mixed8 (of := m.num) m.part (ox.grown gd) (oy.grown gd)
    obtain ⟨W2, hW2⟩ : ∃ W2, W2 = W1.alloc (.cells #[.int .i64 0, .int .i64 0, .int .i64 0, .bool false, .slice none 0 0] 30) := ⟨_, rfl⟩
    have g2 : W1.grownBy W2 none := hW2 ▸ World.grownBy_alloc W1 _ none
    have z2 : Blk W2 W1.heap.size 30 (fcs 0 0 0 false (.slice none 0 0)) := hW2 ▸ Blk.new W1 30 (fcs 0 0 0 false (.slice none 0 0))
    have G1 := grown_trans gd g1 (by simp)
    obtain ⟨W3, h3, b3, g3, m3⟩ := hold_out z2 rfl (grown_trans G1 g2 (by simp)) G1.size ((m1.down (base := W.heap.size) gd.size).grew (grew_new (S := fun _ => False) g2) (fun _ _ h => h) (fun _ _ h => h))
    have := hK W1.heap.size f W3 b3 g3 G1.size o1 m3
    simp [nth, ← hW0, alloc30, ← hW2, ld30b x9, ld30b x10, A0.ix, A0.lp, A0.lo, h1, h3, chkThen, this]
end
end Go.Sh.YtacfghffojijaaaDoor

namespace Go.Sh.YtacfghffojijaaaDoor
open Go Go.Proofs Go.RowKit
set_option linter.unusedVariables false
set_option linter.unusedSimpArgs false
set_option maxRecDepth 100000
structure Fd.small (x : Fd) : Prop where
  n : x.q.length ≤ 4294967296
  l : ∀ p ∈ x.q, p.l.length ≤ 4294967296
/-- y reads as x does, each sample a seven -/
structure Svn (x y : Fd) : Prop where
  W : y.W = x.W
  H : y.H = x.H
  D : y.D = x.D
  al : y.al = x.al
  l : y.q.map Pl.l = x.q.map fun p => List.replicate p.l.length 7
theorem Svn.like {x y z : Fd} (h : Svn x y) (h' : Svn x z) : Like y z := ⟨h.W.trans h'.W.symm, h.H.trans h'.H.symm, h.D.trans h'.D.symm, h.al.trans h'.al.symm, h.l.trans h'.l.symm⟩
theorem overed {x : Fd} {w : World} (ox : x.ok w) (hs : x.small) : ∃ (y : Fd) (w' : World), C 11 #[x.v] w = some (y.v, w') ∧ w.grownBy w' none ∧ y.ok w' ∧ Svn x y := by
  obtain ⟨A, c, q, w', h1, h2, h3, h4, h5, h6⟩ := over_ok (W := x.W) (H := x.H) (D := x.D) (al := x.al) (ca := x.c) ox.rd ox.pl hs.n (fun p hp => by have := hs.l p hp; omega)
  refine ⟨⟨x.W, x.H, x.D, x.al, A, c, q⟩, w', h1, h6, ⟨h4, h5, by have := ox.len; simp only; omega⟩, rfl, rfl, rfl, rfl, ?_⟩
  refine List.ext_getElem? fun p => ?_
  simp only [List.getElem?_map]
  by_cases hp : p < x.q.length
  · obtain ⟨a, ha⟩ : ∃ a, x.q[p]? = some a := ⟨_, List.getElem?_eq_getElem hp⟩
    obtain ⟨b, hb⟩ : ∃ b, q[p]? = some b := ⟨_, List.getElem?_eq_getElem (by omega)⟩
    rw [ha, hb]
    simp [h3 p a b ha hb]
  · rw [List.getElem?_eq_none (by omega), List.getElem?_eq_none (by omega)]
    rfl
section
variable {Rt rec1 rec6 : List Value → World → Prop} {L : Option Addr} {M : List Mx} {c i : Nat} {m : Mx} {W : World} (I : Inp W L M) (hi : M[i]? = some m)
include I hi
theorem k12_ok (sa : m.a.small) (sb : m.b.small) (up O Wt sm n v11 v15 v17 v18 : Value)
    (hK : ∀ (b : Nat) (f : Fm) (w' : World) (x y : Fd), Blk w' b 30 f.cs → W.grownBy w' none → W.heap.size ≤ b → Svn m.a x → Svn m.b y → Out (of := m.num) m.part x y f → Fmo w' W.heap.size f →
      f3.k13 C Rt rec1 rec6 [.slice L M.length c, up, O, Wt, sm, .int .i64 i, n, v11, v15, v17, v18, .pointer (some ⟨b, 0, none⟩), .int .i64 (mc (of := m.num) m.part x y)] w') :
    f3.k12 C Rt rec1 rec6 [.slice L M.length c, up, O, Wt, sm, .int .i64 i, n, v11, v15, v17, v18] W := by
  obtain ⟨a, hat⟩ := I.at c hi
  have gd : W.grownBy W.drew none := grown_drew W none
  obtain ⟨W0, hW0⟩ : ∃ W0, W0 = W.drew := ⟨_, rfl⟩
  rw [← hW0] at gd
  have A0 := hat W0 gd
  have s0 : W0.heap.size = W.heap.size := by rw [hW0]; rfl
  obtain ⟨oa, ob⟩ := I.ok m (List.mem_of_getElem? hi)
  have al : ∀ w : World, ∃ w1, w1 = w.alloc (.cells #[.int .i64 0, .int .i64 0, .int .i64 0, .bool false, .slice none 0 0] 30) ∧ w.grownBy w1 none ∧ Blk w1 w.heap.size 30 (fcs 0 0 0 false (.slice none 0 0)) := fun w =>
    ⟨_, rfl, World.grownBy_alloc w _ none, Blk.new w 30 (fcs 0 0 0 false (.slice none 0 0))⟩
  refine ⟨rfl, ?_, ?_, ?_, ?_, trivial⟩
  · obtain ⟨W1, hW1, g1, z1⟩ := al W0
    have G1 := grown_trans gd g1 (by simp)
    obtain ⟨x, W2, h2, g2, ox, sx⟩ := overed (oa.grown G1) sa
    have G2 := grown_trans G1 g2 (by simp)
    obtain ⟨y, W3, h3, g3, oy, sy⟩ := overed (ob.grown G2) sb
    have G3 := grown_trans G2 g3 (by simp)
    obtain ⟨f, W4, h4, g4, o4, m4⟩ := mixed10 (of := m.num) m.part (ox.grown g3) oy
    have G4 := grown_trans G3 g4 (by simp)
    obtain ⟨W5, h5, b5, g5, m5⟩ := hold_out (((z1.grown g2 (by simp)).grown g3 (by simp)).grown g4 (by simp)) rfl G4 (by omega) (m4.down (base := W.heap.size) G3.size)
    have A1 := hat W1 G1
    have A2 := hat W2 G2
    have A3 := hat W3 G3
    have := hK W0.heap.size f W5 x y b5 g5 (by omega) sx sy o4 m5
    simp [nth, ← hW0, alloc30, ← hW1, A1.ix, A0.la, A0.lb, A0.lp, A0.lo, A1.la, A1.lb, A1.lp, A1.lo, A2.la, A2.lb, A2.lp, A2.lo, A3.la, A3.lb, A3.lp, A3.lo, h2, h3, h4, h5, chkThen, this]
  · obtain ⟨x, W1, h1, g1, ox, sx⟩ := overed (oa.grown gd) sa
    have G1 := grown_trans gd g1 (by simp)
    obtain ⟨W2, hW2, g2, z2⟩ := al W1
    have G2 := grown_trans G1 g2 (by simp)
    obtain ⟨y, W3, h3, g3, oy, sy⟩ := overed (ob.grown G2) sb
    have G3 := grown_trans G2 g3 (by simp)
    obtain ⟨f, W4, h4, g4, o4, m4⟩ := mixed10 (of := m.num) m.part ((ox.grown g2).grown g3) oy
    have G4 := grown_trans G3 g4 (by simp)
    obtain ⟨W5, h5, b5, g5, m5⟩ := hold_out ((z2.grown g3 (by simp)).grown g4 (by simp)) rfl G4 G1.size (m4.down (base := W.heap.size) G3.size)
    have A1 := hat W1 G1
    have A2 := hat W2 G2
    have A3 := hat W3 G3
    have := hK W1.heap.size f W5 x y b5 g5 G1.size sx sy o4 m5
    simp [nth, ← hW0, alloc30, ← hW2, A1.ix, A0.la, A0.lb, A0.lp, A0.lo, A1.la, A1.lb, A1.lp, A1.lo, A2.la, A2.lb, A2.lp, A2.lo, A3.la, A3.lb, A3.lp, A3.lo, h1, h3, h4, h5, chkThen, this]
  · obtain ⟨x, W1, h1, g1, ox, sx⟩ := overed (oa.grown gd) sa
    have G1 := grown_trans gd g1 (by simp)
    obtain ⟨y, W2, h2, g2, oy, sy⟩ := overed (ob.grown G1) sb
    have G2 := grown_trans G1 g2 (by simp)
    obtain ⟨W3, hW3, g3, z3⟩ := al W2
    have G3 := grown_trans G2 g3 (by simp)
    obtain ⟨f, W4, h4, g4, o4, m4⟩ := mixed10 (of := m.num) m.part ((ox.grown g2).grown g3) (oy.grown g3)
    have G4 := grown_trans G3 g4 (by simp)
    obtain ⟨W5, h5, b5, g5, m5⟩ := hold_out (z3.grown g4 (by simp)) rfl G4 G2.size (m4.down (base := W.heap.size) G3.size)
    have A1 := hat W1 G1
    have A2 := hat W2 G2
    have A3 := hat W3 G3
    have := hK W2.heap.size f W5 x y b5 g5 G2.size sx sy o4 m5
    simp [nth, ← hW0, alloc30, ← hW3, A1.ix, A0.la, A0.lb, A0.lp, A0.lo, A1.la, A1.lb, A1.lp, A1.lo, A2.la, A2.lb, A2.lp, A2.lo, A3.la, A3.lb, A3.lp, A3.lo, h1, h2, h4, h5, chkThen, this]
  · obtain ⟨x, W1, h1, g1, ox, sx⟩ := overed (oa.grown gd) sa
    have G1 := grown_trans gd g1 (by simp)
    obtain ⟨y, W2, h2, g2, oy, sy⟩ := overed (ob.grown G1) sb
    have G2 := grown_trans G1 g2 (by simp)
    obtain ⟨f, W3, h3, g3, o3, m3⟩ := mixed10 (of := m.num) m.part (ox.grown g2) oy
    have G3 := grown_trans G2 g3 (by simp)
    obtain ⟨W4, hW4, g4, z4⟩ := al W3
    have G4 := grown_trans G3 g4 (by simp)
    obtain ⟨W5, h5, b5, g5, m5⟩ := hold_out z4 rfl G4 G3.size ((m3.down (base := W.heap.size) G2.size).grew (grew_new (S := fun _ => False) g4) (fun _ _ h => h) (fun _ _ h => h))
    have A1 := hat W1 G1
    have A2 := hat W2 G2
    have A3 := hat W3 G3
    have := hK W3.heap.size f W5 x y b5 g5 G3.size sx sy o3 m5
    simp [nth, ← hW0, alloc30, ← hW4, A1.ix, A0.la, A0.lb, A0.lp, A0.lo, A1.la, A1.lb, A1.lp, A1.lo, A2.la, A2.lb, A2.lp, A2.lo, A3.la, A3.lb, A3.lp, A3.lo, h1, h2, h3, h5, chkThen, this]
end
end Go.Sh.YtacfghffojijaaaDoor

namespace Go.Sh.YtacfghffojijaaaDoor
open Go Go.Proofs Go.RowKit
set_option linter.unusedVariables false
set_option linter.unusedSimpArgs false
set_option maxRecDepth 100000
theorem rows_app {w : World} {base : Nat} {e : TypeId} {q q' : List (Value × List Value)} (h : Rows w base e q) (h' : Rows w base e q') (hd : ∀ k, rfp q k → ¬ rfp q' k) : Rows w base e (q ++ q') := by
  refine ⟨fun p hp => ?_, fun i j p p' hi hj hij k hk hk' => ?_⟩
  · rcases List.mem_append.mp hp with hp | hp
    · exact h.own p hp
    · exact h'.own p hp
  · by_cases h1 : i < q.length
    · rw [List.getElem?_append_left h1] at hi
      by_cases h2 : j < q.length
      · rw [List.getElem?_append_left h2] at hj
        exact h.dis i j p p' hi hj hij k hk hk'
      · rw [List.getElem?_append_right (by omega)] at hj
        exact hd k ⟨p, List.mem_of_getElem? hi, hk⟩ ⟨p', List.mem_of_getElem? hj, hk'⟩
    · rw [List.getElem?_append_right (by omega)] at hi
      by_cases h2 : j < q.length
      · rw [List.getElem?_append_left h2] at hj
        exact hd k ⟨p', List.mem_of_getElem? hj, hk'⟩ ⟨p, List.mem_of_getElem? hi, hk⟩
      · rw [List.getElem?_append_right (by omega)] at hj
        exact h'.dis _ _ p p' hi hj (by omega) k hk hk'
def ten (f t : Fm) : List Value := f.cs ++ t.cs
theorem bs24_2 (f t : Fm) (w : World) : erun Tryd.prog (Instr.buildSlice 24 2 #[(0, f.v), (1, t.v)]) w = some (.slice (some ⟨w.heap.size, 0, none⟩) 2 2, w.alloc (.cells (ten f t).toArray 30)) := id (by kernel_rfl)
theorem Fms.push2 {w : World} {base : Nat} {O : Value} {l : List Fm} (h : Fms w base O l) {f t : Fm} (hf : Fmo w base f) (ht : Fmo w base t) (d1 : ∀ k, rfp (allq l) k → ¬ rfp f.q k) (d2 : ∀ k, rfp (allq l) k → ¬ rfp t.q k) (d3 : ∀ k, rfp f.q k → ¬ rfp t.q k) (hl : l.length ≤ 34359738368) (hbase : base ≤ w.heap.size) :
    ∃ O' w1, erun Tryd.prog (Builtin.append_ #[24, 24] 24 #[O, .slice (some ⟨w.heap.size, 0, none⟩) 2 2]) (w.alloc (.cells (ten f t).toArray 30)) = some (O', w1) ∧ Fms w1 base O' (l ++ [f, t]) ∧ w.grownBy w1 O.ownBlock ∧ ∀ k, O'.ownBlock = some k → O.ownBlock = some k ∨ w.heap.size ≤ k := by
  obtain ⟨W1, hW1⟩ : ∃ W1, W1 = w.alloc (.cells (ten f t).toArray 30) := ⟨_, rfl⟩
  have g1 : w.grownBy W1 none := hW1 ▸ World.grownBy_alloc w _ none
  have z1 : Blk W1 w.heap.size 30 (ten f t) := hW1 ▸ Blk.new w 30 (ten f t)
  have r1 : Rd W1 (some ⟨w.heap.size, 0, none⟩) (ten f t) := by
    intro j v hj
    rw [addL, Nat.zero_add]
    exact z1.cell_eq j hj
  have hm : (maxLen : Nat) = 9223372036854775807 := rfl
  obtain ⟨O', w2, h2, o2, g2, k2⟩ := e_append2 (P := Tryd.prog) (ty := 24) Tryd.underlying24 inf30 zero30 size30 bytes30 rfl (by decide) (own_new h.row g1) (A := some ⟨w.heap.size, 0, none⟩) (m := 2) (c := 2) (news := ten f t) rfl r1 (fun h => by cases h) (by
    intro u hu
    simp [ten] at hu
    rcases hu with rfl | rfl | rfl | rfl | rfl | rfl | rfl | rfl | rfl | rfl <;> rfl) (by omega) (by omega) (Nat.le_trans hbase g1.size)
  rw [← hW1]
  have G : Grew (fun k => O.ownBlock = some k) w w2 := (grew_new g1).step (grew_of g2 fun k hk => .inl hk)
  have n38 : ∀ {v : Value} {n : Nat} {xs : List Value} {b : Nat}, w.ownsRow b 38 1 v n xs → ∀ k, v.ownBlock = some k → ¬ O.ownBlock = some k := fun o k hk hk' => own_own_ne o h.row (by decide) hk hk'
  have n39 : ∀ {q : List (Value × List Value)} {b : Nat}, Rows w b 39 q → ∀ k, rfp q k → ¬ O.ownBlock = some k := fun r k hk hk' => r.ne_own h.row (by decide) hk' hk
  refine ⟨O', w2, h2, ⟨?_, ?_, ?_, ?_, ?_⟩, ⟨G.os, G.tape, G.output, G.size, fun k hk hn => G.block k hk fun e => hn e.symm⟩, fun k hk => (k2 k hk).imp id fun h => Nat.le_trans g1.size h⟩
  · simpa [ten] using o2
  · intro x hx
    simp only [List.mem_append, List.mem_cons, List.not_mem_nil, or_false] at hx
    rcases hx with hx | rfl | rfl
    · exact own_grew (h.hd x hx) G (n38 (h.hd x hx))
    · exact own_grew hf.hd G (n38 hf.hd)
    · exact own_grew ht.hd G (n38 ht.hd)
  · have : allq (l ++ [f, t]) = allq l ++ (f.q ++ t.q) := by simp [allq]
    rw [this]
    refine rows_app (h.pl.grew G (n39 h.pl)) (rows_app (hf.pl.grew G (n39 hf.pl)) (ht.pl.grew G (n39 ht.pl)) d3) fun k hk hk' => ?_
    obtain ⟨p, hp, hpk⟩ := hk'
    rcases List.mem_append.mp hp with hp | hp
    · exact d1 k hk ⟨p, hp, hpk⟩
    · exact d2 k hk ⟨p, hp, hpk⟩
  · intro p hp
    have : allq (l ++ [f, t]) = allq l ++ (f.q ++ t.q) := by simp [allq]
    rw [this] at hp
    rcases List.mem_append.mp hp with hp | hp
    · exact h.cap p hp
    rcases List.mem_append.mp hp with hp | hp
    · exact hf.cap p hp
    · exact ht.cap p hp
  · intro x hx
    simp only [List.mem_append, List.mem_cons, List.not_mem_nil, or_false] at hx
    rcases hx with hx | rfl | rfl
    · exact h.len x hx
    · exact hf.len
    · exact ht.len
/-- the two lists, as they go on -/
structure Two (w : World) (base : Nat) (O Wt : Value) (l m : List Fm) : Prop where
  F : Fms w base O l
  E : Fms w base Wt m
  ne : ∀ k, O.ownBlock = some k → Wt.ownBlock ≠ some k
  len : l.length = m.length
  same : ∀ (i : Nat) f g, l[i]? = some f → m[i]? = some g → Same f g
theorem Two.new {w w' : World} {base : Nat} {O Wt : Value} {l m : List Fm} (h : Two w base O Wt l m) (hg : w.grownBy w' none) : Two w' base O Wt l m := ⟨h.F.new hg, h.E.new hg, h.ne, h.len, h.same⟩
theorem same_push {l m : List Fm} (hl : l.length = m.length) (hs : ∀ (i : Nat) f g, l[i]? = some f → m[i]? = some g → Same f g) {f t g v : Fm} (h1 : Same f g) (h2 : Same t v) : ∀ (i : Nat) x y, (l ++ [f, t])[i]? = some x → (m ++ [g, v])[i]? = some y → Same x y := by
  intro i x y hx hy
  by_cases h : i < l.length
  · rw [List.getElem?_append_left h] at hx
    rw [List.getElem?_append_left (by omega)] at hy
    exact hs i x y hx hy
  · rw [List.getElem?_append_right (by omega)] at hx
    rw [List.getElem?_append_right (by omega)] at hy
    rw [← hl] at hy
    match i - l.length, hx, hy with
    | 0, hx, hy => simp at hx hy; subst hx hy; exact h1
    | 1, hx, hy => simp at hx hy; subst hx hy; exact h2
    | n + 2, hx, hy => simp at hx
/-- a result in its variable: its blocks lie from N on -/
structure Held (w : World) (N b : Nat) (f : Fm) : Prop where
  blk : Blk w b 30 f.cs
  out : Fmo w N f
  ge : N ≤ b
theorem Held.grew {w w' : World} {N b : Nat} {f : Fm} {S : Nat → Prop} (h : Held w N b f) (hg : Grew S w w') (hn : ∀ k, N ≤ k → k < w.heap.size → ¬ S k) : Held w' N b f :=
  ⟨h.blk.grew hg (hn b h.ge h.blk.lt), h.out.grew hg (fun k hk => hn k (h.out.hd.lt k hk).1 (h.out.hd.lt k hk).2) (fun k hk => hn k (h.out.pl.ge hk).1 (h.out.pl.ge hk).2), h.ge⟩
theorem Held.new {w w' : World} {N b : Nat} {f : Fm} (h : Held w N b f) (hg : w.grownBy w' none) : Held w' N b f := h.grew (grew_new (S := fun _ => False) hg) fun _ _ _ h => h
/-- all blocks of a result lie below this -/
def Till (N : Nat) (f : Fm) : Prop := ∀ k, rfp f.q k → k < N
section
variable {Rt rec1 rec6 : List Value → World → Prop} {base : Nat} {w0 w : World} {O Wt : Value} {l e : List Fm}
theorem k13_ok (T : Two w base O Wt l e) (hb : base ≤ w.heap.size) (hl : l.length ≤ 34359738368) {N1 N2 N3 N4 b11 b15 b17 b19 : Nat} {f g t v : Fm} (hf : Held w N1 b11 f) (hg : Held w N2 b15 g) (ht : Held w N3 b17 t) (hv : Held w N4 b19 v)
    (n1 : base ≤ N1) (n2 : N1 ≤ N2) (n3 : N2 ≤ N3) (n4 : N3 ≤ N4) (tl : ∀ k, (rfp (allq l) k → k < N1) ∧ (rfp (allq e) k → k < N1) ∧ (O.ownBlock = some k → k < N1) ∧ (Wt.ownBlock = some k → k < N1)) (tf : Till N2 f) (tg : Till N3 g) (s1 : Same f g) (s2 : Same t v) (t0 up sm i : Value) (n : Nat) (hn : n ≤ 100) (u : Int)
    (hK : ∀ O' Wt' w', Two w' base O' Wt' (l ++ [f, t]) (e ++ [g, v]) → Grew (fun k => O.ownBlock = some k ∨ Wt.ownBlock = some k) w w' → rec6 [t0, up, O', Wt', sm, i, .int .i64 ((n + 1 : Nat) : Int)] w') :
    f3.k13 C Rt rec1 rec6 [t0, up, O, Wt, sm, i, .int .i64 n, .pointer (some ⟨b11, 0, none⟩), .pointer (some ⟨b15, 0, none⟩), .pointer (some ⟨b17, 0, none⟩), .int .i64 u, .pointer (some ⟨b19, 0, none⟩), .int .i64 u] w := by
  have dn : ∀ {N b : Nat} {f : Fm}, Held w N b f → base ≤ N → Fmo w base f := fun h hN => h.out.down hN
  have lo : ∀ {N b : Nat} {f : Fm}, Held w N b f → ∀ k, rfp f.q k → N ≤ k := fun h k hk => (h.out.pl.ge hk).1
  obtain ⟨O', w1, h1, F1, g1, k1⟩ := T.F.push2 (dn hf n1) (dn ht (by omega)) (fun k hk hk' => by have := (tl k).1 hk; have := lo hf k hk'; omega) (fun k hk hk' => by have := (tl k).1 hk; have := lo ht k hk'; omega) (fun k hk hk' => by have := tf k hk; have := lo ht k hk'; omega) hl hb
  have G1 : Grew (fun k => O.ownBlock = some k) w w1 := grew_of g1 fun k hk => .inl hk
  have off : ∀ {N b : Nat} {f : Fm}, Held w N b f → N1 ≤ N → Held w1 N b f := fun h hN => h.grew G1 fun k hk _ hO => by have := (tl k).2.2.1 hO; omega
  have E1 : Fms w1 base Wt e := T.E.grew G1 fun k hk hO => by
    rcases hk with hk | ⟨x, hx, hk⟩ | hk
    · exact T.ne k hO hk
    · exact own_own_ne (T.E.hd x hx) T.F.row (by decide) hk hO
    · exact T.E.pl.ne_own T.F.row (by decide) hO hk
  have hg1 := off hg n2
  have hv1 := off hv (by omega)
  obtain ⟨Wt', w2, h2, E2, g2, k2⟩ := E1.push2 (hg1.out.down (base := base) (by omega)) (hv1.out.down (base := base) (by omega)) (fun k hk hk' => by have := (tl k).2.1 hk; have := lo hg k hk'; omega) (fun k hk hk' => by have := (tl k).2.1 hk; have := lo hv k hk'; omega) (fun k hk hk' => by have := tg k hk; have := lo hv k hk'; omega) (by have := T.len; omega) (Nat.le_trans hb g1.size)
  have G2 : Grew (fun k => Wt.ownBlock = some k) w1 w2 := grew_of g2 fun k hk => .inl hk
  have nO : ∀ k, O'.ownBlock = some k → ¬ Wt.ownBlock = some k := fun k hk hW => by
    rcases k1 k hk with h | h
    · exact T.ne k h hW
    · have := (T.E.row.lt k hW).2; omega
  have F2 : Fms w2 base O' (l ++ [f, t]) := F1.grew G2 fun k hk hW => by
    rcases hk with hk | ⟨x, hx, hk⟩ | hk
    · exact nO k hk hW
    · exact own_own_ne (F1.hd x hx) E1.row (by decide) hk hW
    · exact F1.pl.ne_own E1.row (by decide) hW hk
  have T2 : Two w2 base O' Wt' (l ++ [f, t]) (e ++ [g, v]) := ⟨F2, E2, fun k hk hW => by
    rcases k2 k hW with h | h
    · exact nO k hk h
    · have := (F1.row.lt k hk).2; omega, by simp [T.len], same_push T.len T.same s1 s2⟩
  have := hK O' Wt' w2 T2 (((G1.weak fun k hk => .inl (.inl hk)).step (G2.weak (S := fun k => O.ownBlock = some k ∨ Wt.ownBlock = some k) fun k hk => .inl (.inr hk))))
  have e3 : IntKind.i64.wrap ((n : Int) + 1) = (n : Int) + 1 := wrap_i64 (by omega) (by omega)
  have l11 := ld30b hf.blk
  have l17 := ld30b ht.blk
  have l15 := ld30b hg1.blk
  have l19 := ld30b hv1.blk
  have c1 := bs24_2 f t w
  have c2 := bs24_2 g v w1
  simp only [Int.natCast_add, Int.cast_ofNat_Int] at this
  simp [f3.k13, nth, l11, l17, c1, h1, l15, l19, c2, h2, after, f3.k14, f3.k8, e3, this]
end
end Go.Sh.YtacfghffojijaaaDoor

namespace Go.Sh.YtacfghffojijaaaDoor
open Go Go.Proofs Go.RowKit
set_option linter.unusedVariables false
set_option linter.unusedSimpArgs false
set_option maxRecDepth 100000
theorem cp_fd {w w' : World} {base : Nat} {x : Fd} {AV : Option Addr} {cV : Nat} {q : List (Value × List Value)} (F : Cp w base (.slice AV x.q.length cV) q) (hq : q.length = x.q.length) (hall : Cpd x.q q) (ox : x.ok w') (hs : x.small) :
    ∃ y : Fd, y.v = fv x.W x.H x.D x.al AV x.q.length cV ∧ y.cs = fcs x.W x.H x.D x.al (.slice AV x.q.length cV) ∧ y.ok w ∧ Like y x := by
  rw [← hq] at F
  obtain ⟨ql, h1, h2, h3, h4⟩ := cp_pl F (fun p => ((x.q[p]?).map Pl.l).getD []) (fun p y hy => by
    have hp := (List.getElem?_eq_some_iff.mp hy).1
    obtain ⟨a, ha⟩ : ∃ a, x.q[p]? = some a := ⟨_, List.getElem?_eq_getElem (by omega)⟩
    obtain ⟨A, c, h1, h2⟩ := hall p y a hy ha
    simp only [ha, Option.map_some, Option.getD_some]
    exact ⟨⟨A, c, by rw [h1], h2⟩, ⟨mk2, by rw [h1], rfl⟩, hs.l a (List.mem_of_getElem? ha), (ox.pl a (List.mem_of_getElem? ha)).rng⟩)
  refine ⟨⟨x.W, x.H, x.D, x.al, AV, cV, ql⟩, by simp only [Fd.v]; rw [h1, hq], by simp only [Fd.cs]; rw [h1, hq], ⟨h3, h4, by have := ox.len; simp only; omega⟩, rfl, rfl, rfl, rfl, ?_⟩
  refine List.ext_getElem? fun p => ?_
  simp only [List.getElem?_map]
  by_cases hp : p < x.q.length
  · obtain ⟨a, ha⟩ : ∃ a, x.q[p]? = some a := ⟨_, List.getElem?_eq_getElem hp⟩
    obtain ⟨b, hb⟩ : ∃ b, ql[p]? = some b := ⟨_, List.getElem?_eq_getElem (by omega)⟩
    have := h2 p b hb
    simp only [ha, Option.map_some, Option.getD_some] at this
    rw [ha, hb]
    simp [this]
  · rw [List.getElem?_eq_none (by omega), List.getElem?_eq_none (by omega)]
theorem stl_fd {w w' : World} {base : Nat} {x : Fd} {AV : Option Addr} {cV : Nat} {q0 q : List (Value × List Value)} (F : Cp w base (.slice AV x.q.length cV) q) (hq0 : q0.length = x.q.length) (hq : q.length = x.q.length) (hall : Cpd x.q q0) (hst : Stl x.q q0 q x.q.length) (ox : x.ok w') (hs : x.small) :
    ∃ y : Fd, y.cs = fcs x.W x.H x.D x.al (.slice AV x.q.length cV) ∧ y.ok w ∧ Svn x y := by
  rw [← hq] at F
  obtain ⟨ql, h1, h2, h3, h4⟩ := cp_pl F (fun p => ((x.q[p]?).map fun a => List.replicate a.l.length 7).getD []) (fun p y hy => by
    have hp := (List.getElem?_eq_some_iff.mp hy).1
    obtain ⟨a, ha⟩ : ∃ a, x.q[p]? = some a := ⟨_, List.getElem?_eq_getElem (by omega)⟩
    obtain ⟨⟨z, hz, hy1⟩, hy2⟩ := hst p y a hy ha
    obtain ⟨A, c, k1, k2⟩ := hall p z a hz ha
    rw [if_pos (by omega)] at hy2
    have hl := hs.l a (List.mem_of_getElem? ha)
    simp only [ha, Option.map_some, Option.getD_some, List.length_replicate]
    refine ⟨⟨A, c, by rw [hy1, k1], k2⟩, ⟨[.int .u16 7, .int .u16 7], ?_, rfl⟩, hl, fun u hu => ?_⟩
    · rw [hy2]
      simp [uv, List.replicate_succ']
    · obtain rfl := (List.mem_replicate.mp hu).2
      omega)
  refine ⟨⟨x.W, x.H, x.D, x.al, AV, cV, ql⟩, by simp only [Fd.cs]; rw [h1, hq], ⟨h3, h4, by have := ox.len; simp only; omega⟩, rfl, rfl, rfl, rfl, ?_⟩
  refine List.ext_getElem? fun p => ?_
  simp only [List.getElem?_map]
  by_cases hp : p < x.q.length
  · obtain ⟨a, ha⟩ : ∃ a, x.q[p]? = some a := ⟨_, List.getElem?_eq_getElem hp⟩
    obtain ⟨b, hb⟩ : ∃ b, ql[p]? = some b := ⟨_, List.getElem?_eq_getElem (by omega)⟩
    have := h2 p b hb
    simp only [ha, Option.map_some, Option.getD_some] at this
    rw [ha, hb]
    simp [this]
  · rw [List.getElem?_eq_none (by omega), List.getElem?_eq_none (by omega)]
    rfl
/-- a copy in its variable: its blocks lie from N on -/
structure Cpy (w : World) (N b : Nat) (x : Fd) (q : List (Value × List Value)) (AV : Option Addr) (cV : Nat) : Prop where
  blk : Blk w b 30 (fcs x.W x.H x.D x.al (.slice AV x.q.length cV))
  cp : Cp w N (.slice AV x.q.length cV) q
  len : q.length = x.q.length
  all : Cpd x.q q
  ge : N ≤ b
theorem Cpy.new {w w' : World} {N b : Nat} {x : Fd} {q : List (Value × List Value)} {AV : Option Addr} {cV : Nat} (h : Cpy w N b x q AV cV) (hg : w.grownBy w' none) : Cpy w' N b x q AV cV := ⟨h.blk.grown hg (by simp), h.cp.new hg, h.len, h.all, h.ge⟩
theorem Cpy.grew {w w' : World} {N b : Nat} {x : Fd} {q : List (Value × List Value)} {AV : Option Addr} {cV : Nat} {S : Nat → Prop} (h : Cpy w N b x q AV cV) (hg : Grew S w w') (hn : ∀ k, (k = b ∨ (Value.slice AV x.q.length cV).ownBlock = some k ∨ rfp q k) → ¬ S k) : Cpy w' N b x q AV cV :=
  ⟨h.blk.grew hg (hn b (.inl rfl)), h.cp.grew hg (fun k hk => hn k (.inr (.inl hk))) (fun k hk => hn k (.inr (.inr hk))), h.len, h.all, h.ge⟩
structure Sld (w : World) (N b : Nat) (x : Fd) (q0 q : List (Value × List Value)) (AV : Option Addr) (cV : Nat) : Prop where
  blk : Blk w b 30 (fcs x.W x.H x.D x.al (.slice AV x.q.length cV))
  cp : Cp w N (.slice AV x.q.length cV) q
  len0 : q0.length = x.q.length
  len : q.length = x.q.length
  all : Cpd x.q q0
  st : Stl x.q q0 q x.q.length
theorem Sld.sub {w : World} {N b : Nat} {x : Fd} {q0 q : List (Value × List Value)} {AV : Option Addr} {cV : Nat} (h : Sld w N b x q0 q AV cV) {k : Nat} (hk : rfp q k) : rfp q0 k := by
  obtain ⟨p, hp, hk⟩ := hk
  obtain ⟨j, hj⟩ := List.mem_iff_getElem?.mp hp
  have hjl := (List.getElem?_eq_some_iff.mp hj).1
  obtain ⟨a, ha⟩ : ∃ a, x.q[j]? = some a := ⟨_, List.getElem?_eq_getElem (by have := h.len; omega)⟩
  obtain ⟨⟨z, hz, e⟩, _⟩ := h.st j p a hj ha
  exact ⟨z, List.mem_of_getElem? hz, e ▸ hk⟩
theorem Sld.grew {w w' : World} {N b : Nat} {x : Fd} {q0 q : List (Value × List Value)} {AV : Option Addr} {cV : Nat} {S : Nat → Prop} (h : Sld w N b x q0 q AV cV) (hg : Grew S w w') (hn : ∀ k, (k = b ∨ (Value.slice AV x.q.length cV).ownBlock = some k ∨ rfp q0 k) → ¬ S k) : Sld w' N b x q0 q AV cV :=
  ⟨h.blk.grew hg (hn b (.inl rfl)), h.cp.grew hg (fun k hk => hn k (.inr (.inl hk))) (fun k hk => hn k (.inr (.inr (h.sub hk)))), h.len0, h.len, h.all, h.st⟩
theorem Sld.new {w w' : World} {N b : Nat} {x : Fd} {q0 q : List (Value × List Value)} {AV : Option Addr} {cV : Nat} (h : Sld w N b x q0 q AV cV) (hg : w.grownBy w' none) : Sld w' N b x q0 q AV cV := h.grew (grew_new (S := fun _ => False) hg) fun _ _ h => h
theorem Sld.fd {w w' : World} {N b : Nat} {x : Fd} {q0 q : List (Value × List Value)} {AV : Option Addr} {cV : Nat} (h : Sld w N b x q0 q AV cV) (ox : x.ok w') (hs : x.small) : ∃ y : Fd, Blk w b 30 y.cs ∧ y.ok w ∧ Svn x y := by
  obtain ⟨y, y1, y2, y3⟩ := stl_fd h.cp h.len0 h.len h.all h.st ox hs
  exact ⟨y, y1 ▸ h.blk, y2, y3⟩
theorem Cpy.fd {w w' : World} {N b : Nat} {x : Fd} {q : List (Value × List Value)} {AV : Option Addr} {cV : Nat} (h : Cpy w N b x q AV cV) (ox : x.ok w') (hs : x.small) : ∃ y : Fd, y.cs = fcs x.W x.H x.D x.al (.slice AV x.q.length cV) ∧ Blk w b 30 y.cs ∧ y.ok w ∧ Like y x := by
  obtain ⟨y, _, y1, y2, y3⟩ := cp_fd h.cp h.len h.all ox hs
  exact ⟨y, y1, y1 ▸ h.blk, y2, y3⟩
/-- it is asked, and written over -/
theorem stilled {w : World} {N b : Nat} {x : Fd} {q : List (Value × List Value)} {AV : Option Addr} {cV : Nat} (h : Cpy w N b x q AV cV) (ox : x.ok w) (hs : x.small) :
    ∃ (q' : List (Value × List Value)) (w1 : World), C 9 #[fv x.W x.H x.D x.al AV x.q.length cV, x.v] w = some (.bool true, w1) ∧ Grew (rfp q) w w1 ∧ Sld w1 N b x q q' AV cV := by
  obtain ⟨q', w1, h1, h2, h3, h4, h5⟩ := still_ok (W := x.W) (H := x.H) (D := x.D) (al := x.al) (cV := cV) (ca := x.c) ox.rd ox.pl hs.n hs.l h.len h.all h.cp
  exact ⟨q', w1, h1, h5, h.blk.grew h5 (h.cp.pl.ne_blk h.blk (by decide)), h4, h.len, h2, h.all, h3⟩
/-- a copy, stored into its variable -/
theorem copied_in {w : World} {x : Fd} (ox : x.ok w) (hs : x.small) (hnil : ∀ p ∈ x.q, p.A = none → p.c = 0) :
    ∃ (AV : Option Addr) (cV : Nat) (q : List (Value × List Value)) (w1 w3 : World), C 7 #[x.v] w = some (fv x.W x.H x.D x.al AV x.q.length cV, w1) ∧
      erun Tryd.prog (Instr.storeAt 30 (.pointer (some ⟨w1.heap.size, 0, none⟩)) (fv x.W x.H x.D x.al AV x.q.length cV)) (w1.alloc (.cells #[.int .i64 0, .int .i64 0, .int .i64 0, .bool false, .slice none 0 0] 30)) = some ((), w3) ∧
      Cpy w3 w.heap.size w1.heap.size x q AV cV ∧ w.grownBy w3 none := by
  obtain ⟨AV, cV, q, w1, h1, h2, h3, h4, h5⟩ := copied_ok (W := x.W) (H := x.H) (D := x.D) (al := x.al) (ca := x.c) ox.rd ox.pl hnil hs.n hs.l
  rw [h2] at h1 h4
  obtain ⟨W2, hW2⟩ : ∃ W2, W2 = w1.alloc (.cells #[.int .i64 0, .int .i64 0, .int .i64 0, .bool false, .slice none 0 0] 30) := ⟨_, rfl⟩
  have g2 : w1.grownBy W2 none := hW2 ▸ World.grownBy_alloc w1 _ none
  have z2 : Blk W2 w1.heap.size 30 (fcs 0 0 0 false (.slice none 0 0)) := hW2 ▸ Blk.new w1 30 (fcs 0 0 0 false (.slice none 0 0))
  obtain ⟨w3, k1, k2, k3⟩ := st30 z2 rfl x.W x.H x.D x.al AV x.q.length cV
  have G3 : w1.grownBy w3 none := grown_trans g2 k3 fun k hk => by cases hk; exact Nat.le_refl _
  exact ⟨AV, cV, q, w1, w3, h1, hW2 ▸ k1, ⟨k2, h4.new G3, h2, h3, h5.size⟩, grown_trans h5 G3 (by simp)⟩
end Go.Sh.YtacfghffojijaaaDoor

namespace Go.Sh.YtacfghffojijaaaDoor
open Go Go.Proofs Go.RowKit
set_option linter.unusedVariables false
set_option linter.unusedSimpArgs false
set_option maxRecDepth 100000
theorem al30 (w : World) : ∃ w1, w1 = w.alloc (.cells #[.int .i64 0, .int .i64 0, .int .i64 0, .bool false, .slice none 0 0] 30) ∧ w.grownBy w1 none ∧ Blk w1 w.heap.size 30 (fcs 0 0 0 false (.slice none 0 0)) :=
  ⟨_, rfl, World.grownBy_alloc w _ none, Blk.new w 30 (fcs 0 0 0 false (.slice none 0 0))⟩
section
variable {Rt rec1 rec6 : List Value → World → Prop} {L : Option Addr} {M : List Mx} {c i : Nat} {m : Mx} {W0 W : World} (I : Inp W0 L M) (hi : M[i]? = some m)
include I hi
/-- the program's Mix of the copies -/
theorem mix8_ok (G : W0.grownBy W none) {x y : Fd} {n9 n10 : Nat} (ox : x.ok W) (oy : y.ok W) (b9 : Blk W n9 30 x.cs) (b10 : Blk W n10 30 y.cs) {K : Value → Value → World → Prop}
    (hK : ∀ (b : Nat) (f : Fm) (w' : World), Held w' W.heap.size b f → W.grownBy w' none → Out (of := m.num) m.part x y f → K (.pointer (some ⟨b, 0, none⟩)) (.int .i64 (mc (of := m.num) m.part x y)) w') :
    ∃ a, (∀ w', W.grownBy w' none → At w' L M.length c i m a) ∧ (∃ (f : Fm) (W1 W2 W3 : World), W1 = W.drew.alloc (.cells #[.int .i64 0, .int .i64 0, .int .i64 0, .bool false, .slice none 0 0] 30) ∧ rrun Tryd.prog (Instr.loadAt 30 (.pointer (some ⟨n9, 0, none⟩))) W1 = some x.v ∧ rrun Tryd.prog (Instr.loadAt 30 (.pointer (some ⟨n10, 0, none⟩))) W1 = some y.v ∧ At W1 L M.length c i m a ∧
        C 8 #[x.v, y.v, .int .i64 m.part, .int .i64 m.num] W1 = some (.tuple #[f.v, .int .i64 (mc (of := m.num) m.part x y)], W2) ∧ erun Tryd.prog (Instr.storeAt 30 (.pointer (some ⟨W.heap.size, 0, none⟩)) f.v) W2 = some ((), W3) ∧ K (.pointer (some ⟨W.heap.size, 0, none⟩)) (.int .i64 (mc (of := m.num) m.part x y)) W3) ∧
      (∃ (f : Fm) (W1 W2 W3 : World), C 8 #[x.v, y.v, .int .i64 m.part, .int .i64 m.num] W.drew = some (.tuple #[f.v, .int .i64 (mc (of := m.num) m.part x y)], W1) ∧ W2 = W1.alloc (.cells #[.int .i64 0, .int .i64 0, .int .i64 0, .bool false, .slice none 0 0] 30) ∧
        erun Tryd.prog (Instr.storeAt 30 (.pointer (some ⟨W1.heap.size, 0, none⟩)) f.v) W2 = some ((), W3) ∧ K (.pointer (some ⟨W1.heap.size, 0, none⟩)) (.int .i64 (mc (of := m.num) m.part x y)) W3) := by
  obtain ⟨a, hat⟩ := (I.grown G).at c hi
  have gd : W.grownBy W.drew none := grown_drew W none
  have x9 := b9.grown gd (by simp)
  have x10 := b10.grown gd (by simp)
  refine ⟨a, hat, ?_, ?_⟩
  · obtain ⟨W1, hW1, g1, z1⟩ := al30 W.drew
    have G1 := grown_trans gd g1 (by simp)
    obtain ⟨f, W2, h2, g2, o2, m2⟩ := mixed8 (of := m.num) m.part (ox.grown G1) (oy.grown G1)
    obtain ⟨W3, h3, b3, g3, m3⟩ := hold_out (z1.grown g2 (by simp)) rfl (grown_trans G1 g2 (by simp)) (Nat.le_refl _) (m2.down (base := W.heap.size) G1.size)
    exact ⟨f, W1, W2, W3, hW1, ld30b (x9.grown g1 (by simp)), ld30b (x10.grown g1 (by simp)), hat W1 G1, h2, h3, hK _ f W3 ⟨b3, m3, Nat.le_refl _⟩ g3 o2⟩
  · obtain ⟨f, W1, h1, g1, o1, m1⟩ := mixed8 (of := m.num) m.part (ox.grown gd) (oy.grown gd)
    have G1 := grown_trans gd g1 (by simp)
    obtain ⟨W2, hW2, g2, z2⟩ := al30 W1
    obtain ⟨W3, h3, b3, g3, m3⟩ := hold_out z2 rfl (grown_trans G1 g2 (by simp)) G1.size ((m1.down (base := W.heap.size) gd.size).grew (grew_new (S := fun _ => False) g2) (fun _ _ h => h) (fun _ _ h => h))
    exact ⟨f, W1, W2, W3, h1, hW2, h3, hK _ f W3 ⟨b3, m3, G1.size⟩ g3 o1⟩
/-- the stills, and the document's Mix -/
theorem k9_ok (G : W0.grownBy W none) (sa : m.a.small) (sb : m.b.small) {N N' n9 n10 : Nat} {qa qb : List (Value × List Value)} {Va Vb : Option Addr} {ca cb : Nat} (hN : W0.heap.size ≤ N) (hNN : N ≤ N') (ha : Cpy W N n9 m.a qa Va ca) (hb : Cpy W N' n10 m.b qb Vb cb)
    (ta : ∀ k, rfp qa k → k < N') (tv : ∀ k, (Value.slice Va m.a.q.length ca).ownBlock = some k → k < N') (t9 : n9 < N') (up O Wt sm n v11 v12 : Value)
    (hK : ∀ (b : Nat) (f : Fm) (w2 w' : World) (qa' qb' : List (Value × List Value)), Grew (fun k => rfp qa k ∨ rfp qb k) W w2 → Held w' w2.heap.size b f → w2.grownBy w' none → Out (of := m.num) m.part m.a m.b f → Sld w' N n9 m.a qa qa' Va ca → Sld w' N' n10 m.b qb qb' Vb cb →
      f3.k10 C Rt rec1 rec6 [.slice L M.length c, up, O, Wt, sm, .int .i64 i, n, .pointer (some ⟨n9, 0, none⟩), .pointer (some ⟨n10, 0, none⟩), v11, v12, .bool true, .bool true, .pointer (some ⟨b, 0, none⟩), .int .i64 (mc (of := m.num) m.part m.a m.b)] w') :
    f3.k9 C Rt rec1 rec6 [.slice L M.length c, up, O, Wt, sm, .int .i64 i, n, .pointer (some ⟨n9, 0, none⟩), .pointer (some ⟨n10, 0, none⟩), v11, v12] W := by
  obtain ⟨a, hat0⟩ := I.at c hi
  obtain ⟨oa0, ob0⟩ := I.ok m (List.mem_of_getElem? hi)
  have gea : ∀ k, rfp qa k → W0.heap.size ≤ k := fun k hk => Nat.le_trans hN (ha.cp.pl.ge hk).1
  have geb : ∀ k, rfp qb k → W0.heap.size ≤ k := fun k hk => Nat.le_trans hN (Nat.le_trans hNN (hb.cp.pl.ge hk).1)
  -- the first is asked
  obtain ⟨U0, hU0⟩ : ∃ u, u = W.drew := ⟨_, rfl⟩
  have gu0 : W.grownBy U0 none := hU0 ▸ grown_drew W none
  have Gu0 := grown_trans G gu0 (by simp)
  have A0 := hat0 U0 Gu0
  have ha0 := ha.new gu0
  have hb0 := hb.new gu0
  obtain ⟨qa', W1, h1, g1, s1⟩ := stilled ha0 (oa0.grown Gu0) sa
  have G1 : W0.grownBy W1 none := (((grew_new (S := fun k => W0.heap.size ≤ k) Gu0).step (g1.weak fun k hk => .inl (gea k hk))).toNew fun k hk => hk)
  have hb1 : Cpy W1 N' n10 m.b qb Vb cb := hb0.grew g1 fun k hk hr => by
    have := ta k hr
    rcases hk with rfl | hk | hk
    · have := hb.ge; omega
    · have := (hb.cp.row.lt k hk).1; omega
    · have := (hb.cp.pl.ge hk).1; omega
  -- the second is asked
  obtain ⟨U1, hU1⟩ : ∃ u, u = W1.drew := ⟨_, rfl⟩
  have gu1 : W1.grownBy U1 none := hU1 ▸ grown_drew W1 none
  have Gu1 := grown_trans G1 gu1 (by simp)
  have A1 := hat0 U1 Gu1
  have hb2 := hb1.new gu1
  have s1' := s1.new gu1
  obtain ⟨qb', W2, h2, g2, s2⟩ := stilled hb2 (ob0.grown Gu1) sb
  have G2 : W0.grownBy W2 none := (((grew_new (S := fun k => W0.heap.size ≤ k) Gu1).step (g2.weak fun k hk => .inl (geb k hk))).toNew fun k hk => hk)
  have s12 : Sld W2 N n9 m.a qa qa' Va ca := s1'.grew g2 fun k hk hr => by
    have := (hb.cp.pl.ge hr).1
    rcases hk with rfl | hk | hk
    · omega
    · have := tv k hk; omega
    · have := ta k hk; omega
  have GW : Grew (fun k => rfp qa k ∨ rfp qb k) W W2 := (((grew_new (S := fun k => rfp qa k ∨ rfp qb k) gu0).step (g1.weak fun k hk => .inl (.inl hk))).step (grew_new gu1)).step (g2.weak fun k hk => .inl (.inr hk))
  -- the document's Mix
  obtain ⟨U2, hU2⟩ : ∃ u, u = W2.drew := ⟨_, rfl⟩
  have gd : W2.grownBy U2 none := hU2 ▸ grown_drew W2 none
  have su2 : U2.heap.size = W2.heap.size := by rw [hU2]; rfl
  have Gd := grown_trans G2 gd (by simp)
  have A2 := hat0 U2 Gd
  have l9 := ld30b ha0.blk
  have l10 := ld30b hb2.blk
  have fin : ∀ (b : Nat) (f : Fm) (w' : World), Held w' W2.heap.size b f → W2.grownBy w' none → Out (of := m.num) m.part m.a m.b f → f3.k10 C Rt rec1 rec6 [.slice L M.length c, up, O, Wt, sm, .int .i64 i, n, .pointer (some ⟨n9, 0, none⟩), .pointer (some ⟨n10, 0, none⟩), v11, v12, .bool true, .bool true, .pointer (some ⟨b, 0, none⟩), .int .i64 (mc (of := m.num) m.part m.a m.b)] w' := fun b f w' hh hg ho => hK b f W2 w' qa' qb' GW hh hg ho (s12.new hg) (s2.new hg)
  have t1 : ∃ (f : Fm) (W3 W4 W5 : World), W3 = U2.alloc (.cells #[.int .i64 0, .int .i64 0, .int .i64 0, .bool false, .slice none 0 0] 30) ∧ At W3 L M.length c i m a ∧ C 10 #[m.a.v, m.b.v, .int .i64 m.part, .int .i64 m.num] W3 = some (.tuple #[f.v, .int .i64 (mc (of := m.num) m.part m.a m.b)], W4) ∧
      erun Tryd.prog (Instr.storeAt 30 (.pointer (some ⟨U2.heap.size, 0, none⟩)) f.v) W4 = some ((), W5) ∧ f3.k10 C Rt rec1 rec6 [.slice L M.length c, up, O, Wt, sm, .int .i64 i, n, .pointer (some ⟨n9, 0, none⟩), .pointer (some ⟨n10, 0, none⟩), v11, v12, .bool true, .bool true, .pointer (some ⟨U2.heap.size, 0, none⟩), .int .i64 (mc (of := m.num) m.part m.a m.b)] W5 := by
    obtain ⟨W3, hW3, g3, z3⟩ := al30 U2
    have G3 := grown_trans gd g3 (by simp)
    have A3 := hat0 W3 (grown_trans G2 G3 (by simp))
    obtain ⟨f, W4, h4, g4, o4, m4⟩ := mixed10 (of := m.num) m.part (oa0.grown (grown_trans G2 G3 (by simp))) (ob0.grown (grown_trans G2 G3 (by simp)))
    obtain ⟨W5, h5, b5, g5, m5⟩ := hold_out (z3.grown g4 (by simp)) rfl (grown_trans G3 g4 (by simp)) (by omega) (m4.down (base := W2.heap.size) G3.size)
    exact ⟨f, W3, W4, W5, hW3, A3, h4, h5, fin _ f W5 ⟨b5, m5, by omega⟩ g5 o4⟩
  have t2 : ∃ (f : Fm) (W3 W4 W5 : World), C 10 #[m.a.v, m.b.v, .int .i64 m.part, .int .i64 m.num] U2 = some (.tuple #[f.v, .int .i64 (mc (of := m.num) m.part m.a m.b)], W3) ∧ W4 = W3.alloc (.cells #[.int .i64 0, .int .i64 0, .int .i64 0, .bool false, .slice none 0 0] 30) ∧
      erun Tryd.prog (Instr.storeAt 30 (.pointer (some ⟨W3.heap.size, 0, none⟩)) f.v) W4 = some ((), W5) ∧ f3.k10 C Rt rec1 rec6 [.slice L M.length c, up, O, Wt, sm, .int .i64 i, n, .pointer (some ⟨n9, 0, none⟩), .pointer (some ⟨n10, 0, none⟩), v11, v12, .bool true, .bool true, .pointer (some ⟨W3.heap.size, 0, none⟩), .int .i64 (mc (of := m.num) m.part m.a m.b)] W5 := by
    obtain ⟨f, W3, h3, g3, o3, m3⟩ := mixed10 (of := m.num) m.part (oa0.grown Gd) (ob0.grown Gd)
    have G3 := grown_trans gd g3 (by simp)
    obtain ⟨W4, hW4, g4, z4⟩ := al30 W3
    obtain ⟨W5, h5, b5, g5, m5⟩ := hold_out z4 rfl (grown_trans G3 g4 (by simp)) G3.size ((m3.down (base := W2.heap.size) gd.size).grew (grew_new (S := fun _ => False) g4) (fun _ _ h => h) (fun _ _ h => h))
    exact ⟨f, W3, W4, W5, h3, hW4, h5, fin _ f W5 ⟨b5, m5, G3.size⟩ g5 o3⟩
  obtain ⟨f, W3, W4, W5, hW3, A3, h4, h5, k5⟩ := t1
  obtain ⟨f', V3, V4, V5, j3, hV4, j5, i5⟩ := t2
  rw [su2] at h5 k5
  simp [f3.k9, nth, ← hU0, ← hU1, ← hU2, l9, l10, A0.ix, A0.la, A0.lb, A1.la, A1.lb, h1, h2, alloc30, ← hW3, ← hV4, A2.la, A2.lb, A2.lp, A2.lo, A3.la, A3.lb, A3.lp, A3.lo, h4, h5, k5, j3, j5, i5, chkThen]
end
end Go.Sh.YtacfghffojijaaaDoor

namespace Go.Sh.YtacfghffojijaaaDoor
open Go Go.Proofs Go.RowKit
set_option linter.unusedVariables false
set_option linter.unusedSimpArgs false
set_option maxRecDepth 100000
theorem k10_step {Rt rec1 rec6 : List Value → World → Prop} {t0 up O Wt sm i n v9 v10 v11 v15 : Value} {x : Int} {w : World} (h : f3.k11 C Rt rec1 rec6 [t0, up, O, Wt, sm, i, n, v9, v10, v11, v15] w) :
    f3.k10 C Rt rec1 rec6 [t0, up, O, Wt, sm, i, n, v9, v10, v11, .int .i64 x, .bool true, .bool true, v15, .int .i64 x] w := by
  simp [f3.k10, nth, bool_not, after, h]
section
variable {Rt rec1 rec6 : List Value → World → Prop} {L : Option Addr} {M : List Mx} {c i : Nat} {m : Mx} {W0 Ws : World} (I : Inp W0 L M) (hi : M[i]? = some m)
include I hi
theorem round_ok (sa : m.a.small) (sb : m.b.small) (na : ∀ p ∈ m.a.q, p.A = none → p.c = 0) (nb : ∀ p ∈ m.b.q, p.A = none → p.c = 0) (G : W0.grownBy Ws none) {O Wt : Value} {l e : List Fm} (T : Two Ws W0.heap.size O Wt l e) (hl : l.length ≤ 34359738368) {n : Nat} (hn : n ≤ 100) (up sm : Value)
    (hK : ∀ O' Wt' f t g v w', Two w' W0.heap.size O' Wt' (l ++ [f, t]) (e ++ [g, v]) → W0.grownBy w' none → rec6 [.slice L M.length c, up, O', Wt', sm, .int .i64 i, .int .i64 ((n + 1 : Nat) : Int)] w') :
    f3.k7 C Rt rec1 rec6 [.slice L M.length c, up, O, Wt, sm, .int .i64 i, .int .i64 n] Ws := by
  obtain ⟨a, hat0⟩ := I.at c hi
  obtain ⟨oa0, ob0⟩ := I.ok m (List.mem_of_getElem? hi)
  have As := hat0 Ws G
  obtain ⟨Va, ca, qa, W1, W3, h1, s1, ha, ga⟩ := copied_in (oa0.grown G) sa na
  have G3 := grown_trans G ga (by simp)
  have A3 := hat0 W3 G3
  obtain ⟨Vb, cb, qb, W4, W6, h4, s4, hb, gb⟩ := copied_in (ob0.grown G3) sb nb
  have G6 := grown_trans G3 gb (by simp)
  have ha6 := ha.new gb
  obtain ⟨xa, _, bxa, oxa, lxa⟩ := ha6.fd (oa0.grown G) sa
  obtain ⟨xb, _, bxb, oxb, lxb⟩ := hb.fd (ob0.grown G) sb
  have emc : mc (of := m.num) m.part xa xb = mc (of := m.num) m.part m.a m.b := mc_like lxa lxb
  have s36 := gb.size
  have rqa : ∀ k, rfp qa k → Ws.heap.size ≤ k ∧ k < W3.heap.size := fun k hk => ha.cp.pl.ge hk
  have rqb : ∀ k, rfp qb k → W3.heap.size ≤ k ∧ k < W6.heap.size := fun k hk => hb.cp.pl.ge hk
  have hs3 := ga.size
  -- from the first Mix on
  have go : ∀ (b : Nat) (f : Fm) (w7 : World), Held w7 W6.heap.size b f → W6.grownBy w7 none → Out (of := m.num) m.part xa xb f →
      f3.k9 C Rt rec1 rec6 [.slice L M.length c, up, O, Wt, sm, .int .i64 i, .int .i64 n, .pointer (some ⟨W1.heap.size, 0, none⟩), .pointer (some ⟨W4.heap.size, 0, none⟩), .pointer (some ⟨b, 0, none⟩), .int .i64 (mc (of := m.num) m.part xa xb)] w7 := by
    intro b f w7 hf g7 of7
    have G7 := grown_trans G6 g7 (by simp)
    rw [emc]
    refine k9_ok I hi G7 sa sb G.size ga.size (ha6.new g7) (hb.new g7) (fun k hk => (rqa k hk).2) (fun k hk => (ha.cp.row.lt k hk).2) ha.blk.lt up O Wt sm _ _ _ ?_
    intro b2 g w2 w10 qa' qb' gw2 hg g10 og sa' sb'
    refine k10_step ?_
    have Gs2 : Grew (fun k => Ws.heap.size ≤ k) Ws w2 := ((((grew_new (S := fun k => Ws.heap.size ≤ k) ga).step (grew_new gb)).step (grew_new g7))).step (gw2.weak fun k hk => by
      rcases hk with hk | hk
      · exact .inl (rqa k hk).1
      · exact .inl (Nat.le_trans hs3 (rqb k hk).1))
    have gs2 : Ws.grownBy w2 none := Gs2.toNew fun k hk => hk
    have gs10 := grown_trans gs2 g10 (by simp)
    have G10 := grown_trans G gs10 (by simp)
    have hf2 : Held w2 W6.heap.size b f := hf.grew gw2 fun k hk _ hr => by
      rcases hr with hr | hr
      · have := (rqa k hr).2; omega
      · have := (rqb k hr).2; omega
    have hf10 := hf2.new g10
    obtain ⟨y9, by9, oy9, sy9⟩ := sa'.fd (oa0.grown G) sa
    obtain ⟨y10, by10, oy10, sy10⟩ := sb'.fd (ob0.grown G) sb
    refine k11_ok (I.grown G10) hi oy9 oy10 by9 by10 up O Wt sm _ _ _ ?_
    intro b3 t w11 bt g11 hb3 ot mt
    have G11 := grown_trans G10 g11 (by simp)
    refine k12_ok (I.grown G11) hi sa sb up O Wt sm _ _ _ _ _ ?_
    intro b4 v w12 x y bv g12 hb4 sx sy ov mv
    have G12 := grown_trans G11 g12 (by simp)
    have gs12 := grown_trans (grown_trans gs10 g11 (by simp)) g12 (by simp)
    have e2 : mc (of := m.num) m.part x y = mc (of := m.num) m.part y9 y10 := mc_like (sx.like sy9) (sy.like sy10)
    rw [e2]
    have ht : Held w12 w10.heap.size b3 t := (⟨bt, mt, hb3⟩ : Held w11 w10.heap.size b3 t).new g12
    have hv : Held w12 w11.heap.size b4 v := ⟨bv, mv, hb4⟩
    have hfo := (hf10.new g11).new g12
    have hgo := (hg.new g11).new g12
    refine k13_ok (T.new gs12) (Nat.le_trans G.size gs12.size) hl hfo hgo ht hv G6.size (Nat.le_trans g7.size gw2.size) g10.size g11.size (fun k => ?_) (fun k hk => (hf2.out.pl.ge hk).2) (fun k hk => (hg.out.pl.ge hk).2) (out_same of7 og lxa lxb hf.out.num) (out_same ot ov (sy9.like sx) (sy10.like sy) mt.num) _ up sm _ n hn _ ?_
    · have f1 := fun h => (T.F.ge (k := k) h).2
      have f2 := fun h => (T.E.ge (k := k) h).2
      refine ⟨fun h => ?_, fun h => ?_, fun h => ?_, fun h => ?_⟩
      · have := f1 (.inr (.inr h)); omega
      · have := f2 (.inr (.inr h)); omega
      · have := f1 (.inl h); omega
      · have := f2 (.inl h); omega
    · intro O' Wt' w' T' gr
      refine hK O' Wt' f t g v w' T' ?_
      refine ((grew_new (S := fun k => W0.heap.size ≤ k) G12).step (gr.weak fun k hk => .inl ?_)).toNew fun k hk => hk
      rcases hk with hk | hk
      · exact (T.F.row.lt k hk).1
      · exact (T.E.row.lt k hk).1
  obtain ⟨a', hat, t1, t2⟩ := mix8_ok I hi (c := c) G6 oxa oxb bxa bxb (K := fun p u w => f3.k9 C Rt rec1 rec6 [.slice L M.length c, up, O, Wt, sm, .int .i64 i, .int .i64 n, .pointer (some ⟨W1.heap.size, 0, none⟩), .pointer (some ⟨W4.heap.size, 0, none⟩), p, u] w) go
  have A6 := hat W6.drew (grown_drew W6 none)
  obtain ⟨f, V1, V2, V3, hV1, k9, k10, A1, k2, k3, kk⟩ := t1
  obtain ⟨f', U1, U2, U3, j1, hU2, j3, jj⟩ := t2
  have l9 := ld30b (bxa.grown (grown_drew W6 none) (by simp))
  have l10 := ld30b (bxb.grown (grown_drew W6 none) (by simp))
  obtain ⟨D, hD⟩ : ∃ D, D = W6.drew := ⟨_, rfl⟩
  have sD : D.heap.size = W6.heap.size := by rw [hD]; rfl
  rw [← hD] at hV1 A6 l9 l10 j1
  obtain rfl : a' = a := by
    have h1 := A6.ix
    rw [As.ix] at h1
    simpa using h1.symm
  simp [f3.k7, nth, As.ix, As.la, h1, alloc30, s1, A3.ix, A3.lb, h4, s4, ← hD, ← hV1, k9, k10, A1.ix, A6.ix, A6.lp, A6.lo, A1.lp, A1.lo, k2, k3, kk, l9, l10, j1, ← hU2, j3, jj, chkThen]
end
end Go.Sh.YtacfghffojijaaaDoor

namespace Go.Sh.YtacfghffojijaaaDoor
open Go Go.Proofs Go.RowKit Go.ChangeShapes Go.WideShapes
set_option linter.unusedVariables false
set_option linter.unusedSimpArgs false
set_option maxRecDepth 100000
structure Mx.fits (m : Mx) : Prop where
  na : ∀ p ∈ m.a.q, p.A = none → p.c = 0
  nb : ∀ p ∈ m.b.q, p.A = none → p.c = 0
  la : ∀ p ∈ m.a.q, p.l.length ≤ 140737488355328
  lb : ∀ p ∈ m.b.q, p.l.length ≤ 140737488355328
theorem wt_small {q : List Pl} {k : Int} (h : k ≤ 2147483647) (hk : k = wt q q.length) : q.length ≤ 4294967296 ∧ ∀ p ∈ q, p.l.length ≤ 4294967296 := by
  have key : ∀ j, j ≤ q.length → (j : Int) + 1 ≤ wt q j ∧ ∀ (i : Nat) x, i < j → q[i]? = some x → (x.l.length : Int) + 1 ≤ wt q j := by
    intro j
    induction j with
    | zero => intro _; exact ⟨by simp [wt], fun i x hi => absurd hi (by omega)⟩
    | succ j ih =>
      intro hj
      obtain ⟨h1, h2⟩ := ih (by omega)
      obtain ⟨y, hy⟩ : ∃ y, q[j]? = some y := ⟨_, List.getElem?_eq_getElem (by omega)⟩
      have e : wt q (j + 1) = wt q j + 1 + (y.l.length : Int) := by simp [wt, hy]
      refine ⟨by omega, fun i x hi hx => ?_⟩
      by_cases hij : i = j
      · subst hij
        rw [hy] at hx; cases hx
        omega
      · have := h2 i x (by omega) hx
        omega
  obtain ⟨h1, h2⟩ := key q.length (Nat.le_refl _)
  refine ⟨by omega, fun p hp => ?_⟩
  obtain ⟨i, hi⟩ := List.mem_iff_getElem?.mp hp
  have := h2 i p (List.getElem?_eq_some_iff.mp hi).1 hi
  omega
section
variable {Rt : List Value → World → Prop} {L : Option Addr} {M : List Mx} {c : Nat} {W0 : World} (I : Inp W0 L M) (hfit : ∀ m ∈ M, m.fits)
include I hfit
theorem inner_ok {rec1 : List Value → World → Prop} {i : Nat} {m : Mx} (hi : M[i]? = some m) (hil : i < 9223372036854775807) (sa : m.a.small) (sb : m.b.small) (up sm : Value) {l0 : Nat} (hl0 : l0 ≤ 17179869184)
    (hK : ∀ O' Wt' l e w', Two w' W0.heap.size O' Wt' l e → W0.grownBy w' none → l.length = l0 + 4 → rec1 [.slice L M.length c, up, O', Wt', sm, .int .i64 ((i + 1 : Nat) : Int)] w')
    {Ws : World} (G : W0.grownBy Ws none) {O Wt : Value} {l e : List Fm} (T : Two Ws W0.heap.size O Wt l e) (hl : l.length = l0) :
    ∃ k, itN (f3.w6 C Rt rec1) k [.slice L M.length c, up, O, Wt, sm, .int .i64 i, .int .i64 0] Ws := by
  have hm := List.mem_of_getElem? hi
  refine itN_down (I := fun d vs w => ∃ (n : Nat) (O Wt : Value) (l e : List Fm), vs = [.slice L M.length c, up, O, Wt, sm, .int .i64 i, .int .i64 n] ∧ n + d = 2 ∧ l.length = l0 + 2 * n ∧ Two w W0.heap.size O Wt l e ∧ W0.grownBy w none) ?_ (m := 2) ⟨0, O, Wt, l, e, rfl, rfl, by omega, T, G⟩
  rintro d vs w ⟨n, O, Wt, l, e, rfl, hn, hl, T, G⟩ rec hrec
  cases d with
  | zero =>
    obtain rfl : n = 2 := by omega
    have := hK O Wt l e w T G (by omega)
    have e1 : IntKind.i64.wrap ((i : Int) + 1) = (i : Int) + 1 := wrap_i64 (by omega) (by omega)
    simp only [Int.natCast_add, Int.cast_ofNat_Int] at this
    simp [f3.w6, nth, after, Ways.out, f3.k5, f3.k3, e1, this]
  | succ d =>
    have hlt : ((n : Int) < 2) = True := eq_true (by omega)
    have := round_ok (Rt := Rt) (rec1 := rec1) (rec6 := rec) I hi sa sb (hfit m hm).na (hfit m hm).nb G T (by omega) (n := n) (by omega) up sm (c := c) fun O' Wt' f t g v w' T' G' => hrec d _ w' (by omega) ⟨n + 1, O', Wt', _, _, rfl, by omega, by simp; omega, T', G'⟩
    simp only [f3.w6, nth, bin, if_true, Option.bind_some, asB, hlt, decide_true, hold_some, after]
    exact this
theorem outer_ok (hlen : M.length ≤ 9223372036854775806) {w1 : World} (G1 : W0.grownBy w1 none) (up : Value) (hRt : ∀ w', W0.grownBy w' none → Rt [up] w') :
    ∃ k, itN (f3.w1 C Rt) k [.slice L M.length c, up, .slice none 0 0, .slice none 0 0, .int .i64 0, .int .i64 0] w1 := by
  refine itN_down (I := fun d vs w => ∃ (i : Nat) (s : Int) (O Wt : Value) (l e : List Fm), vs = [.slice L M.length c, up, O, Wt, .int .i64 s, .int .i64 i] ∧ i + d = M.length ∧ l.length = 4 * i ∧ 2 * (i : Int) ≤ s ∧ s ≤ 2147483647 ∧ Two w W0.heap.size O Wt l e ∧ W0.grownBy w none) ?_
    (m := M.length) ⟨0, 0, .slice none 0 0, .slice none 0 0, [], [], rfl, by omega, rfl, by omega, by omega, ⟨⟨World.ownsRow_nil w1 W0.heap.size 30 5, by simp, Rows.nil, fun p hp => by simp [allq] at hp, by simp⟩, ⟨World.ownsRow_nil w1 W0.heap.size 30 5, by simp, Rows.nil, fun p hp => by simp [allq] at hp, by simp⟩, fun k h => by simp [Value.ownBlock] at h, rfl, fun i f g h => by simp at h⟩, G1⟩
  rintro d vs w ⟨i, s, O, Wt, l, e, rfl, hi, hl, hs0, hs1, T, G⟩ rec hrec
  have tail : ∀ w', w.grownBy w' none → f3.k0 C Rt [up, O, Wt] w' := fun w' hg =>
    tail_ok up (T.F.new hg) (T.E.new hg) T.len T.same (by omega) (Nat.le_trans G.size hg.size) fun w2 g2 => hRt w2 (((grew_new (S := fun k => W0.heap.size ≤ k) (grown_trans G hg (by simp))).step g2).toNew fun k hk => hk)
  cases d with
  | zero =>
    obtain rfl : i = M.length := by omega
    have := tail w (grown_refl w none)
    simp [f3.w1, nth, after, Ways.out, this]
  | succ d =>
    obtain ⟨m, hm⟩ : ∃ m, M[i]? = some m := ⟨_, List.getElem?_eq_getElem (by omega)⟩
    have hmm := List.mem_of_getElem? hm
    obtain ⟨a, hat0⟩ := I.at c hm
    obtain ⟨oa0, ob0⟩ := I.ok m hmm
    have hf := hfit m hmm
    obtain ⟨U, hU⟩ : ∃ u, u = w.drew := ⟨_, rfl⟩
    have gU : w.grownBy U none := hU ▸ grown_drew w none
    have GU := grown_trans G gU (by simp)
    have AU := hat0 U GU
    have oaU := oa0.grown GU
    obtain ⟨ka, w2, h2, g2, ka0, ka1, ka2⟩ := weight_ok (W := m.a.W) (H := m.a.H) (D := m.a.D) (al := m.a.al) (c := m.a.c) oaU.rd oaU.pl oaU.len hf.la
    have G2 := grown_trans GU g2 (by simp)
    have A2 := hat0 w2 G2
    have ob2 := ob0.grown G2
    obtain ⟨kb, w3, h3, g3, kb0, kb1, kb2⟩ := weight_ok (W := m.b.W) (H := m.b.H) (D := m.b.D) (al := m.b.al) (c := m.b.c) ob2.rd ob2.pl ob2.len hf.lb
    have G3 := grown_trans G2 g3 (by simp)
    have gw3 : w.grownBy w3 none := grown_trans (grown_trans gU g2 (by simp)) g3 (by simp)
    have e1 : IntKind.i64.wrap (s + ka) = s + ka := wrap_i64 (by omega) (by omega)
    have e2 : IntKind.i64.wrap (s + ka + kb) = s + ka + kb := wrap_i64 (by omega) (by omega)
    have hlt : ((i : Int) < (M.length : Int)) = True := eq_true (by omega)
    have main : f3.k2 C Rt rec [.slice L M.length c, up, O, Wt, .int .i64 s, .int .i64 i] w := by
      by_cases hbig : s + ka + kb > 2147483647
      · have := tail w3 gw3
        simp [f3.k2, nth, ← hU, AU.ix, AU.la, AU.lb, A2.lb, h2, h3, e1, e2, hbig, chkThen, after, Ways.out, this]
      · obtain ⟨a1, a2⟩ := wt_small (k := ka) (by omega) (ka2 (by omega))
        obtain ⟨b1, b2⟩ := wt_small (k := kb) (by omega) (kb2 (by omega))
        have hk4 : f3.k4 C Rt rec [.slice L M.length c, up, O, Wt, .int .i64 (s + ka + kb), .int .i64 i] w3 := by
          have := inner_ok (Rt := Rt) I hfit (rec1 := rec) hm (by omega) ⟨a1, a2⟩ ⟨b1, b2⟩ up (.int .i64 (s + ka + kb)) (c := c) (l0 := l.length) (by omega) (fun O' Wt' l' e' w' T' G' hl' => hrec d _ w' (by omega) ⟨i + 1, s + ka + kb, O', Wt', l', e', rfl, by omega, by omega, by omega, by omega, T', G'⟩) G3 (T.new gw3) rfl
          simpa [f3.k4, nth] using this
        simp [f3.k2, nth, ← hU, AU.ix, AU.la, AU.lb, A2.lb, h2, h3, e1, e2, hbig, chkThen, after, hk4]
    simp only [f3.w1, nth, len22, bin, if_true, Option.bind_some, asB, hlt, decide_true, hold_some, after]
    exact main
theorem f3_ok (hT : Tb W0) (hlen : M.length ≤ 9223372036854775806) (hRt : ∀ w', W0.grownBy w' none → Rt [.bool true] w') : f3.w C Rt (.slice L M.length c) W0 := by
  obtain ⟨w1, h1, g1⟩ := awake_ok hT
  have := outer_ok (Rt := Rt) (c := c) I hfit hlen g1 (.bool true) hRt
  simp [f3.w, h1, this]
theorem mixes_calls (hT : Tb W0) (hlen : M.length ≤ 9223372036854775806) : Calls Tryd.prog 3 #[.slice L M.length c] W0 fun e w' => e = .returned (.bool true) ∧ Below W0.heap.size W0 w' := by
  have key := f3_ok (Rt := fun vs w' => (fun v w' => v = Value.bool true ∧ Below W0.heap.size W0 w') (outcome vs) w') (c := c) I hfit hT hlen fun w' hg => ⟨rfl, below_of_grown hg⟩
  rw [← f3.weq] at key
  refine (calls_of_w (rs := [2]) (ann := anns) (prim := noPrim) (by kernel_rfl) noPrim_ok (fn := Tryd.f3) (c := Tryd.f3.body.getD .skip) Tryd.func3 (by kernel_rfl) (by kernel_rfl) (x := f3.wann) (Q := fun v w' => v = .bool true ∧ Below W0.heap.size W0 w') key).mono fun e v ⟨v', h1, h2, h3⟩ => ⟨h1.trans (by rw [h2]), h3⟩
end
end Go.Sh.YtacfghffojijaaaDoor

namespace Go.Sh.YtacfghffojijaaaDoor
open Go Go.Proofs Go.RowKit Go.ChangeShapes Go.WideShapes
open Go.Proofs.YtacfghffojijaaaDoor
set_option linter.unusedVariables false
set_option linter.unusedSimpArgs false
set_option maxRecDepth 100000
theorem bulk_one {H : Type} (d : DataW H) : 1 ≤ Rows.uptoBulk d := by
  cases d with
  | lit l => cases l <;> simp [Rows.uptoBulk]
  | _ => simp [Rows.uptoBulk]
theorem bulk_part {H : Type} {d : DataW H} {l : List (DataW H)} (h : d ∈ l) : Rows.uptoBulk d ≤ Rows.uptoBulkAll l := by
  induction l with
  | nil => cases h
  | cons x r ih =>
    simp only [Rows.uptoBulkAll]
    cases List.mem_cons.1 h with
    | inl e => subst e; omega
    | inr e => have := ih e; omega
theorem bulk_len {H : Type} (l : List (DataW H)) : l.length ≤ Rows.uptoBulkAll l := by
  induction l with
  | nil => simp [Rows.uptoBulkAll]
  | cons x r ih => have := bulk_one x; simp only [Rows.uptoBulkAll, List.length_cons]; omega
def mu (H : Type) : Bulk H where
  f := Rows.uptoBulk
  one := bulk_one
  elem := fun e s d h => by have := bulk_part h; simp only [Rows.uptoBulk]; omega
  len := fun e s => by have := bulk_len e; simp only [Rows.uptoBulk]; omega
  part := fun p d h => by have := bulk_part h; simp only [Rows.uptoBulk]; omega
  str := fun b => by simp [Rows.uptoBulk]
  ptr := fun d => by simp [Rows.uptoBulk]
section
variable {W : World} {H : Type} {enc : TypeId × Value → H} {μ : Bulk H} {B : Nat}
theorem frame_b {cs : List Value} (z : DatB μ B enc Tryd.prog W 30 cs) : ∃ x : Fd, cs = x.cs ∧ x.ok W ∧ x.q.length ≤ B ∧ ∀ p ∈ x.q, p.l.length ≤ B ∧ (p.A = none → p.c = 0) := by
  have c30 : Tryd.prog.cellsOf 30 = 5 := by kernel_rfl
  have c27 : Tryd.prog.cellsOf 27 = 4 := by kernel_rfl
  have c28 : Tryd.prog.cellsOf 28 = 1 := by kernel_rfl
  have c3 : Tryd.prog.cellsOf 3 = 1 := by kernel_rfl
  have c4 : Tryd.prog.cellsOf 4 = 1 := by kernel_rfl
  obtain ⟨hl, hf⟩ := datB_struct Tryd.underlying30 z
  rw [c30] at hl
  have f0 := hf 0 _ rfl
  have f1 := hf 1 _ rfl
  erw [c27] at f0
  erw [c28] at f1
  match cs, hl with
  | [x0, x1, x2, x3, x4], _ =>
    obtain ⟨hl', hf'⟩ := datB_struct Tryd.underlying27 f0
    have g0 := hf' 0 _ rfl
    have g1 := hf' 1 _ rfl
    have g2 := hf' 2 _ rfl
    have g3 := hf' 3 _ rfl
    erw [c3] at g0 g1 g2
    erw [c4] at g3
    obtain ⟨Wd, e0, _⟩ := dat_int Tryd.underlying3 g0.dat
    obtain ⟨Hd, e1, _⟩ := dat_int Tryd.underlying3 g1.dat
    obtain ⟨D, e2, _⟩ := dat_int Tryd.underlying3 g2.dat
    obtain ⟨al, e3⟩ := dat_bool Tryd.underlying4 g3.dat
    obtain ⟨A, n, c, e4, hnc, hcm, hnB, hAn, rows, hrl, hrow, hrd⟩ := datB_slice Tryd.underlying28 f1
    have e0 : [x0] = [Value.int .i64 Wd] := e0
    have e1 : [x1] = [Value.int .i64 Hd] := e1
    have e2 : [x2] = [Value.int .i64 D] := e2
    have e3 : [x3] = [Value.bool al] := e3
    have e4 : [x4] = [Value.slice A n c] := e4
    cases e0
    cases e1
    cases e2
    cases e3
    cases e4
    obtain ⟨q, rfl, hq, hQ⟩ := choose_rows (fun x : Pl => [x.v]) (fun x => x.ok W ∧ x.l.length ≤ B ∧ (x.A = none → x.c = 0)) (rows := rows) (by
      intro r hr
      obtain ⟨_, hd⟩ := hrow r hr
      obtain ⟨X, n', c', l, rfl, hl, hB, h1, h2, h3, h4, h5⟩ := datB_ints Tryd.underlying38 Tryd.underlying39 hd
      refine ⟨⟨X, c', l⟩, by simp [Pl.v, hl], ⟨h5, by simp only; omega, by simp only; simp [maxLen] at h2; omega, fun v hv => ?_⟩, by simp only; omega, h3⟩
      have := h4 v hv
      simp [Lit.wf, IntKind.min, IntKind.max, IntKind.signed, IntKind.bits] at this
      omega)
    have hqn : q.length = n := by rw [hq, hrl]
    have hflat : (q.map fun x : Pl => [x.v]).flatten = q.map Pl.v := by
      clear hQ hq hrl hrow hrd hqn
      induction q with
      | nil => rfl
      | cons x q ih => simp [ih]
    rw [hflat] at hrd
    exact ⟨⟨Wd, Hd, D, al, A, c, q⟩, by simp only [Fd.cs]; rw [hqn], ⟨hrd, fun p hp => (hQ p hp).1, by simp only; omega⟩, by simp only; omega, fun p hp => (hQ p hp).2⟩
theorem mixes_in {A : Option Addr} {n c : Nat} (z : DatB μ B enc Tryd.prog W 22 [.slice A n c]) (hB : B ≤ 140737488355328) : ∃ M : List Mx, M.length = n ∧ n ≤ maxLen ∧ n ≤ B ∧ Inp W A M ∧ ∀ m ∈ M, m.fits := by
  obtain ⟨A', n', c', e, hnc, hcm, hnB, _, rows, hrl, hrow, hrd⟩ := datB_slice Tryd.underlying22 z
  cases e
  have c32 : Tryd.prog.cellsOf 32 = 12 := by kernel_rfl
  have c30 : Tryd.prog.cellsOf 30 = 5 := by kernel_rfl
  have c3 : Tryd.prog.cellsOf 3 = 1 := by kernel_rfl
  obtain ⟨M, rfl, hM, hQ⟩ := choose_rows Mx.cs (fun m => (m.a.ok W ∧ m.b.ok W) ∧ m.fits) (rows := rows) (by
    intro r hr
    obtain ⟨hl, hd⟩ := hrow r hr
    rw [c32] at hl
    obtain ⟨_, hf⟩ := datB_struct Tryd.underlying32 hd
    have f0 := hf 0 _ rfl
    have f1 := hf 1 _ rfl
    have f2 := hf 2 _ rfl
    have f3 := hf 3 _ rfl
    erw [c30] at f0 f1
    erw [c3] at f2 f3
    match r, hl with
    | [x0, x1, x2, x3, x4, x5, x6, x7, x8, x9, x10, x11], _ =>
      obtain ⟨xa, ea, oa, la, pa⟩ := frame_b f0
      obtain ⟨xb, eb, ob, lb, pb⟩ := frame_b f1
      obtain ⟨p, ep, _⟩ := dat_int Tryd.underlying3 f2.dat
      obtain ⟨o, eo, _⟩ := dat_int Tryd.underlying3 f3.dat
      have ea : [x0, x1, x2, x3, x4] = xa.cs := ea
      have eb : [x5, x6, x7, x8, x9] = xb.cs := eb
      have ep : [x10] = [Value.int .i64 p] := ep
      have eo : [x11] = [Value.int .i64 o] := eo
      refine ⟨⟨xa, xb, p, o⟩, ?_, ⟨oa, ob⟩, ⟨fun q hq => (pa q hq).2, fun q hq => (pb q hq).2, fun q hq => Nat.le_trans (pa q hq).1 hB, fun q hq => Nat.le_trans (pb q hq).1 hB⟩⟩
      show [x0, x1, x2, x3, x4] ++ [x5, x6, x7, x8, x9] ++ ([x10] ++ [x11]) = _
      rw [ea, eb, ep, eo]
      rfl)
  refine ⟨M, by omega, by omega, hnB, ⟨by rw [List.flatMap_def]; exact hrd, fun m hm => (hQ m hm).1⟩, fun m hm => (hQ m hm).2⟩
end
theorem table_ok2 {W : World} (h : laidMetH Tryd.prog Rows.conformMixesUptoRow.laid W) : Tb W := table_ok h
theorem mixes_walk (W : World) {H : Type} {enc : TypeId × Value → H} (A : Option Addr) (n c : Nat) {d : DataW H} {p : List MemPlace} (h : DataW.Trod enc Tryd.prog W 0 (fun _ => true) true 22 (.slice A n c) d p) (y : n * 128 ≤ 140737488351232)
    (hb : Rows.uptoSmall H [d] = true) (hL : laidMetH Tryd.prog Rows.conformMixesUptoRow.laid W) :
    Calls Tryd.prog 3 #[.slice A n c] W fun e w' => e = .returned (.bool true) ∧ Below W.heap.size W w' := by
  have hd : Rows.uptoBulk d ≤ 1048576 := by
    have : Rows.uptoBulkAll [d] ≤ 1048576 := by simpa [Rows.uptoSmall] using hb
    simp only [Rows.uptoBulkAll] at this
    omega
  have z := datB_of (μ := mu H) h hd
  obtain ⟨M, hM, _, hnB, I, hf⟩ := mixes_in z (by omega)
  subst hM
  exact mixes_calls I hf (table_ok2 hL) (by omega)
end Go.Sh.YtacfghffojijaaaDoor

