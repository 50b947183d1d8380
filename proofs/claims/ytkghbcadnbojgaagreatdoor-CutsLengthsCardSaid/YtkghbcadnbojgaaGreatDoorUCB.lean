/- cuts: Length. Conditions: those of each statement. -/
import Derived.Test.YtkghbcadnbojgaaGreatDoorUCA
namespace Go.Sh.YtkghbcadnbojgaaGreatDoor
open Go Go.Proofs Go.RowKit
set_option linter.unusedVariables false
set_option linter.unusedSimpArgs false
set_option maxRecDepth 100000
theorem evBad_none {day : Int} : ∀ (q ahead : List Ev), evBad day ahead q = none ↔ ∀ (i : Nat) (e : Ev), q[i]? = some e → evCode (ahead ++ q.take i) e day = 0
  | [], ahead => by simp [evBad]
  | a :: l, ahead => by
    rw [evBad]
    constructor
    · intro h i e hi
      split at h
      · rename_i h0
        cases i with
        | zero => simp at hi; subst hi; simpa using h0
        | succ i =>
          have := (evBad_none l (ahead ++ [a])).mp h i e (by simpa using hi)
          simpa using this
      · cases h
    · intro h
      have h0 := h 0 a rfl
      simp only [List.take_zero, List.append_nil] at h0
      rw [if_pos h0]
      refine (evBad_none l (ahead ++ [a])).mpr fun i e hi => ?_
      have := h (i + 1) e (by simpa using hi)
      simpa using this
/-- a list that may be -/
structure Fine (t : List UInt8) (r : Int) (q : List Ev) : Prop where
  tl : t.length ≤ 100
  tv : valid t = true
  r1 : 1 ≤ r
  r7 : r ≤ 7
  ql : q.length ≤ 200
  ev : ∀ (i : Nat) (e : Ev), q[i]? = some e → evCode (q.take i) e (dayOf r) = 0
theorem ck_none {t : List UInt8} {r : Int} {q : List Ev} (h : ckCode t r q = none) : Fine t r q := by
  unfold ckCode at h
  split at h; · cases h
  split at h; · cases h
  split at h; · cases h
  split at h; · cases h
  rename_i h1 h2 h3 h4
  exact ⟨by omega, by simpa using h2, by omega, by omega, by omega, by simpa using (evBad_none q []).mp h⟩
theorem Fine.mid {t : List UInt8} {r : Int} {q : List Ev} (h : Fine t r q) {i : Nat} {e : Ev} (he : q[i]? = some e) : e.mid ∧ 0 ≤ e.f ∧ e.f ≤ 100 := by
  have := evCode_zero (h.ev i e he) (dayOf_le r)
  exact ⟨this.1, this.2.1, this.2.2.1⟩
/-- how many frames -/
def lens (q : List Ev) : Int := (q.map fun e => e.o - e.i - e.f).sum
theorem lens_add (q : List Ev) (e : Ev) : lens (q ++ [e]) = lens q + (e.o - e.i - e.f) := by simp [lens]
theorem take_add {q : List Ev} {i : Nat} {e : Ev} (h : q[i]? = some e) : q.take (i + 1) = q.take i ++ [e] := by
  rw [List.take_add_one, h]
  rfl
theorem lens_le : ∀ (q : List Ev), (∀ e ∈ q, e.mid ∧ 0 ≤ e.f ∧ e.f ≤ 100) → -100 * (q.length : Int) ≤ lens q ∧ lens q ≤ 100000000 * (q.length : Int)
  | [], _ => by simp [lens]
  | a :: l, h => by
    have h1 := lens_le l fun e he => h e (by simp [he])
    obtain ⟨⟨m0, m1, m2⟩, m3, m4⟩ := h a (by simp)
    simp only [lens, List.map_cons, List.sum_cons, List.length_cons] at h1 ⊢
    omega
theorem sum_ok {w : World} {A : Option Addr} {c : Nat} {q : List Ev} (hr : Rd w A (q.flatMap Ev.cs)) (hq : q.length ≤ 200) (hm : ∀ e ∈ q, e.mid ∧ 0 ≤ e.f ∧ e.f ≤ 100) :
    ∃ w', iter (f18.l0 C) [.int .i64 0, .slice A q.length c, .int .i64 q.length, .int .i64 0] w = some (.exit 0 [.int .i64 (lens q)] w') ∧ w.grownBy w' none := by
  have key := iter_down (f := f18.l0 C) (fun d ws w1 => ∃ i : Nat, ws = [.int .i64 (lens (q.take i)), .slice A q.length c, .int .i64 q.length, .int .i64 i] ∧ i + d = q.length ∧ w.grownBy w1 none)
    (fun r => ∃ w', w.grownBy w' none ∧ r = .exit 0 [.int .i64 (lens q)] w') (by
      rintro d ws w1 ⟨i, rfl, hi, gr⟩
      cases d with
      | zero =>
        obtain rfl : i = q.length := by omega
        rw [List.take_length]
        exact .inr ⟨.exit 0 [.int .i64 (lens q)] w1, by simp [f18.l0], ⟨w1, gr, rfl⟩, by simp⟩
      | succ d =>
        have hil : i < q.length := by omega
        have hlt : (i : Int) < (q.length : Int) := by omega
        obtain ⟨e, hqe⟩ : ∃ e, q[i]? = some e := ⟨q[i], List.getElem?_eq_getElem hil⟩
        obtain ⟨⟨m0, m1, m2⟩, m3, m4⟩ := hm e (List.mem_of_getElem? hqe)
        cases A with
        | none =>
          have h0 : q.flatMap Ev.cs = [] := hr
          have := ev_get hqe (show 0 < 5 by omega)
          rw [h0] at this
          simp [Ev.cs] at this
        | some a =>
          have i1 := ix28 a q.length c .i64 i (by omega) (by omega)
          simp only [Int.toNat_natCast] at i1
          have l1 := ev_ld (hr.grown gr) hqe
          obtain ⟨w2, h2, b2, g2⟩ := lay51 e w1
          have lb := ev_blk (w := w2.drew) (b := w1.heap.size) b2
          obtain ⟨w3, h3, g3⟩ := frames_ok (st e.s) (st e.n) e.i e.o e.f (by omega) (by omega) w2.drew
          have b3 : Blk w3 w1.heap.size 51 e.cs := Blk.grown (w := w2.drew) b2 g3 (by simp)
          have d3 := b2.cell_eq 3 rfl
          have c3 := b3.cell_eq 3 rfl
          have hb := lens_le (q.take i) fun x hx => hm x (List.mem_of_mem_take hx)
          have hlt2 : (q.take i).length ≤ 200 := by rw [List.length_take]; omega
          have e1 : IntKind.i64.wrap ((i : Int) + 1) = ((i + 1 : Nat) : Int) := (wrap_i64 (by omega) (by omega)).trans (by omega)
          have e2 : IntKind.i64.wrap (e.o - e.i - e.f) = e.o - e.i - e.f := wrap_i64 (by omega) (by omega)
          have e3 : IntKind.i64.wrap (lens (q.take i) + (e.o - e.i - e.f)) = lens (q.take (i + 1)) := by
            rw [take_add hqe, lens_add]
            exact wrap_i64 (by omega) (by omega)
          refine .inl ⟨d, _, w3, by omega, ?_, ⟨i + 1, rfl, by omega, grown_step (grown_step (grown_step gr g2) (drew_grown _)) g3⟩⟩
          simp only [Ev.v] at l1 h2 lb
          simp [f18.l0, hlt, i1, l1, alloc51, h2, lb, h3, addL, c3, e2, e3, e1, chkThen]
          rw [if_pos (by simp [d3, c3])]
          simp [e1]) q.length [.int .i64 0, .slice A q.length c, .int .i64 q.length, .int .i64 0] w ⟨0, by simp [lens], by omega, grown_refl _ _⟩
  obtain ⟨r, h1, w', h2, rfl⟩ := key
  exact ⟨w', h1, h2⟩
theorem Length_ok {w : World} (T : Ut w) (Tt : Tb w) (t : List UInt8) (r : Int) {A : Option Addr} {c : Nat} {q : List Ev} (hr : Rd w A (q.flatMap Ev.cs)) (hc : q.length ≤ c) (hs : Short q) :
    ∃ n v w', C 18 #[cutV t r A q.length c] w = some (.tuple #[.int .i64 n, v], w') ∧ w.grownBy w' none ∧ ErrIs w w' (ckCode t r q) v ∧ (ckCode t r q = none → n = lens q) ∧ (ckCode t r q ≠ none → n = 0) := by
  obtain ⟨w1, hw1⟩ : ∃ w1, w1 = w.alloc (.cells #[st t, .int .i64 r, .slice A q.length c] 30) := ⟨_, rfl⟩
  have b : Blk w1 w.heap.size 30 [st t, .int .i64 r, .slice A q.length c] := hw1 ▸ Blk.new w 30 [st t, .int .i64 r, .slice A q.length c]
  have g1 : w.grownBy w1 none := hw1 ▸ World.grownBy_alloc w _ none
  have bx : erun Tryz.prog (Instr.box 30 (.agg #[st t, .int .i64 r, .slice A q.length c])) w = some (.pointer (some ⟨w.heap.size, 0, none⟩), w1) := by rw [hw1]; rfl
  have lb : rrun Tryz.prog (Instr.loadAt 30 (.pointer (some ⟨w.heap.size, 0, none⟩))) w1 = some (.agg #[st t, .int .i64 r, .slice A q.length c]) :=
    ld30 (a := ⟨w.heap.size, 0, none⟩) (by rw [addL]; exact b.cell_eq 0 rfl) (by rw [addL]; exact b.cell_eq 1 rfl) (by rw [addL]; exact b.cell_eq 2 rfl)
  obtain ⟨v, w2, h2, g2, e2⟩ := Check_ok (T.grown g1) (Tt.grown g1) t r (hr.grown g1) hc hs
  have G2 := grown_step g1 g2
  cases hk : ckCode t r q with
  | none =>
    rw [hk] at e2
    have hv : v = .nilIface := e2
    subst hv
    have F := ck_none hk
    have b2 : Blk w2 w.heap.size 30 [st t, .int .i64 r, .slice A q.length c] := b.grown g2 (by simp)
    have c2 := b2.cell_eq 2 rfl
    obtain ⟨w3, h3, g3⟩ := sum_ok (c := c) (hr.grown G2) F.ql fun e he => by
      obtain ⟨i, hi⟩ := List.getElem?_of_mem he
      exact F.mid hi
    refine ⟨lens q, .nilIface, w3, f18.run rfl ?_, grown_step G2 g3, rfl, fun _ => rfl, fun h => absurd rfl h⟩
    simp only [cutV] at h2 ⊢
    simp [f18, bx, lb, h2, addL, c2, h3]
  | some x =>
    obtain ⟨k, e⟩ := x
    rw [hk] at e2
    have e2' := e2
    obtain ⟨b', rfl, e3, e4⟩ := e2
    refine ⟨0, _, w2, f18.run rfl ?_, G2, e2'.older (gsz g1), fun h => (by cases h), fun _ => rfl⟩
    simp only [cutV] at h2 ⊢
    simp [f18, bx, lb, h2]
end Go.Sh.YtkghbcadnbojgaaGreatDoor
