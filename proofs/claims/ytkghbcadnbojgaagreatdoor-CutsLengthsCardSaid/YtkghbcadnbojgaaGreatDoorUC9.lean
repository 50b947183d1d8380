/- cuts: Check. Conditions: those of each statement. -/
import Derived.Test.YtkghbcadnbojgaaGreatDoorUC8
namespace Go.Sh.YtkghbcadnbojgaaGreatDoor
open Go Go.Proofs Go.RowKit
set_option linter.unusedVariables false
set_option linter.unusedSimpArgs false
set_option maxRecDepth 100000
theorem cs_len (e : Ev) : e.cs.length = 5 := rfl
theorem fm_len (q : List Ev) : (q.flatMap Ev.cs).length = q.length * 5 := by
  induction q with
  | nil => rfl
  | cons a l ih => rw [List.flatMap_cons, List.length_append, ih, cs_len, List.length_cons]; omega
theorem fm_take : ∀ (i : Nat) (q : List Ev), (q.flatMap Ev.cs).take (i * 5) = (q.take i).flatMap Ev.cs
  | 0, q => by simp
  | i + 1, [] => by simp
  | i + 1, a :: l => by
    rw [List.flatMap_cons, List.take_succ_cons, List.flatMap_cons, ← fm_take i l, List.take_append, cs_len, show (i + 1) * 5 - 5 = i * 5 by omega, List.take_of_length_le (by rw [cs_len]; omega)]
/-- the first event that may not be -/
def evBad (day : Int) : List Ev → List Ev → Option (Int × Int)
  | _, [] => none
  | ahead, e :: r => if evCode ahead e day = 0 then evBad day (ahead ++ [e]) r else some (ahead.length, evCode ahead e day)
/-- how many frames a day has at a rate -/
def dayOf (r : Int) : Int := match rates[r.toNat]? with
  | some x => perDay x
  | none => 0
theorem dayOf_le (r : Int) : dayOf r ≤ 100000000 := by
  unfold dayOf
  split
  · rename_i x h
    have := List.mem_of_getElem? h
    simp only [rates, List.mem_cons, List.not_mem_nil, or_false] at this
    rcases this with rfl | rfl | rfl | rfl | rfl | rfl | rfl | rfl <;> simp [perDay]
  · omega
/-- what is wrong with a list -/
def ckCode (t : List UInt8) (r : Int) (q : List Ev) : Option (Int × Int) :=
  if 100 < t.length then some (-1, 191) else if valid t = false then some (-1, 192) else if r < 1 ∨ 7 < r then some (-1, 181) else if 200 < q.length then some (-1, 196) else evBad (dayOf r) [] q
def ErrIs (w w' : World) : Option (Int × Int) → Value → Prop
  | none, v => v = .nilIface
  | some (k, e), v => ∃ b, v = .iface 99 (.pointer (some ⟨b, 0, none⟩)) ∧ Blk w' b 101 [.int .i64 k, .int .i64 e] ∧ w.heap.size ≤ b
theorem fade_zero {ahead : List Ev} {e : Ev} (h : fadeMay ahead e = true) : 0 ≤ e.f ∧ e.f ≤ 100 := by
  simp only [fadeMay, Bool.or_eq_true, Bool.and_eq_true, decide_eq_true_eq] at h
  omega
theorem evCode_zero {ahead : List Ev} {e : Ev} {day : Int} (h : evCode ahead e day = 0) (hd : day ≤ 100000000) : e.mid ∧ 0 ≤ e.f ∧ e.f ≤ 100 ∧ isName e.s = true ∧ fadeMay ahead e = true ∧ e.n.length ≤ 100 ∧ valid e.n = true ∧ e.o < day := by
  unfold evCode at h
  split at h; · omega
  split at h; · omega
  split at h; · omega
  split at h; · omega
  split at h; · omega
  rename_i h1 h2 h3 h4 h5
  have h3' : fadeMay ahead e = true := by simpa using h3
  refine ⟨⟨by omega, by omega, by omega⟩, (fade_zero h3').1, (fade_zero h3').2, by simpa using h1, h3', by omega, by simpa using h5, by omega⟩
theorem wrong_at (k e : Int) (w : World) : ∃ v w', C 38 #[.int .i64 k, .int .i64 e] w = some (v, w') ∧ w.grownBy w' none ∧ ErrIs w w' (some (k, e)) v :=
  ⟨_, _, wrong_ok k e w, World.grownBy_alloc _ _ _, _, rfl, Blk.new w 101 [.int .i64 k, .int .i64 e], Nat.le_refl _⟩
theorem ErrIs.older {w0 w w' : World} {c : Option (Int × Int)} {v : Value} (h : ErrIs w w' c v) (g : w0.heap.size ≤ w.heap.size) : ErrIs w0 w' c v := by
  match c, h with
  | none, h => exact h
  | some (k, e), ⟨b, h1, h2, h3⟩ => exact ⟨b, h1, h2, by omega⟩
theorem ErrIs.later {w w' w'' : World} {c : Option (Int × Int)} {v : Value} (h : ErrIs w w' c v) (g : w'.grownBy w'' none) : ErrIs w w'' c v := by
  match c, h with
  | none, h => exact h
  | some (k, e), ⟨b, h1, h2, h3⟩ => exact ⟨b, h1, h2.grown g (by simp), h3⟩
theorem gsz {w w' : World} (g : w.grownBy w' none) : w.heap.size ≤ w'.heap.size := g.size
/-- texts that may come in -/
def Short (q : List Ev) : Prop := ∀ e ∈ q, e.s.length ≤ 9223372036854775807 ∧ e.n.length ≤ 9223372036854775807
theorem events_ok {w : World} (T : Ut w) {b : Nat} {t : Value} {rt : Value} {A : Option Addr} {c : Nat} {q : List Ev} (hb : Blk w b 30 [t, rt, .slice A q.length c]) (hr : Rd w A (q.flatMap Ev.cs)) (hc : q.length ≤ c) (hl : q.length ≤ 1000000) (hs : Short q) (day : Int) (hd : day ≤ 100000000) :
    ∃ r w', iter (f15.l0 C) [.pointer (some ⟨b, 0, none⟩), .int .i64 day, .slice A q.length c, .int .i64 q.length, .int .i64 0] w = some r ∧ w.grownBy w' none ∧
      ((r = .exit 1 [] w' ∧ evBad day [] q = none) ∨ ∃ k e v, r = .ret [v] w' ∧ evBad day [] q = some (k, e) ∧ ErrIs w w' (some (k, e)) v) := by
  have key := iter_down (f := f15.l0 C) (fun d ws w1 => ∃ i : Nat, ws = [.pointer (some ⟨b, 0, none⟩), .int .i64 day, .slice A q.length c, .int .i64 q.length, .int .i64 i] ∧ i + d = q.length ∧ w.grownBy w1 none ∧ Good (q.take i) ∧ evBad day (q.take i) (q.drop i) = evBad day [] q)
    (fun r => ∃ w', w.grownBy w' none ∧ ((r = .exit 1 [] w' ∧ evBad day [] q = none) ∨ ∃ k e v, r = .ret [v] w' ∧ evBad day [] q = some (k, e) ∧ ErrIs w w' (some (k, e)) v)) (by
      rintro d ws w1 ⟨i, rfl, hi, gr, hg, he⟩
      cases d with
      | zero =>
        obtain rfl : i = q.length := by omega
        rw [List.drop_length] at he
        exact .inr ⟨.exit 1 [] w1, by simp [f15.l0], ⟨w1, gr, .inl ⟨rfl, he.symm⟩⟩, by simp⟩
      | succ d =>
        have hil : i < q.length := by omega
        have hlt : (i : Int) < (q.length : Int) := by omega
        obtain ⟨e, hqe⟩ : ∃ e, q[i]? = some e := ⟨q[i], List.getElem?_eq_getElem hil⟩
        have hdrop : q.drop i = e :: q.drop (i + 1) := by
          rw [List.drop_eq_getElem_cons hil]
          congr 1
          have := List.getElem?_eq_getElem hil
          rw [this] at hqe
          exact Option.some.inj hqe
        have htake : q.take (i + 1) = q.take i ++ [e] := by
          rw [List.take_add_one, hqe]
          rfl
        rw [hdrop, evBad] at he
        have hem := List.mem_of_getElem? hqe
        cases A with
        | none =>
          have h0 : q.flatMap Ev.cs = [] := hr
          have := ev_get hqe (show 0 < 5 by omega)
          rw [h0] at this
          simp [Ev.cs] at this
        | some a =>
          have i1 := ix28 a q.length c .i64 i (by omega) (by omega)
          simp only [Int.toNat_natCast] at i1
          have l1 := ev_ld (hr.grown gr) hqe
          obtain ⟨w2, h2, b2, g2⟩ := lay51 e w1
          have gd := grown_step (grown_step gr g2) (drew_grown w2)
          have hbd : Blk w2 b 30 [t, rt, .slice (some a) q.length c] := hb.grown (grown_step gr g2) (by simp)
          have c2 := hbd.cell_eq 2 rfl
          have lb := ev_blk (w := w2.drew) (b := w1.heap.size) b2
          have sl := sl28 (some a) q.length c none (some (.int .i64 i)) none 0 i c (by simpa using bounds_hi (P := Tryz.prog) q.length c .i64 i (by omega) (by omega))
          obtain ⟨A', hA'⟩ : ∃ A', A' = (if c = 0 then (some a) else (some a).map (·.add (0 * 5))) := ⟨_, rfl⟩
          have hrd : Rd w2.drew A' ((q.take i).flatMap Ev.cs) := by
            have := (hr.grown gd).sliced 0 i c 5 (by omega) (by omega)
            rw [← hA', Nat.zero_mul, List.drop_zero, Nat.sub_zero, fm_take] at this
            exact this
          rw [← hA', Nat.sub_zero, Nat.sub_zero] at sl
          have htl : (q.take i).length = i := by rw [List.length_take]; omega
          obtain ⟨w3, h3, g3⟩ := event_ok (c := c) (T.grown gd) hrd hg day hd (hs e hem).1 (hs e hem).2
          rw [htl] at h3
          have G3 := grown_step gd g3
          by_cases hz : evCode (q.take i) e day = 0
          · have e1 : IntKind.i64.wrap ((i : Int) + 1) = ((i + 1 : Nat) : Int) := (wrap_i64 (by omega) (by omega)).trans (by omega)
            refine .inl ⟨d, _, w3, by omega, ?_, ⟨i + 1, rfl, by omega, G3, ?_, ?_⟩⟩
            · rw [hz] at h3
              simp only [Ev.v] at l1 h2 lb h3
              simp [f15.l0, hlt, i1, l1, alloc51, h2, addL, c2, sl, lb, h3, e1]
            · obtain ⟨z1, z2, z3, _⟩ := evCode_zero hz hd
              refine ⟨by rw [List.length_take]; omega, fun x hx => ?_⟩
              rw [htake] at hx
              rcases List.mem_append.mp hx with hx | hx
              · exact hg.2 x hx
              · obtain rfl : x = e := by simpa using hx
                exact ⟨z1, z2, z3⟩
            · rw [htake]
              rwa [if_pos hz] at he
          · rw [if_neg hz, htl] at he
            obtain ⟨v, w4, h4, g4, er4⟩ := wrong_at i (evCode (q.take i) e day) w3
            refine .inr ⟨.ret [v] w4, ?_, ⟨w4, grown_step G3 g4, .inr ⟨_, _, v, rfl, he.symm, er4.older (gsz G3)⟩⟩, by simp⟩
            simp only [Ev.v] at l1 h2 lb h3
            simp [f15.l0, hlt, i1, l1, alloc51, h2, addL, c2, sl, lb, h3, hz, h4]) q.length _ w ⟨0, rfl, by omega, grown_refl _ _, ⟨by simp, by simp⟩, by simp⟩
  obtain ⟨r, h1, w', h2, h3⟩ := key
  exact ⟨r, w', h1, h2, h3⟩
end Go.Sh.YtkghbcadnbojgaaGreatDoor
