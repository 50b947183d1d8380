/- cuts: a fade that is one too long. Conditions: those of each statement. -/
import Derived.Test.YtkghbcadnbojgaaGreatDoorUCE
namespace Go.Sh.YtkghbcadnbojgaaGreatDoor
open Go Go.Proofs Go.RowKit Go.Sh.Ev
set_option linter.unusedVariables false
set_option linter.unusedSimpArgs false
set_option maxRecDepth 100000
theorem min3 (a b c : Int) : prun Tryz.prog (Builtin.min_ #[3, 3, 3] 3 #[.int .i64 a, .int .i64 b, .int .i64 c]) = some (.int .i64 (min (min a b) c)) := by
  have h2 : ∀ a b : Int, prun Tryz.prog (Builtin.min2 (.int .i64 a) (.int .i64 b)) = some (.int .i64 (min a b)) := fun a b => by
    simp only [Builtin.min2]
    split <;> simp [prun_pure] <;> omega
  simp [Builtin.min_, List.foldlM, prun_bind, h2]
theorem build30 (s : ByteArray) (r : Int) (A : Option Addr) (n c : Nat) : prun Tryz.prog (Instr.build 30 #[(0, .string s), (1, .int .i64 r), (2, .slice A n c)]) = some (.agg #[.string s, .int .i64 r, .slice A n c]) := id (by kernel_rfl)
theorem fm_set : ∀ (q : List Ev) (k : Nat) (e : Ev) (f : Int), q[k]? = some e → (q.flatMap Ev.cs).set (k * 5 + 3) (.int .i64 f) = (q.set k { e with f := f }).flatMap Ev.cs
  | [], k, e, f, h => by simp at h
  | a :: l, 0, e, f, h => by
    simp at h
    subst h
    rfl
  | a :: l, k + 1, e, f, h => by
    have ih := fm_set l k e f (by simpa using h)
    rw [List.set_cons_succ, List.flatMap_cons, List.flatMap_cons, ← ih, List.set_append_right _ _ (by rw [cs_len]; omega), cs_len, show (k + 1) * 5 + 3 - 5 = k * 5 + 3 by omega]
theorem evBad_at {day : Int} : ∀ (q ahead : List Ev) (k : Nat) (e : Ev), q[k]? = some e → (∀ i, i < k → ∀ x, q[i]? = some x → evCode (ahead ++ q.take i) x day = 0) → evCode (ahead ++ q.take k) e day ≠ 0 → evBad day ahead q = some (((ahead.length + k : Nat) : Int), evCode (ahead ++ q.take k) e day)
  | [], ahead, k, e, h, _, _ => by simp at h
  | a :: l, ahead, 0, e, h, _, h2 => by
    simp at h
    subst h
    rw [evBad]
    simp only [List.take_zero, List.append_nil] at h2 ⊢
    rw [if_neg h2]
    simp
  | a :: l, ahead, k + 1, e, h, h1, h2 => by
    have h0 := h1 0 (by omega) a rfl
    simp only [List.take_zero, List.append_nil] at h0
    rw [evBad, if_pos h0]
    have e1 : ahead ++ (a :: l).take (k + 1) = (ahead ++ [a]) ++ l.take k := by simp
    rw [e1] at h2 ⊢
    rw [evBad_at l (ahead ++ [a]) k e (by simpa using h) (fun i hi x hx => by
      have := h1 (i + 1) (by omega) x (by simpa using hx)
      simpa using this) h2]
    simp
    omega
/-- the longest fade that may be -/
def most (l e : Ev) : Int := min (min 100 (e.o - e.i)) (l.o - l.i - l.f)
theorem worse {t : List UInt8} {r : Int} {q : List Ev} (F : Fine t r q) {k : Nat} {l e : Ev} (hl : q[k]? = some l) (he : q[k + 1]? = some e) :
    ckCode t r (q.set (k + 1) { e with f := most l e + 1 }) = some (((k + 1 : Nat) : Int), 195) ∧ 0 ≤ most l e ∧ most l e ≤ 100 := by
  obtain ⟨⟨l0, l1, l2⟩, l3, l4⟩ := F.mid hl
  have lf := F.fade hl
  have hc := F.ev _ e he
  obtain ⟨⟨m0, m1, m2⟩, m3, m4, c1, c2, c3, c4, c5⟩ := evCode_zero hc (dayOf_le r)
  have hm0 : 0 ≤ most l e := by unfold most; omega
  have hm1 : most l e ≤ 100 := by unfold most; omega
  refine ⟨?_, hm0, hm1⟩
  have hlen : (q.set (k + 1) { e with f := most l e + 1 }).length = q.length := by simp
  rw [ckCode, if_neg (by have := F.tl; omega), if_neg (by rw [F.tv]; simp), if_neg (by have := F.r1; have := F.r7; omega), if_neg (by have := F.ql; omega)]
  have hkl : k + 1 < q.length := (List.getElem?_eq_some_iff.mp he).1
  have htake : ∀ i, i ≤ k + 1 → (q.set (k + 1) { e with f := most l e + 1 }).take i = q.take i := fun i hi => by
    rw [List.take_set, List.set_eq_of_length_le (by rw [List.length_take]; omega)]
  have hlast : (q.take (k + 1)).getLast? = some l := by rw [take_add hl]; simp
  have hcode : evCode (q.take (k + 1)) { e with f := most l e + 1 } (dayOf r) = 195 := by
    have hfm : fadeMay (q.take (k + 1)) { e with f := most l e + 1 } = false := by
      unfold fadeMay
      simp only [hlast]
      have : most l e + 1 ≤ 100 → most l e + 1 ≤ e.o - e.i → ¬ most l e + 1 ≤ l.o - l.i - l.f := by
        unfold most
        omega
      simp only [Bool.or_eq_false_iff, Bool.and_eq_false_iff, decide_eq_false_iff_not]
      refine ⟨by omega, ?_⟩
      by_cases h1 : most l e + 1 ≤ 100
      · by_cases h2 : most l e + 1 ≤ e.o - e.i
        · exact .inr (this h1 h2)
        · exact .inl (.inr h2)
      · exact .inl (.inl (.inr h1))
    unfold evCode
    rw [if_neg (by rw [c1]; simp), if_neg (by simp only; omega), if_pos hfm]
  have := evBad_at (day := dayOf r) (q.set (k + 1) { e with f := most l e + 1 }) [] (k + 1) { e with f := most l e + 1 } (by rw [List.getElem?_set]; simp [hkl]) (fun i hi x hx => by
    rw [List.nil_append, htake i (by omega)]
    refine F.ev i x ?_
    rw [List.getElem?_set] at hx
    simpa [show ¬ k + 1 = i by omega] using hx) (by rw [List.nil_append, htake _ (Nat.le_refl _), hcode]; omega)
  rw [this, List.nil_append, htake _ (Nat.le_refl _), hcode]
  simp
end Go.Sh.YtkghbcadnbojgaaGreatDoor
