/- cuts: what a list that may be weighs; the law's loop. Conditions: those of each statement. -/
import Derived.Test.YtkghbcadnbojgaaGreatDoorUCD
import Derived.Test.YtkghbcadnbojgaaGreatDoorShClip
namespace Go.Sh.YtkghbcadnbojgaaGreatDoor
open Go Go.Proofs Go.RowKit Go.Sh.Ev
set_option linter.unusedVariables false
set_option linter.unusedSimpArgs false
set_option maxRecDepth 100000
theorem alive_run : okTrue (bRun Tryz.prog gl2 1000 annA (fun _ => false) 60 8 [] ⟨0, .leaf⟩) = true := by kernel_rfl
theorem alive_ok {w : World} (hG : GlobOk gl2 w) : ∃ w', C 8 #[] w = some (.bool true, w') ∧ w.grownBy w' none := by
  obtain ⟨w', h, gr⟩ := closed_true (ann := annA) (prim := noPrim) (isPrim := fun _ => false) (fun _ _ _ _ => rfl) hG alive_run
  exact ⟨w', told_run rfl h, gr⟩
def nf (q : List Ev) (i : Nat) : Int := match q[i]? with
  | some e => e.f
  | none => 0
theorem Fine.first {t : List UInt8} {r : Int} {q : List Ev} (h : Fine t r q) : nf q 0 = 0 := by
  unfold nf
  cases he : q[0]? with
  | none => rfl
  | some e =>
    have := (evCode_zero (h.ev 0 e he) (dayOf_le r)).2.2.2.2.1
    simp [fadeMay] at this
    exact this
theorem Fine.fade {t : List UInt8} {r : Int} {q : List Ev} (h : Fine t r q) {i : Nat} {e : Ev} (he : q[i]? = some e) : e.f ≤ e.o - e.i := by
  have := evCode_zero (h.ev i e he) (dayOf_le r)
  obtain ⟨⟨m0, m1, m2⟩, m3, m4, _, m5, _⟩ := this
  simp only [fadeMay, Bool.or_eq_true, Bool.and_eq_true, decide_eq_true_eq] at m5
  omega
theorem Fine.next {t : List UInt8} {r : Int} {q : List Ev} (h : Fine t r q) {i : Nat} {e : Ev} (he : q[i]? = some e) : nf q (i + 1) ≤ e.o - e.i - e.f ∧ 0 ≤ nf q (i + 1) ∧ nf q (i + 1) ≤ 100 := by
  have hf := h.fade he
  unfold nf
  cases hn : q[i + 1]? with
  | none => simp; omega
  | some x =>
    obtain ⟨⟨m0, m1, m2⟩, m3, m4, _, m5, _⟩ := evCode_zero (h.ev (i + 1) x hn) (dayOf_le r)
    have hl : (q.take (i + 1)).getLast? = some e := by rw [take_add he]; simp
    simp only [fadeMay, hl, Bool.or_eq_true, Bool.and_eq_true, decide_eq_true_eq] at m5
    simp only
    omega
theorem Fine.pos {t : List UInt8} {r : Int} {q : List Ev} (h : Fine t r q) : (lens q = 0 ↔ q.length = 0) := by
  have h1 : ∀ l : List Ev, (∀ e ∈ l, 0 ≤ e.o - e.i - e.f) → 0 ≤ lens l := by
    intro l
    induction l with
    | nil => intro _; simp [lens]
    | cons a l ih =>
      intro hl
      have h2 := ih fun e he => hl e (by simp [he])
      have h3 := hl a (by simp)
      simp only [lens, List.map_cons, List.sum_cons] at h2 ⊢
      omega
  cases q with
  | nil => simp [lens]
  | cons a l =>
    have h0 := h.first
    have h2 : a.f = 0 := h0
    have h3 := (h.mid (i := 0) (e := a) rfl).1
    have h4 := h1 l fun e he => by
      obtain ⟨i, hi⟩ := List.getElem?_of_mem he
      have := h.fade (i := i + 1) (e := e) (by simpa using hi)
      omega
    obtain ⟨m0, m1, m2⟩ := h3
    simp only [lens, List.map_cons, List.sum_cons, List.length_cons] at h4 ⊢
    constructor <;> intro <;> omega
theorem loop_ok {w : World} {t : List UInt8} {r : Int} {q : List Ev} (F : Fine t r q) {b : Nat} {A : Option Addr} {c : Nat} (hb : Blk w b 30 [st t, .int .i64 r, .slice A q.length c]) (hr : Rd w A (q.flatMap Ev.cs)) (o n : Value) :
    ∃ w', iter (f6.l0 C) [o, .pointer (some ⟨b, 0, none⟩), n, .int .i64 0, .int .i64 0] w = some (.exit 0 [o, .pointer (some ⟨b, 0, none⟩), n, .int .i64 (lens q)] w') ∧ w.grownBy w' none := by
  have key := iter_down (f := f6.l0 C) (fun d ws w1 => ∃ i : Nat, ws = [o, .pointer (some ⟨b, 0, none⟩), n, .int .i64 (lens (q.take i) - nf q i), .int .i64 i] ∧ i + d = q.length ∧ w.grownBy w1 none)
    (fun r => ∃ w', w.grownBy w' none ∧ r = .exit 0 [o, .pointer (some ⟨b, 0, none⟩), n, .int .i64 (lens q)] w') (by
      rintro d ws w1 ⟨i, rfl, hi, gr⟩
      have b1 : Blk w1 b 30 [st t, .int .i64 r, .slice A q.length c] := hb.grown gr (by simp)
      have c2 := b1.cell_eq 2 rfl
      have hql := F.ql
      cases d with
      | zero =>
        obtain rfl : i = q.length := by omega
        have e0 : lens (q.take q.length) - nf q q.length = lens q := by
          rw [List.take_length]
          simp [nf]
        rw [e0]
        exact .inr ⟨.exit 0 [o, .pointer (some ⟨b, 0, none⟩), n, .int .i64 (lens q)] w1, by simp [f6.l0, addL, c2], ⟨w1, gr, rfl⟩, by simp⟩
      | succ d =>
        have hil : i < q.length := by omega
        have hlt : (i : Int) < (q.length : Int) := by omega
        obtain ⟨e, hqe⟩ : ∃ e, q[i]? = some e := ⟨q[i], List.getElem?_eq_getElem hil⟩
        obtain ⟨⟨m0, m1, m2⟩, m3, m4⟩ := F.mid hqe
        obtain ⟨n1, n2, n3⟩ := F.next hqe
        have hfe := F.fade hqe
        cases A with
        | none =>
          have h0 : q.flatMap Ev.cs = [] := hr
          have := ev_get hqe (show 0 < 5 by omega)
          rw [h0] at this
          simp [Ev.cs] at this
        | some a =>
          have hr1 := hr.grown gr
          have i1 := ix28 a q.length c .i64 i (by omega) (by omega)
          simp only [Int.toNat_natCast] at i1
          have k1 : w1.cell? ((a.add (i * 5)).add 1) = some (.int .i64 e.i) := by rw [Addr.add_add]; exact hr1 _ _ (ev_get hqe (by omega))
          have k2 : w1.cell? ((a.add (i * 5)).add 2) = some (.int .i64 e.o) := by rw [Addr.add_add]; exact hr1 _ _ (ev_get hqe (by omega))
          have k3 : w1.cell? ((a.add (i * 5)).add 3) = some (.int .i64 e.f) := by rw [Addr.add_add]; exact hr1 _ _ (ev_get hqe (by omega))
          have hb2 := lens_le (q.take i) fun x hx => by
            obtain ⟨j, hj⟩ := List.getElem?_of_mem (List.mem_of_mem_take hx)
            exact F.mid hj
          have hlt2 : (q.take i).length ≤ 200 := by rw [List.length_take]; omega
          have hnf : nf q i = e.f := by rw [nf, hqe]
          have e1 : IntKind.i64.wrap ((i : Int) + 1) = ((i + 1 : Nat) : Int) := (wrap_i64 (by omega) (by omega)).trans (by omega)
          have e2 : IntKind.i64.wrap (e.o - e.i) = e.o - e.i := wrap_i64 (by omega) (by omega)
          have e3 : IntKind.i64.wrap (lens (q.take i) - nf q i + (e.o - e.i - nf q (i + 1))) = lens (q.take (i + 1)) - nf q (i + 1) := by
            rw [take_add hqe, lens_add, hnf]
            exact (wrap_i64 (by omega) (by omega)).trans (by omega)
          refine .inl ⟨d, _, w1.drew, by omega, ?_, ⟨i + 1, rfl, by omega, grown_step gr (drew_grown _)⟩⟩
          by_cases hn : i + 1 < q.length
          · obtain ⟨x, hx⟩ : ∃ x, q[i + 1]? = some x := ⟨q[i + 1], List.getElem?_eq_getElem hn⟩
            have hnx : nf q (i + 1) = x.f := by rw [nf, hx]
            have i2 := ix28 a q.length c .i64 ((i + 1 : Nat) : Int) (by omega) (by omega)
            simp only [Int.toNat_natCast] at i2
            have k4 : w1.cell? ((a.add ((i + 1) * 5)).add 3) = some (.int .i64 x.f) := by rw [Addr.add_add]; exact hr1 _ _ (ev_get hx (by omega))
            have hn' : ((i + 1 : Nat) : Int) < (q.length : Int) := by omega
            have e4 : IntKind.i64.wrap (e.o - e.i - x.f) = e.o - e.i - nf q (i + 1) := by rw [hnx]; exact wrap_i64 (by omega) (by omega)
            have y1 : ¬ e.o - e.i - nf q (i + 1) < e.f := by omega
            have y2 : ¬ e.o - e.i - nf q (i + 1) < 0 := by omega
            obtain ⟨I, hI⟩ : ∃ I : Int, I = ((i + 1 : Nat) : Int) := ⟨_, rfl⟩
            rw [← hI] at e1 i2 hn' ⊢
            simp [f6.l0, addL, c2, hlt, i1, k1, k2, k3, e2, e1, hn', i2, k4, e4, y1, y2, e3]
          · have hnx : nf q (i + 1) = 0 := by rw [nf, List.getElem?_eq_none (by omega)]
            have hn' : ¬ ((i + 1 : Nat) : Int) < (q.length : Int) := by omega
            rw [hnx] at e3 ⊢
            have y1 : ¬ e.o - e.i < e.f := by omega
            have y2 : ¬ e.o - e.i < 0 := by omega
            simp only [Int.sub_zero] at e3 ⊢
            obtain ⟨I, hI⟩ : ∃ I : Int, I = ((i + 1 : Nat) : Int) := ⟨_, rfl⟩
            rw [← hI] at e1 hn' ⊢
            simp [f6.l0, addL, c2, hlt, i1, k1, k2, k3, e2, e1, hn', y1, y2, e3]) q.length [o, .pointer (some ⟨b, 0, none⟩), n, .int .i64 0, .int .i64 0] w ⟨0, by simp [lens, F.first], by omega, grown_refl _ _⟩
  obtain ⟨r, h1, w', h2, rfl⟩ := key
  exact ⟨w', h1, h2⟩
end Go.Sh.YtkghbcadnbojgaaGreatDoor
