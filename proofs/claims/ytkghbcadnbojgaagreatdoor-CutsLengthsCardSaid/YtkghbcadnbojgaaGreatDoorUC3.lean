/- cuts: whether an event's fade may be. Conditions: those of each statement. -/
import Derived.Test.YtkghbcadnbojgaaGreatDoorUC2
namespace Go.Sh.YtkghbcadnbojgaaGreatDoor
open Go Go.Proofs Go.RowKit
set_option linter.unusedVariables false
set_option linter.unusedSimpArgs false
set_option maxRecDepth 100000
/-- an event -/
structure Ev where
  s : List UInt8
  i : Int
  o : Int
  f : Int
  n : List UInt8
def Ev.cs (e : Ev) : List Value := [st e.s, .int .i64 e.i, .int .i64 e.o, .int .i64 e.f, st e.n]
def Ev.v (e : Ev) : Value := .agg #[st e.s, .int .i64 e.i, .int .i64 e.o, .int .i64 e.f, st e.n]
def Ev.mid (e : Ev) : Prop := 0 ≤ e.i ∧ e.i < e.o ∧ e.o ≤ 100000000
theorem ev_get {q : List Ev} {i : Nat} {o : Ev} (hi : q[i]? = some o) {j : Nat} (hj : j < 5) : (q.flatMap Ev.cs)[i * 5 + j]? = o.cs[j]? := by
  induction q generalizing i with
  | nil => simp at hi
  | cons a l ih =>
    have hl : a.cs.length = 5 := rfl
    cases i with
    | zero =>
      simp at hi
      subst hi
      rw [List.flatMap_cons, Nat.zero_mul, Nat.zero_add, List.getElem?_append_left (by omega)]
    | succ i =>
      simp at hi
      rw [List.flatMap_cons, List.getElem?_append_right (by omega), hl, show (i + 1) * 5 + j - 5 = i * 5 + j by omega]
      exact ih hi
theorem ev_ld {w : World} {a : Addr} {q : List Ev} (hr : Rd w (some a) (q.flatMap Ev.cs)) {i : Nat} {o : Ev} (hi : q[i]? = some o) : rrun Tryz.prog (Instr.loadAt 51 (.pointer (some (a.add (i * 5))))) w = some o.v :=
  ld51 (by rw [Addr.add_add]; exact hr _ _ (ev_get hi (by omega))) (by rw [Addr.add_add]; exact hr _ _ (ev_get hi (by omega))) (by rw [Addr.add_add]; exact hr _ _ (ev_get hi (by omega))) (by rw [Addr.add_add]; exact hr _ _ (ev_get hi (by omega))) (by rw [Addr.add_add]; exact hr _ _ (ev_get hi (by omega)))
theorem alloc51 (w : World) : erun Tryz.prog (Instr.alloc 51 true (.tuple #[])) w = some (.pointer (some ⟨w.heap.size, 0, none⟩), w.alloc (.cells #[st [], .int .i64 0, .int .i64 0, .int .i64 0, st []] 51)) := id (by kernel_rfl)
theorem ev_blk {w : World} {b : Nat} {e : Ev} (h : Blk w b 51 e.cs) : rrun Tryz.prog (Instr.loadAt 51 (.pointer (some ⟨b, 0, none⟩))) w = some e.v :=
  ld51 (a := ⟨b, 0, none⟩) (by rw [addL]; exact h.cell_eq 0 rfl) (by rw [addL]; exact h.cell_eq 1 rfl) (by rw [addL]; exact h.cell_eq 2 rfl) (by rw [addL]; exact h.cell_eq 3 rfl) (by rw [addL]; exact h.cell_eq 4 rfl)
/-- an event, laid into new memory -/
theorem lay51 (e : Ev) (w : World) : ∃ w', erun Tryz.prog (Instr.storeAt 51 (.pointer (some ⟨w.heap.size, 0, none⟩)) e.v) (w.alloc (.cells #[st [], .int .i64 0, .int .i64 0, .int .i64 0, st []] 51)) = some ((), w') ∧ Blk w' w.heap.size 51 e.cs ∧ w.grownBy w' none := by
  have b := Blk.new w 51 [st [], .int .i64 0, .int .i64 0, .int .i64 0, st []]
  have g1 := World.grownBy_alloc w (.cells #[st [], .int .i64 0, .int .i64 0, .int .i64 0, st []] 51) none
  obtain ⟨w2, h2, b2, g2⟩ := Blk.storeAll (P := Tryz.prog) b (t := 51) inf51 (o := 0) (v := e.v) (vs := e.cs) (cs' := e.cs) rfl (by rw [size51]; rfl) (by simp [Ev.cs]) (by simp [Ev.cs, Value.oneCell']) (by simp [Ev.cs])
  exact ⟨w2, h2, b2, grown_trans g1 g2 (fun k hk => by cases hk; exact Nat.le_refl _)⟩
/-- may this fade be, behind these -/
def fadeMay (ahead : List Ev) (e : Ev) : Bool :=
  decide (e.f = 0) || (decide (0 ≤ e.f) && decide (e.f ≤ 100) && decide (e.f ≤ e.o - e.i) && match ahead.getLast? with
    | none => false
    | some l => decide (e.f ≤ l.o - l.i - l.f))
theorem fades_ok {w : World} {A : Option Addr} {c : Nat} {ahead : List Ev} {e : Ev} (hr : Rd w A (ahead.flatMap Ev.cs)) (hl : ahead.length ≤ 1000000) (he : e.mid) (ha : ∀ x ∈ ahead, x.mid ∧ 0 ≤ x.f ∧ x.f ≤ 100) :
    ∃ w', C 83 #[.slice A ahead.length c, e.v] w = some (.bool (fadeMay ahead e), w') ∧ w.grownBy w' none := by
  have hf0 : fadeMay ahead e = fadeMay ahead e := rfl
  obtain ⟨w1, hw1⟩ : ∃ w1, w1 = w.alloc (.cells #[st e.s, .int .i64 e.i, .int .i64 e.o, .int .i64 e.f, st e.n] 51) := ⟨_, rfl⟩
  have b : Blk w1 w.heap.size 51 e.cs := hw1 ▸ Blk.new w 51 e.cs
  have g1 : w.grownBy w1 none := hw1 ▸ World.grownBy_alloc w _ none
  have c3 := b.cell_eq 3 rfl
  have bx : erun Tryz.prog (Instr.box 51 e.v) w = some (.pointer (some ⟨w.heap.size, 0, none⟩), w1) := by rw [hw1]; rfl
  have g1d : w.grownBy w1.drew none := grown_step g1 (grown_drew _ _)
  obtain ⟨m0, m1, m2⟩ := he
  by_cases z0 : e.f = 0
  · refine ⟨w1, f83.run rfl ?_, g1⟩
    rw [z0] at c3
    simp [f83, bx, addL, c3, fadeMay, z0]
  by_cases z1 : e.f < 0
  · refine ⟨w1.drew, f83.run rfl ?_, g1d⟩
    have : ¬ 0 ≤ e.f := by omega
    simp [f83, bx, addL, c3, fadeMay, z0, z1, this, wantedV, pickV, chkThen]
  by_cases z2 : 100 < e.f
  · refine ⟨w1.drew, f83.run rfl ?_, g1d⟩
    have : ¬ e.f ≤ 100 := by omega
    simp [f83, bx, addL, c3, fadeMay, z0, z1, z2, this, wantedV, pickV, chkThen]
  cases hgl : ahead.getLast? with
  | none =>
    have hn : ahead = [] := by simpa using hgl
    subst hn
    refine ⟨w1.drew, f83.run rfl ?_, g1d⟩
    simp [f83, bx, addL, c3, fadeMay, z0, z1, z2, wantedV, pickV, chkThen]
  | some l =>
    have hne : ahead ≠ [] := by rintro rfl; simp at hgl
    have hpos : 0 < ahead.length := List.length_pos_iff.mpr hne
    have hlast : ahead[ahead.length - 1]? = some l := by rw [List.getLast?_eq_getElem?] at hgl; exact hgl
    obtain ⟨⟨l0, l1, l2⟩, l3, l4⟩ := ha l (List.mem_of_getElem? hlast)
    have ll : ((ahead.length : Int) == 0) = false := by simp; exact hne
    have lb := ev_blk (w := w1.drew) (b := w.heap.size) b
    obtain ⟨w2, h2, g2⟩ := frames_ok (st e.s) (st e.n) e.i e.o e.f (by omega) (by omega) w1.drew
    have b2 : Blk w2 w.heap.size 51 e.cs := Blk.grown (w := w1.drew) b g2 (by simp)
    have c32 := b2.cell_eq 3 rfl
    by_cases z3 : e.o - e.i < e.f
    · refine ⟨w2, f83.run rfl ?_, grown_trans g1d g2 (by simp)⟩
      have : ¬ e.f ≤ e.o - e.i := by omega
      simp only [Ev.v] at bx lb ⊢
      simp [f83, bx, addL, c3, lb, h2, c32, z0, z1, z2, z3, ll, hne, fadeMay, this, wantedV, pickV, chkThen]
    · cases A with
      | none =>
        have h0 : ahead.flatMap Ev.cs = [] := hr
        have := ev_get hlast (show 0 < 5 by omega)
        rw [h0] at this
        simp [Ev.cs] at this
      | some a =>
        have G2 := grown_trans g1d g2 (by simp)
        have e1 : IntKind.i64.wrap ((ahead.length : Int) - 1) = (ahead.length : Int) - 1 := wrap_i64 (by omega) (by omega)
        have i1 := ix28 a ahead.length c .i64 ((ahead.length : Int) - 1) (by omega) (by omega)
        rw [show ((ahead.length : Int) - 1).toNat = ahead.length - 1 by omega] at i1
        have l1' := ev_ld (hr.grown G2) hlast
        obtain ⟨w3, h3, b3, g3⟩ := lay51 l w2
        have be3 : Blk w3 w.heap.size 51 e.cs := Blk.grown b2 g3 (by simp)
        have c33 := be3.cell_eq 3 rfl
        have d33 := b3.cell_eq 3 rfl
        have lb3 := ev_blk (w := w3.drew) b3
        obtain ⟨w4, h4, g4⟩ := frames_ok (st l.s) (st l.n) l.i l.o l.f (by omega) (by omega) w3.drew
        have be4 : Blk w4 w.heap.size 51 e.cs := Blk.grown (w := w3.drew) be3 g4 (by simp)
        have c34 := be4.cell_eq 3 rfl
        have bl4 : Blk w4 w2.heap.size 51 l.cs := Blk.grown (w := w3.drew) b3 g4 (by simp)
        have d34 := bl4.cell_eq 3 rfl
        have e2 : IntKind.i64.wrap (l.o - l.i - l.f) = l.o - l.i - l.f := wrap_i64 (by omega) (by omega)
        refine ⟨w4, f83.run rfl ?_, grown_trans (grown_trans G2 g3 (by simp)) (grown_step (grown_drew _ _) g4) (by simp)⟩
        have z3' : e.f ≤ e.o - e.i := by omega
        have z1' : 0 ≤ e.f := by omega
        have z2' : e.f ≤ 100 := by omega
        simp only [Ev.v] at bx lb l1' h3 lb3 ⊢
        simp [f83, bx, addL, c3, lb, h2, c32, z0, z1, z2, z3, ll, hne, e1, i1, l1', alloc51, h3, c33, lb3, h4, c34, d34, e2, fadeMay, hgl, z1', z2', z3', wantedV, pickV, chkThen]
        rw [if_pos (by simp [c33, c34, d33, d34])]
        rfl
end Go.Sh.YtkghbcadnbojgaaGreatDoor
