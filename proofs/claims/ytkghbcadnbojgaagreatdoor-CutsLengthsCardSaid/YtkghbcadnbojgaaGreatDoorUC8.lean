/- cuts: ValidString, checkEvent. Conditions: those of each statement. -/
import Derived.Test.YtkghbcadnbojgaaGreatDoorUC7
namespace Go.Sh.YtkghbcadnbojgaaGreatDoor
open Go Go.Proofs Go.RowKit
set_option linter.unusedVariables false
set_option linter.unusedSimpArgs false
set_option maxRecDepth 100000
theorem valid_ok {w : World} (T : Ut w) (l : List UInt8) (hl : l.length ≤ 900000) : ∃ w', C 39 #[st l] w = some (.bool (valid l), w') ∧ w.grownBy w' none := by
  have key := iter_down (f := f39.l1 C) (fun d ws w1 => ∃ l1 : List UInt8, ws = [st l1] ∧ l1.length = d ∧ vs 0 l1 = vs 0 l ∧ l1.length ≤ l.length ∧ w.grownBy w1 none)
    (fun r => ∃ w', ((r = .exit 0 [] w' ∧ vs 0 l = true) ∨ (r = .ret [.bool false] w' ∧ vs 0 l = false)) ∧ w.grownBy w' none) (by
      rintro d ws w1 ⟨l1, rfl, hd, hv, hle, gr⟩
      cases l1 with
      | nil =>
        refine .inr ⟨.exit 0 [] w1, ?_, ⟨w1, .inl ⟨rfl, by rw [← hv]; rfl⟩, gr⟩, by simp⟩
        have hs := str_len (P := Tryz.prog) Tryz.underlying9 3 []
        simp [f39.l1, hs]
      | cons c r =>
        have hr : r.length ≤ 900000 := by simp at hle; omega
        by_cases hc : c.toNat < 128
        · obtain ⟨l', w', h1, h2, h3, g'⟩ := round_asc hc hr w1
          exact .inl ⟨l'.length, _, w', by simp at hd; omega, h1, ⟨l', rfl, rfl, h2.trans hv, by simp at hle; omega, grown_step gr g'⟩⟩
        · rcases round_hi (c := c) (r := r) (by omega) hr (T.grown gr) with ⟨l', w', h1, h2, h3, g'⟩ | ⟨w', h1, h2, g'⟩
          · exact .inl ⟨l'.length, _, w', by simp at hd; omega, h1, ⟨l', rfl, rfl, h2.trans hv, by simp at hle; omega, grown_step gr g'⟩⟩
          · exact .inr ⟨_, h1, ⟨w', .inr ⟨rfl, by rw [← hv, h2]⟩, grown_step gr g'⟩, by simp⟩) l.length _ w ⟨l, rfl, rfl, rfl, Nat.le_refl _, grown_refl _ _⟩
  obtain ⟨r, h1, w', h2, h3⟩ := key
  refine ⟨w', f39.run rfl ?_, h3⟩
  rcases h2 with ⟨rfl, h2⟩ | ⟨rfl, h2⟩ <;> simp [f39, h1, h2, valid]
/-- the error of an event, behind these -/
def evCode (ahead : List Ev) (e : Ev) (day : Int) : Int :=
  if isName e.s = false then 193 else if e.i < 0 ∨ e.o ≤ e.i ∨ day ≤ e.o then 194 else if fadeMay ahead e = false then 195 else if 100 < e.n.length then 191 else if valid e.n = false then 192 else 0
/-- lists of what may be -/
def Good (ahead : List Ev) : Prop := ahead.length ≤ 1000000 ∧ ∀ x ∈ ahead, x.mid ∧ 0 ≤ x.f ∧ x.f ≤ 100
theorem event_ok {w : World} (T : Ut w) {A : Option Addr} {c : Nat} {ahead : List Ev} {e : Ev} (hr : Rd w A (ahead.flatMap Ev.cs)) (hg : Good ahead) (day : Int) (hd : day ≤ 100000000) (hs : e.s.length ≤ 9223372036854775807) (hn : e.n.length ≤ 9223372036854775807) :
    ∃ w', C 40 #[.slice A ahead.length c, e.v, .int .i64 day] w = some (.int .i64 (evCode ahead e day), w') ∧ w.grownBy w' none := by
  obtain ⟨w1, hw1⟩ : ∃ w1, w1 = w.alloc (.cells #[st e.s, .int .i64 e.i, .int .i64 e.o, .int .i64 e.f, st e.n] 51) := ⟨_, rfl⟩
  have b : Blk w1 w.heap.size 51 e.cs := hw1 ▸ Blk.new w 51 e.cs
  have g1 : w.grownBy w1 none := hw1 ▸ World.grownBy_alloc w _ none
  have c0 := b.cell_eq 0 rfl
  have c1 := b.cell_eq 1 rfl
  have c2 := b.cell_eq 2 rfl
  have bx : erun Tryz.prog (Instr.box 51 e.v) w = some (.pointer (some ⟨w.heap.size, 0, none⟩), w1) := by rw [hw1]; rfl
  have lb := ev_blk b
  have nm := isName_ok e.s hs w1
  cases z0 : isName e.s with
  | false =>
    rw [z0] at nm
    refine ⟨w1, f40.run rfl ?_, g1⟩
    simp only [Ev.v] at bx ⊢
    simp [f40, bx, addL, c0, nm, evCode, z0]
  | true =>
    rw [z0] at nm
    by_cases z1 : e.i < 0
    · refine ⟨w1, f40.run rfl ?_, g1⟩
      simp only [Ev.v] at bx ⊢
      simp [f40, bx, addL, c0, nm, c1, evCode, z0, z1]
    by_cases z2 : e.o ≤ e.i
    · refine ⟨w1, f40.run rfl ?_, g1⟩
      simp only [Ev.v] at bx ⊢
      simp [f40, bx, addL, c0, nm, c1, c2, evCode, z0, z1, z2]
    by_cases z3 : day ≤ e.o
    · refine ⟨w1, f40.run rfl ?_, g1⟩
      simp only [Ev.v] at bx ⊢
      simp [f40, bx, addL, c0, nm, c1, c2, evCode, z0, z1, z2, z3]
    obtain ⟨w2, h2, g2⟩ := fades_ok (c := c) (e := e) (hr.grown g1) hg.1 ⟨by omega, by omega, by omega⟩ hg.2
    have G2 := grown_trans g1 g2 (by simp)
    have hz : ¬ (e.i < 0 ∨ e.o ≤ e.i ∨ day ≤ e.o) := by omega
    have b2 : Blk w2 w.heap.size 51 e.cs := Blk.grown b g2 (by simp)
    have c4 := b2.cell_eq 4 rfl
    have hl : ∀ ty, prun Tryz.prog (Builtin.len_ #[9] ty #[st e.n]) = some (.int .i64 e.n.length) := fun ty => str_len Tryz.underlying9 ty e.n
    cases z4 : fadeMay ahead e with
    | false =>
      rw [z4] at h2
      refine ⟨w2, f40.run rfl ?_, G2⟩
      simp only [Ev.v] at bx lb h2 ⊢
      simp [f40, bx, addL, c0, nm, c1, c2, lb, h2, evCode, z0, z1, z2, z3, z4]
    | true =>
      rw [z4] at h2
      by_cases z5 : 100 < e.n.length
      · refine ⟨w2, f40.run rfl ?_, G2⟩
        have z5' : (100 : Int) < e.n.length := by omega
        simp only [Ev.v] at bx lb h2 ⊢
        simp [f40, bx, addL, c0, nm, c1, c2, lb, h2, c4, hl, evCode, z0, z1, z2, z3, z4, z5, z5']
      · obtain ⟨w3, h3, g3⟩ := valid_ok (T.grown G2) e.n (by omega)
        have z5' : ¬ (100 : Int) < e.n.length := by omega
        refine ⟨w3, f40.run rfl ?_, grown_trans G2 g3 (by simp)⟩
        cases z6 : valid e.n <;> rw [z6] at h3 <;> simp only [Ev.v] at bx lb h2 ⊢ <;> simp [f40, bx, addL, c0, nm, c1, c2, lb, h2, c4, hl, h3, evCode, z0, z1, z2, z3, z4, z5, z5', z6]
end Go.Sh.YtkghbcadnbojgaaGreatDoor
