/- CutsLengths whole. Conditions: those of each statement. -/
import Derived.Test.YtkghbcadnbojgaaGreatDoorUCF
namespace Go.Sh.YtkghbcadnbojgaaGreatDoor
open Go Go.Proofs Go.RowKit Go.Sh.Ev
set_option linter.unusedVariables false
set_option linter.unusedSimpArgs false
set_option maxRecDepth 100000
/-- what the runs read beside their arguments -/
structure Lay (w : World) : Prop where
  u : Ut w
  t : Tb w
  g : GlobOk gl2 w
  h : w.cell? ⟨0, 0, none⟩ = some hnd
theorem Lay.grown {w w' : World} (h : Lay w) (g : w.grownBy w' none) : Lay w' := ⟨h.u.grown g, h.t.grown g, globOk_grown h.g g, by
  have h1 : Rd w (some ⟨0, 0, none⟩) [hnd] := fun j v hj => by
    cases j with
    | zero => simp at hj; subst hj; exact h.h
    | succ j => simp at hj
  exact h1.grown g 0 hnd rfl⟩
theorem one_cs (q : List Ev) : ∀ u ∈ q.flatMap Ev.cs, u.oneCell' = true := by
  intro u hu
  obtain ⟨e, _, h⟩ := List.mem_flatMap.mp hu
  simp only [Ev.cs, List.mem_cons, List.not_mem_nil, or_false] at h
  rcases h with rfl | rfl | rfl | rfl | rfl <;> rfl
theorem lengths_ok {w : World} (L : Lay w) (t : List UInt8) (r : Int) {A : Option Addr} {c : Nat} {q : List Ev} (hr : Rd w A (q.flatMap Ev.cs)) (hc : q.length ≤ c) (hnil : A = none → c = 0) (hs : Short q) (x : Int) (hx : -9223372036854775808 ≤ x) (hx' : x ≤ 9223372036854775807) :
    ∃ w', C 6 #[cutV t r A q.length c, .int .i64 x] w = some (.bool true, w') ∧ w.grownBy w' none := by
  obtain ⟨w1, hw1⟩ : ∃ w1, w1 = w.alloc (.cells #[st t, .int .i64 r, .slice A q.length c] 30) := ⟨_, rfl⟩
  have b : Blk w1 w.heap.size 30 [st t, .int .i64 r, .slice A q.length c] := hw1 ▸ Blk.new w 30 [st t, .int .i64 r, .slice A q.length c]
  have g1 : w.grownBy w1 none := hw1 ▸ World.grownBy_alloc w _ none
  have bx : erun Tryz.prog (Instr.box 30 (.agg #[st t, .int .i64 r, .slice A q.length c])) w = some (.pointer (some ⟨w.heap.size, 0, none⟩), w1) := by rw [hw1]; rfl
  have lb : ∀ w', w1.grownBy w' none → rrun Tryz.prog (Instr.loadAt 30 (.pointer (some ⟨w.heap.size, 0, none⟩))) w' = some (.agg #[st t, .int .i64 r, .slice A q.length c]) := fun w' g => by
    have b' : Blk w' w.heap.size 30 [st t, .int .i64 r, .slice A q.length c] := b.grown g (by simp)
    exact ld30 (a := ⟨w.heap.size, 0, none⟩) (by rw [addL]; exact b'.cell_eq 0 rfl) (by rw [addL]; exact b'.cell_eq 1 rfl) (by rw [addL]; exact b'.cell_eq 2 rfl)
  obtain ⟨w2, h2, g2⟩ := alive_ok (L.grown g1).g
  have G2 := grown_step g1 g2
  obtain ⟨v, w3, h3, g3, e3⟩ := Check_ok (L.grown G2).u (L.grown G2).t t r (hr.grown G2) hc hs
  have G3 := grown_step G2 g3
  obtain ⟨n, v', w4, h4, g4, e4, n1, n2⟩ := Length_ok (L.grown G3).u (L.grown G3).t t r (hr.grown G3) hc hs
  have G4 := grown_step G3 g4
  have l2 := lb w2 g2
  have l3 := lb w3 (grown_step g2 g3)
  simp only [cutV] at h3 h4 ⊢
  cases hk : ckCode t r q with
  | some y =>
    obtain ⟨k, z⟩ := y
    rw [hk] at e3 e4
    obtain ⟨b1, rfl, _⟩ := e3
    obtain ⟨b2, rfl, _⟩ := e4
    have hn := n2 (by rw [hk]; simp)
    subst hn
    refine ⟨w4.drew, f6.run rfl ?_, grown_step G4 (drew_grown _)⟩
    simp [f6, bx, h2, l2, h3, l3, h4]
  | none =>
    rw [hk] at e3 e4
    have hv : v = .nilIface := e3
    have hv' : v' = .nilIface := e4
    subst hv; subst hv'
    have hn := n1 hk
    subst hn
    have F := ck_none hk
    have G4d := grown_step G4 (drew_grown w4)
    have b4 : Blk w4.drew w.heap.size 30 [st t, .int .i64 r, .slice A q.length c] := b.grown (grown_step (grown_step (grown_step g2 g3) g4) (drew_grown w4)) (by simp)
    obtain ⟨w5, h5, g5⟩ := loop_ok F b4 (hr.grown G4d) (.int .i64 x) (.int .i64 (lens q))
    have G5 := grown_step G4d g5
    have b5 : Blk w5 w.heap.size 30 [st t, .int .i64 r, .slice A q.length c] := b4.grown g5 (by simp)
    have c0 := b5.cell_eq 0 rfl
    have c1 := b5.cell_eq 1 rfl
    have c2 := b5.cell_eq 2 rfl
    have hz : decide (lens q = 0) = decide (q.length = 0) := by
      have := F.pos
      by_cases h : q.length = 0
      · simp [h, this.mpr h]
      · simp [h, mt this.mp h]
    have hz1 : (lens q == 0) = ((q.length : Int) == 0) := by
      have e1 : (lens q == 0) = decide (lens q = 0) := rfl
      have e2 : ((q.length : Int) == 0) = decide (q.length = 0) := by
        by_cases h : q.length = 0
        · simp [h]
        · simp [h]
      rw [e1, e2, hz]
    obtain ⟨Z, hZ⟩ : ∃ Z, Z = ((q.length : Int) == 0) := ⟨_, rfl⟩
    rw [← hZ] at hz1
    have q1 : bin .eql (.int .i64 (lens q)) (.int .i64 0) = some (.bool Z) := by rw [bin_eql, hz1]
    have q2 : bin .eql (.int .i64 q.length) (.int .i64 0) = some (.bool Z) := by rw [bin_eql, ← hZ]
    by_cases h2' : q.length < 2
    · have h2i : (q.length : Int) < 2 := by omega
      refine ⟨w5, f6.run rfl ?_, G5⟩
      simp [-bin_eql, f6, bx, h2, l2, h3, l3, h4, h5, addL, c2, q1, q2, h2i]
    · have h2i : ¬ (q.length : Int) < 2 := by omega
      have hql := F.ql
      obtain ⟨rr, h6, r0, r1⟩ := pick_ok x ((q.length : Int) - 1) (by omega) (by omega) hx hx' w5
      obtain ⟨k, hk'⟩ : ∃ k : Nat, rr = (k : Int) := ⟨rr.toNat, by omega⟩
      subst hk'
      have hk1 : k + 1 < q.length := by omega
      obtain ⟨l, hl⟩ : ∃ l, q[k]? = some l := ⟨q[k], List.getElem?_eq_getElem (by omega)⟩
      obtain ⟨e, he⟩ : ∃ e, q[k + 1]? = some e := ⟨q[k + 1], List.getElem?_eq_getElem (by omega)⟩
      obtain ⟨⟨l0, l1, l2'⟩, l3', l4⟩ := F.mid hl
      obtain ⟨⟨m0, m1, m2⟩, m3, m4⟩ := F.mid he
      obtain ⟨hw, hm0, hm1⟩ := worse F hl he
      have hlf := F.fade hl
      -- the new list
      have own0 := blk_own (base := w5.heap.size) (size := 5) (Blk.new w5 51 []) (n := 0) rfl (Nat.le_refl _) (by decide)
      have g6 : w5.grownBy (w5.alloc (.cells #[] 51)) none := World.grownBy_alloc _ _ none
      obtain ⟨v7, w7, h7, own7, g7⟩ := ap28 (ty := 28) own0 (A := A) (m := q.length) (c := c) (news := q.flatMap Ev.cs) (fm_len q) (hr.grown (grown_step G5 g6)) hnil (one_cs q) (by simp [maxLen]; omega) (by omega) g6.size
      rw [Nat.zero_add, List.nil_append] at own7
      have c2a := (b5.grown g6 (by simp)).cell_eq 2 rfl
      have h7' : erun Tryz.prog (Builtin.append_ #[28, 28] 28 #[.slice (some ⟨w5.heap.size, 0, none⟩) 0 0, .slice A q.length c]) (w5.alloc (.cells #[] 51)) = some (v7, w7) := h7
      obtain ⟨A7, c7, rfl, hc7, _⟩ := own_form own7
      have g57 : w5.grownBy w7 none := grown_trans g6 g7 (fun k hk => by simp [Value.ownBlock] at hk; omega)
      have own7d := own7
      have rd7 : Rd w7 A7 (q.flatMap Ev.cs) := Rd.own own7
      have own7' : w7.drew.ownsRow w5.heap.size 51 5 (.slice A7 q.length c7) q.length (q.flatMap Ev.cs) := own7.drew
      obtain ⟨a, w8, rfl, ha, h8, own8, g8⟩ := own_put (P := Tryz.prog) own7' (t := 3) (i := inf 3) inf3 size3 (j := (k + 1) * 5 + 3) (by omega) (v := .int .i64 (most l e + 1)) rfl rfl
      rw [fm_set q (k + 1) e _ he] at own8
      have G7 := grown_step G5 g57
      have g58 : w5.grownBy w8 none := grown_trans (grown_step g57 (drew_grown w7)) g8 (fun k hk => by cases hk; exact ha)
      have G8 := grown_step G5 g58
      have b8 : Blk w8 w.heap.size 30 [st t, .int .i64 r, .slice A q.length c] := b5.grown g58 (by simp)
      have d0 := b8.cell_eq 0 rfl
      have d1 := b8.cell_eq 1 rfl
      have hlen : (q.set (k + 1) { e with f := most l e + 1 }).length = q.length := by simp
      have hs' : Short (q.set (k + 1) { e with f := most l e + 1 }) := fun y hy => by
        rcases List.mem_or_eq_of_mem_set hy with h | h
        · exact hs y h
        · subst h; exact hs e (List.mem_of_getElem? he)
      obtain ⟨v9, w9, h9, g9, e9⟩ := Check_ok (L.grown G8).u (L.grown G8).t t r (A := some a) (c := c7) (q := q.set (k + 1) { e with f := most l e + 1 }) (Rd.own own8) (by rw [hlen]; exact hc7) hs'
      rw [hlen] at h9
      rw [hw] at e9
      obtain ⟨b9, rfl, bk9, _⟩ := e9
      have G9 := grown_step G8 g9
      obtain ⟨w10, h10, g10⟩ := evented_ok (L.grown G9).g (L.grown G9).h (k := k + 1) (z := 195) bk9 (by omega) (by omega) (by omega)
      simp only [cutV] at h9
      have hb30 := build30 ⟨t.toArray⟩ r (some a) q.length c7
      have ek : IntKind.i64.wrap (1 + (k : Int)) = ((k + 1 : Nat) : Int) := (wrap_i64 (by omega) (by omega)).trans (by omega)
      have en : IntKind.i64.wrap ((q.length : Int) - 1) = (q.length : Int) - 1 := wrap_i64 (by omega) (by omega)
      have ek1 : IntKind.i64.wrap (((k + 1 : Nat) : Int) - 1) = (k : Int) := (wrap_i64 (by omega) (by omega)).trans (by omega)
      have i1 := ix28 a q.length c7 .i64 ((k + 1 : Nat) : Int) (by omega) (by omega)
      simp only [Int.toNat_natCast] at i1
      have i0 := ix28 a q.length c7 .i64 (k : Int) (by omega) (by omega)
      simp only [Int.toNat_natCast] at i0
      have k2 : w7.cell? ((a.add ((k + 1) * 5)).add 2) = some (.int .i64 e.o) := by rw [Addr.add_add]; exact rd7 _ _ (ev_get he (by omega))
      have k1 : w7.cell? ((a.add ((k + 1) * 5)).add 1) = some (.int .i64 e.i) := by rw [Addr.add_add]; exact rd7 _ _ (ev_get he (by omega))
      have j2 : w7.cell? ((a.add (k * 5)).add 2) = some (.int .i64 l.o) := by rw [Addr.add_add]; exact rd7 _ _ (ev_get hl (by omega))
      have j1 : w7.cell? ((a.add (k * 5)).add 1) = some (.int .i64 l.i) := by rw [Addr.add_add]; exact rd7 _ _ (ev_get hl (by omega))
      have j3 : w7.cell? ((a.add (k * 5)).add 3) = some (.int .i64 l.f) := by rw [Addr.add_add]; exact rd7 _ _ (ev_get hl (by omega))
      have f1 : IntKind.i64.wrap (e.o - e.i) = e.o - e.i := wrap_i64 (by omega) (by omega)
      have f2 : IntKind.i64.wrap (l.o - l.i) = l.o - l.i := wrap_i64 (by omega) (by omega)
      have f3 : IntKind.i64.wrap (l.o - l.i - l.f) = l.o - l.i - l.f := wrap_i64 (by omega) (by omega)
      have f4 := min3 100 (e.o - e.i) (l.o - l.i - l.f)
      rw [show min (min 100 (e.o - e.i)) (l.o - l.i - l.f) = most l e from rfl] at f4
      have f5 : IntKind.i64.wrap (most l e + 1) = most l e + 1 := wrap_i64 (by omega) (by omega)
      rw [← Addr.add_add] at h8
      obtain ⟨I, hI⟩ : ∃ I : Int, I = ((k + 1 : Nat) : Int) := ⟨_, rfl⟩
      obtain ⟨J, hJ⟩ : ∃ J : Int, J = ((195 : Nat) : Int) := ⟨_, rfl⟩
      have hJ' : J = 195 := hJ
      rw [← hI] at ek ek1 i1 h10
      rw [← hJ, hJ'] at h10
      refine ⟨w10, f6.run rfl ?_, grown_step G9 g10⟩
      obtain ⟨M, hM⟩ : ∃ M, M = most l e := ⟨_, rfl⟩
      rw [← hM] at f4 f5 h8
      simp [-bin_eql, f6, bx, h2, l2, h3, l3, h4, h5, addL, c2, q1, q2, h2i, en, h6, ek, c2a, h7', i1, k1, k2, ek1, i0, j1, j2, j3, f1, f2, f3, f4, f5, h8, d0, d1, hb30, h9, h10]
end Go.Sh.YtkghbcadnbojgaaGreatDoor
