/- ArenaPlays: the law's function answers true. Conditions: its arguments are an int and a list of steps. -/
import Derived.Test.YtocijepcfannnaaAP7
namespace Go.Sh.Ytocijepcfannnaa
open Go Go.Proofs Go.RowKit
set_option linter.unusedVariables false
set_option linter.unusedSimpArgs false
set_option maxRecDepth 100000
theorem ends_ok {W w : World} {Wb L : Nat} {N : Int} (h : AlE W w Wb L N) (hL : L * 24 ≤ 140737488355328) :
    ∃ w', C 21 #[.pointer (some ⟨Wb, 0, none⟩)] w = some (.bool true, w') ∧ W.grownBy w' none := by
  obtain ⟨VA, VR, VM, VB, VS, ar, mk, bs, ss, n, h, G, hne, la, lb, ls, lm, n0, nN⟩ := h
  have E : En w W.heap.size Wb VA VR VM VB VS (ar.map An.pa) (ar.map An.pr) (mk.map (·.1)) bs ss n := ⟨h.hd, h.rb, h.rs⟩
  have cb : Caps bs := fun p hp => ⟨(h.bz p hp).2.1, (h.bz p hp).2.2⟩
  have cs : Caps ss := fun p hp => ⟨(h.sz p hp).2.1, (h.sz p hp).2.2⟩
  have a0 := ends_l0 E (fun p hp => (h.bz p hp).1) cb (by omega)
  have a1 := ends_l1 E (fun p hp => (h.sz p hp).1) cs (by omega)
  obtain ⟨w1, q, a3, E1, hq, cq, aq, G1⟩ := ends_l3 E cb (by omega)
  have G1' := grown_ge G G1
  obtain ⟨w2, q2, a5, E2, hq2, cq2, aq2, G2⟩ := ends_l5 E1 cs (by omega)
  have G2' := grown_ge G1' G2
  obtain ⟨w3, VMo, mq, a7, om, rm, hmq, amq, lmq, g3⟩ := ends_l7 E2 G2'.size cq aq (by omega)
  have G3 := grown_trans G2' g3 (by simp)
  have E3 := E2.new g3
  obtain ⟨w4, VMs, ms, a9, om4, rm4, hms, ams, lms, g4⟩ := ends_l9 E3 G3.size cq2 aq2 (by omega) VMo
  have G4 := grown_trans G3 g4 (by simp)
  have E4 := E3.new g4
  have a10 := ends_l10 E4 cq aq (by omega) VMs (own_new om g4) (rm.new g4) hmq amq lmq
  have a11 := ends_l11 E4 cq2 aq2 (by omega) om4 rm4 hms ams lms
  refine ⟨w4, f21.run rfl ?_, G4⟩
  simp [f21, a0, a1, a3, a5, a7, a9, a10, a11]
/-- steps, as cells -/
def oc (q : List (Int × Int × Int)) : List Value := q.flatMap fun x => [.int .i64 x.1, .int .i64 x.2.1, .int .i64 x.2.2]
theorem oc_get {q : List (Int × Int × Int)} {i : Nat} (h : i < q.length) : (oc q)[i * 3]? = some (.int .i64 (q[i]).1) ∧ (oc q)[i * 3 + 1]? = some (.int .i64 (q[i]).2.1) ∧ (oc q)[i * 3 + 2]? = some (.int .i64 (q[i]).2.2) := by
  induction q generalizing i with
  | nil => simp at h
  | cons p r ih =>
    cases i with
    | zero => exact ⟨rfl, rfl, rfl⟩
    | succ i =>
      have e : (i + 1) * 3 = i * 3 + 1 + 1 + 1 := by omega
      rw [e]
      exact ih (i := i) (by simpa using h)
theorem build54 : prun Try.prog (Instr.build 54 #[]) = some (.agg #[.slice none 0 0, .slice none 0 0, .slice none 0 0, .slice none 0 0, .slice none 0 0, .int .i64 0]) := id (by kernel_rfl)
theorem build57 (a : Int) : prun Try.prog (Instr.build 57 #[(0, .int .i64 1), (2, .int .i64 a)]) = some (.agg #[.int .i64 1, .int .i64 0, .int .i64 a]) := id (by kernel_rfl)
theorem plays_l0 {W : World} {Wb : Nat} {A : Option Addr} {c : Nat} {q : List (Int × Int × Int)} (hr : Rd W A (oc q)) (hq : q.length * 24 ≤ 140737488351232)
    (hw : ∀ x ∈ q, (Lit.int .i64 x.1).wf = true ∧ (Lit.int .i64 x.2.1).wf = true ∧ (Lit.int .i64 x.2.2).wf = true) :
    ∀ (d : Nat) (st : List Value) (w : World), (∃ (i : Nat), st = [.slice A q.length c, .pointer (some ⟨Wb, 0, none⟩), .int .i64 i] ∧ i + d = q.length ∧ AlE W w Wb (i + 1) 4294967295) →
    ∃ r, iter (f6.l0 C) st w = some r ∧ ∃ w', r = .exit 0 [.pointer (some ⟨Wb, 0, none⟩)] w' ∧ AlE W w' Wb (q.length + 1) 4294967295 := by
  refine iter_down _ _ ?_
  rintro d st w ⟨i, rfl, hi, hal⟩
  obtain ⟨VA, VR, VM, VB, VS, ar, mk, bs, ss, n, h, G, hne, la, lb, ls, lm, n0, nN⟩ := id hal
  have cn := h.hd.blk.cell_eq (v := .int .i64 n) 5 rfl
  by_cases hcont : i < q.length ∧ n ≤ 2147483647
  · obtain ⟨hlt, hn⟩ := hcont
    cases d with
    | zero => omega
    | succ d =>
      obtain ⟨c1, c2, c3⟩ := oc_get hlt
      obtain ⟨⟨x, y, z⟩, hx⟩ : ∃ p, p = q[i] := ⟨_, rfl⟩
      obtain ⟨u1, u2, u3⟩ := hw _ (List.getElem_mem hlt)
      rw [← hx] at c1 c2 c3 u1 u2 u3
      simp only at c1 c2 c3 u1 u2 u3
      obtain ⟨y0, y1⟩ := wf_i64 u2
      obtain ⟨z0, z1⟩ := wf_i64 u3
      have e1 : IntKind.i64.wrap ((i : Int) + 1) = ((i + 1 : Nat) : Int) := (wrap_i64 (by omega) (by omega)).trans (by omega)
      cases A with
      | none => have h0 : oc q = [] := hr; rw [h0] at c1; simp at c1
      | some a =>
        have r2 := hr.grown G
        have i1 := ix46 a q.length c .i64 i (by omega) (by omega)
        simp only [Int.toNat_natCast] at i1
        have l1 := ld57 (w := w) (a := a.add (i * 3)) (by rw [Addr.add_add, Nat.add_zero]; exact r2 _ _ c1) (by rw [Addr.add_add]; exact r2 _ _ c2) (by rw [Addr.add_add]; exact r2 _ _ c3)
        obtain ⟨w1, s1, al1⟩ := step_ok (⟨VA, VR, VM, VB, VS, ar, mk, bs, ss, n, h, G, hne, la, lb, ls, lm, n0, hn⟩ : AlE W w Wb (i + 1) 2147483647) (by omega) x y z y0 y1 z0 z1
        obtain ⟨w2, s2, al2⟩ := same_ok al1 (by omega)
        refine .inl ⟨d, _, w2, by omega, ?_, ⟨i + 1, rfl, by omega, al2⟩⟩
        simp (disch := omega) [f6.l0, lt_t, addL, cn, le_t, i1, l1, s1, s2, bool_not, e1]
  · refine .inr ⟨_, ?_, ⟨w, rfl, hal.more (by omega) (by omega)⟩, by simp⟩
    by_cases hlt : i < q.length
    · have hn : 2147483647 < n := by omega
      simp (disch := omega) [f6.l0, lt_t, addL, cn, le_f]
    · simp (disch := omega) [f6.l0, lt_f]
theorem plays_ok {W : World} (o : Int) (o0 : -9223372036854775808 ≤ o) (o1 : o ≤ 9223372036854775807) {A : Option Addr} {c : Nat} {q : List (Int × Int × Int)} (hr : Rd W A (oc q)) (hq : q.length * 24 ≤ 140737488351232)
    (hw : ∀ x ∈ q, (Lit.int .i64 x.1).wf = true ∧ (Lit.int .i64 x.2.1).wf = true ∧ (Lit.int .i64 x.2.2).wf = true) :
    ∃ w', C 6 #[.int .i64 o, .slice A q.length c] W = some (.bool true, w') ∧ W.grownBy w' none := by
  obtain ⟨w1, h1, g1⟩ := awake_ok W
  obtain ⟨W2, hW2⟩ : ∃ W2, W2 = w1.alloc (.cells #[.slice none 0 0, .slice none 0 0, .slice none 0 0, .slice none 0 0, .slice none 0 0, .int .i64 0] 54) := ⟨_, rfl⟩
  have g2 : w1.grownBy W2 none := hW2 ▸ World.grownBy_alloc w1 _ none
  have b2 : Blk W2 w1.heap.size 54 [.slice none 0 0, .slice none 0 0, .slice none 0 0, .slice none 0 0, .slice none 0 0, .int .i64 0] := hW2 ▸ Blk.new w1 54 [.slice none 0 0, .slice none 0 0, .slice none 0 0, .slice none 0 0, .slice none 0 0, .int .i64 0]
  have G2 : W.grownBy W2 none := grown_trans g1 g2 (by simp)
  obtain ⟨r, h3, r0, r1⟩ := pick_ok o 1048576 (by omega) (by omega) o0 o1 W2
  have al : Al W2 W.heap.size w1.heap.size (.slice none 0 0) (.slice none 0 0) (.slice none 0 0) (.slice none 0 0) (.slice none 0 0) [] [] [] [] 0 :=
    ⟨⟨b2, g1.size, World.ownsRow_nil _ _ _ _, World.ownsRow_nil _ _ _ _, World.ownsRow_nil _ _ _ _, World.ownsRow_nil _ _ _ _, World.ownsRow_nil _ _ _ _⟩, ⟨by simp, by simp⟩, Rows.nil, Rows.nil, Rows.nil, rfl, by simp, by simp, by simp⟩
  obtain ⟨VA, VR, VM, ar, mk, w4, h4, al4, G4, hc⟩ := step_new al G2.size 0 r (by simp)
  rcases hc with ⟨_, _, hlen, hmk⟩ | ⟨hno, _⟩
  · have al5 : AlE W w4 w1.heap.size (0 + 1) 4294967295 := ⟨VA, VR, VM, _, _, ar, mk, [], [], 0, al4, grown_ge G2 G4, (fun e => by subst e; simp at hlen), by simp at hlen; omega, by simp, by simp, (fun p hp => by
      rcases hmk p hp with hp | hp
      · simp at hp
      · omega), by omega, by omega⟩
    obtain ⟨rr, h6, w6, rfl, al6⟩ := plays_l0 (c := c) hr hq hw q.length _ w4 ⟨0, rfl, by omega, al5⟩
    obtain ⟨w7, h7, G7⟩ := ends_ok al6 (by omega)
    refine ⟨w7, f6.run rfl ?_, G7⟩
    simp at h6
    simp [f6, h1, build54, box_any, Value.cells, ← hW2, h3, build57, h4, bool_not, h6, h7]
  · omega
theorem plays_walk (W : World) (o : Int) (ho : (Lit.int .i64 o).wf = true) {H : Type} {enc : TypeId × Value → H} (a1 : Option Addr) (len1 cap1 : Nat) (z1 : Dat enc Try.prog W 46 [.slice a1 len1 cap1]) (y1 : len1 * 24 ≤ 140737488351232) :
    Calls Try.prog 6 #[.int .i64 o, .slice a1 len1 cap1] W fun e w' => e = .returned (.bool true) ∧ Below W.heap.size W w' := by
  obtain ⟨x0, x1⟩ := wf_i64 ho
  obtain ⟨A, len, cap, he, _, _, _, rows, h1, h2, h3⟩ := dat_slice Try.underlying46 z1
  simp only [List.cons.injEq, Value.slice.injEq, and_true] at he
  obtain ⟨rfl, rfl, rfl⟩ := he
  obtain ⟨q, rfl, hq, hw⟩ := choose_rows (fun x : Int × Int × Int => [Value.int .i64 x.1, .int .i64 x.2.1, .int .i64 x.2.2]) (fun x => (Lit.int .i64 x.1).wf = true ∧ (Lit.int .i64 x.2.1).wf = true ∧ (Lit.int .i64 x.2.2).wf = true) (rows := rows) (by
    intro r hr
    obtain ⟨hl, hd⟩ := h2 r hr
    obtain ⟨_, hs⟩ := dat_struct Try.underlying57 hd
    have hl3 : r.length = 3 := hl.trans (by kernel_rfl)
    match r, hl3 with
    | [r0, r1, r2], _ =>
      obtain ⟨x, e0, w0⟩ := dat_int Try.underlying3 (hs 0 _ rfl)
      obtain ⟨y, e1, w1⟩ := dat_int Try.underlying3 (hs 1 _ rfl)
      obtain ⟨z, e2, w2⟩ := dat_int Try.underlying3 (hs 2 _ rfl)
      have c1 : Try.prog.cellsOf 3 = 1 := by kernel_rfl
      simp [c1] at e0 e1 e2
      subst e0; subst e1; subst e2
      exact ⟨(x, y, z), rfl, w0, w1, w2⟩)
  rw [← List.flatMap_def] at h3
  have hlen : q.length = len1 := hq.trans h1
  subst hlen
  obtain ⟨w', h, g⟩ := plays_ok (c := cap1) o x0 x1 h3 y1 hw
  exact (calls_of_run (by kernel_rfl) noPrim_ok h).mono fun e v ⟨h1, h2⟩ => ⟨h1, h2 ▸ below_of_grown g⟩
end Go.Sh.Ytocijepcfannnaa
