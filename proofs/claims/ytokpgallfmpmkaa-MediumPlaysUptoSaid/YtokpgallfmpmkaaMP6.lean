/- medium: the document's medium: its calls, whatever lies beside it. Conditions: those of each statement. -/
import Derived.Test.YtokpgallfmpmkaaMP5
namespace Go.Sh.Ytokpgallfmpmkaa
open Go Go.Proofs Go.RowKit
set_option linter.unusedVariables false
set_option linter.unusedSimpArgs false
set_option maxRecDepth 100000
def rmedB {base : Nat} (R : Nat) (s : Pm) (q : Value × Value) : Asn base := blkA R 87 [q.1, .bool s.dead, .int .i64 s.armed, .int .i64 s.keep, q.2] * (rowA 5 1 q.1 s.l.length (bv s.l) * rowA 40 2 q.2 s.g.length (sc s.g))
/-- the document's medium -/
def rmedA {base : Nat} (R : Nat) (s : Pm) : Asn base := some_ (rmedB R s)
/-- its piece -/
def rpcA {base : Nat} (P M a n : Nat) : Asn base := blkA P 104 [.pointer (some ⟨M, 0, none⟩), .int .i64 a, .int .i64 n]
theorem build87 : prun Try.prog (Instr.build 87 #[]) = some (.agg #[.slice none 0 0, .bool false, .int .i64 0, .int .i64 0, .slice none 0 0]) := id (by kernel_rfl)
theorem build87b (A : Option Addr) (n c : Nat) : prun Try.prog (Instr.build 87 #[(0, .slice A n c)]) = some (.agg #[.slice A n c, .bool false, .int .i64 0, .int .i64 0, .slice none 0 0]) := id (by kernel_rfl)
theorem build104 (a : Option Addr) (x y : Int) : prun Try.prog (Instr.build 104 #[(0, .pointer a), (1, .agg #[.int .i64 x, .int .i64 y])]) = some (.agg #[.pointer a, .int .i64 x, .int .i64 y]) := id (by kernel_rfl)
theorem rlies_ok (a n size : Int) (h0 : 0 ≤ size) (h1 : size ≤ 9223372036854775807) (w : World) : C 60 #[.int .i64 a, .int .i64 n, .int .i64 size] w = some (.bool (decide (0 ≤ a ∧ 0 ≤ n ∧ a ≤ size ∧ n ≤ size - a)), w) := by
  refine f60.run rfl ?_
  by_cases c1 : 0 ≤ a
  · by_cases c2 : 0 ≤ n
    · by_cases c3 : a ≤ size
      · have e : IntKind.i64.wrap (size - a) = size - a := wrap_i64 (by omega) (by omega)
        by_cases c4 : n ≤ size - a
        · simp [f60, c1, c2, c3, c4, e]
        · simp [f60, c1, c2, c3, c4, e]
      · simp [f60, c1, c2, c3]
    · simp [f60, c1, c2]
  · simp [f60, c1]
section
variable {W w : World} {X : Asn W.heap.size} {R P : Nat} {s : Pm}
theorem _root_.Go.Sh.Sat.rmed (x : Sat W (rmedA R s * X) w) : ∃ B L, Sat W (blkA R 87 [B, .bool s.dead, .int .i64 s.armed, .int .i64 s.keep, L] * (rowA 5 1 B s.l.length (bv s.l) * (rowA 40 2 L s.g.length (sc s.g) * X))) w := by
  obtain ⟨q, h⟩ := x.forSome
  exact ⟨q.1, q.2, h.eq (by unfold rmedB; ac_rfl)⟩
theorem _root_.Go.Sh.Sat.toRmed {B L : Value} (x : Sat W (blkA R 87 [B, .bool s.dead, .int .i64 s.armed, .int .i64 s.keep, L] * (rowA 5 1 B s.l.length (bv s.l) * (rowA 40 2 L s.g.length (sc s.g) * X))) w) : Sat W (rmedA R s * X) w :=
  Sat.fold (P := rmedB R s) (b := (B, L)) (x.eq (by unfold rmedB; ac_rfl))
/-- bytes behind a row -/
theorem _root_.Go.Sh.Sat.app22 {v : Value} {n : Nat} {l : List UInt8} (x : Sat W (rowA 5 1 v n (bv l) * X) w) {A : Option Addr} {m c : Nat} {y : List UInt8} (hy : y.length = m) (hr : Rd w A (bv y)) (hnil : A = none → c = 0) (hn : n + m ≤ 140737488355328) :
    ∃ v' w', erun Try.prog (Builtin.append_ #[22, 22] 22 #[v, .slice A m c]) w = some (v', w') ∧ Sat W (rowA 5 1 v' (n + m) (bv (l ++ y)) * X) w' ∧ w.heap.size ≤ w'.heap.size := by
  obtain ⟨v', w', h1, h2, h3, h4⟩ := e_append2 (P := Try.prog) (ty := 22) Try.underlying22 inf5 zero5 size5 bytes5 rfl (by decide) x.row (A := A) (m := m) (c := c) (news := bv y) (by simp [hy]) hr hnil (bv_one y) (by simp [maxLen]; omega) (by omega) x.size
  rw [← bv_append] at h2
  exact ⟨v', w', h1, x.rowStep h3 h2 h4, h3.size⟩
/-- bytes, again, in new memory -/
theorem _root_.Go.Sh.Sat.again22 (x : Sat W X w) {A : Option Addr} {m c : Nat} {y : List UInt8} (hy : y.length = m) (hr : Rd w A (bv y)) (hnil : A = none → c = 0) (hn : m ≤ 140737488355328) :
    ∃ v' w', erun Try.prog (Builtin.append_ #[22, 22] 22 #[.slice (some ⟨w.heap.size, 0, none⟩) 0 0, .slice A m c]) (w.alloc (.cells #[] 5)) = some (v', w') ∧ Sat W (rowA 5 1 v' m (bv y) * X) w' := by
  have hg := World.grownBy_alloc w (.cells #[] 5) none
  have x1 : Sat W (rowA 5 1 (.slice (some ⟨w.heap.size, 0, none⟩) 0 0) 0 (bv []) * X) (w.alloc (.cells #[] 5)) := x.newRow hg (World.ownsRow_made w #[] 0 (Nat.le_refl _) (by simp [maxLen]) (by simp))
  obtain ⟨v', w', h1, h2, _⟩ := x1.app22 hy (hr.grown hg) hnil (by omega)
  exact ⟨v', w', h1, by simpa using h2⟩
theorem _root_.Go.Sh.Sat.app41 {v : Value} {n : Nat} {g : List (Int × Int)} (x : Sat W (rowA 40 2 v n (sc g) * X) w) {A : Option Addr} {m c : Nat} {y : List (Int × Int)} (hy : y.length = m) (hr : Rd w A (sc y)) (hnil : A = none → c = 0) (hn : n + m ≤ 8000000000000) :
    ∃ v' w', erun Try.prog (Builtin.append_ #[41, 41] 41 #[v, .slice A m c]) w = some (v', w') ∧ Sat W (rowA 40 2 v' (n + m) (sc (g ++ y)) * X) w' ∧ w.heap.size ≤ w'.heap.size := by
  obtain ⟨v', w', h1, h2, h3, h4⟩ := e_append2 (P := Try.prog) (ty := 41) Try.underlying41 inf40 zero40 size40 bytes40 rfl (by decide) x.row (A := A) (m := m) (c := c) (news := sc y) (by simp [sc_length, hy]) hr hnil (sc_one y) (by simp [maxLen]; omega) (by omega) x.size
  rw [← sc_append] at h2
  exact ⟨v', w', h1, x.rowStep h3 h2 h4, h3.size⟩
theorem _root_.Go.Sh.Sat.again41 (x : Sat W X w) {A : Option Addr} {m c : Nat} {y : List (Int × Int)} (hy : y.length = m) (hr : Rd w A (sc y)) (hnil : A = none → c = 0) (hn : m ≤ 8000000000000) :
    ∃ v' w', erun Try.prog (Builtin.append_ #[41, 41] 41 #[.slice (some ⟨w.heap.size, 0, none⟩) 0 0, .slice A m c]) (w.alloc (.cells #[] 40)) = some (v', w') ∧ Sat W (rowA 40 2 v' m (sc y) * X) w' := by
  have hg := World.grownBy_alloc w (.cells #[] 40) none
  have x1 : Sat W (rowA 40 2 (.slice (some ⟨w.heap.size, 0, none⟩) 0 0) 0 (sc []) * X) (w.alloc (.cells #[] 40)) := x.newRow hg (World.ownsRow_made w #[] 0 (Nat.le_refl _) (by simp [maxLen]) (by simp))
  obtain ⟨v', w', h1, h2, _⟩ := x1.app41 hy (hr.grown hg) hnil (by omega)
  exact ⟨v', w', h1, by simpa using h2⟩

theorem r_new (x : Sat W X w) : ∃ R w', C 22 #[] w = some (.pointer (some ⟨R, 0, none⟩), w') ∧ Sat W (rmedA R ⟨[], false, 0, 0, []⟩ * X) w' := by
  have x1 := ((x.nilRow 40 2).nilRow 5 1).newBlk 87 [.slice none 0 0, .bool false, .int .i64 0, .int .i64 0, .slice none 0 0]
  refine ⟨w.heap.size, _, f22.run rfl ?_, Sat.toRmed (s := ⟨[], false, 0, 0, []⟩) x1⟩
  simp [f22, build87, box_any, Value.cells]
theorem r_size (x : Sat W (rmedA R s * X) w) : C 46 #[.pointer (some ⟨R, 0, none⟩)] w = some (.int .i64 s.l.length, w) := by
  obtain ⟨B, L, y⟩ := x.rmed
  obtain ⟨A, c, rfl, _⟩ := own_form y.swap.row
  refine f46.run rfl ?_
  simp [f46, addL, y.cell 0 rfl]
theorem r_dead (x : Sat W (rmedA R s * X) w) : C 47 #[.pointer (some ⟨R, 0, none⟩)] w = some (.bool s.dead, w) := by
  obtain ⟨B, L, y⟩ := x.rmed
  refine f47.run rfl ?_
  simp [f47, addL, y.cell 1 rfl]
theorem r_revive (x : Sat W (rmedA R s * X) w) : ∃ w', C 37 #[.pointer (some ⟨R, 0, none⟩)] w = some (.tuple #[], w') ∧ Sat W (rmedA R s.revive * X) w' := by
  obtain ⟨B, L, y⟩ := x.rmed
  have y1 := y.store 1 (.bool false) rfl
  have s1 := st4 (v := .bool false) rfl rfl (y.cell 1 rfl) (y.frozen 1)
  have y2 := y1.store 2 (.int .i64 0) rfl
  have s2 := st3 (v := .int .i64 0) rfl rfl (y1.cell 2 rfl) (y1.frozen 2)
  refine ⟨_, f37.run rfl ?_, Sat.toRmed (s := s.revive) y2⟩
  simp [f37, addL, s1, s2, Res.done, outcome]
theorem r_forget (x : Sat W (rmedA R s * X) w) : ∃ w', C 42 #[.pointer (some ⟨R, 0, none⟩)] w = some (.tuple #[], w') ∧ Sat W (rmedA R s.forget * X) w' := by
  obtain ⟨B, L, y⟩ := x.rmed
  have y1 := y.store 4 (.slice none 0 0) rfl
  have s1 := st41 (v := .slice none 0 0) rfl rfl (y.cell 4 rfl) (y.frozen 4)
  have y2 := (y1.eq (by ac_rfl : _ = rowA 40 2 L s.g.length (sc s.g) * (blkA R 87 [B, .bool s.dead, .int .i64 s.armed, .int .i64 s.keep, .slice none 0 0] * (rowA 5 1 B s.l.length (bv s.l) * X)))).right.nilRow 40 2
  refine ⟨_, f42.run rfl ?_, Sat.toRmed (s := s.forget) (y2.eq (by unfold Pm.forget; simp only [List.length_nil, show sc [] = [] from rfl]; ac_rfl))⟩
  simp [f42, addL, s1, Res.done, outcome]
theorem r_arm (x : Sat W (rmedA R s * X) w) (n k : Int) : ∃ w', C 36 #[.pointer (some ⟨R, 0, none⟩), .int .i64 n, .int .i64 k] w = some (.int .i64 (s.arm n k).1, w') ∧ Sat W (rmedA R (s.arm n k).2 * X) w' := by
  obtain ⟨B, L, y⟩ := x.rmed
  cases hd : s.dead with
  | true =>
    refine ⟨w, f36.run rfl ?_, by simpa [Pm.arm, hd] using x⟩
    have := y.cell 1 rfl
    rw [hd] at this
    simp [f36, addL, this, Pm.arm, hd]
  | false =>
    have c1 := y.cell 1 rfl
    rw [hd] at c1
    by_cases hn : n < 0 ∨ k < 0
    · refine ⟨w, f36.run rfl ?_, by simpa [Pm.arm, hd, hn] using x⟩
      by_cases h0 : n < 0
      · simp [f36, addL, c1, h0, Pm.arm, hd]
      · have hk : k < 0 := by omega
        simp [f36, addL, c1, h0, hk, Pm.arm, hd]
    · have y1 := y.store 2 (.int .i64 n) rfl
      have s1 := st3 (v := .int .i64 n) rfl rfl (y.cell 2 rfl) (y.frozen 2)
      have y2 := y1.store 3 (.int .i64 k) rfl
      have s2 := st3 (v := .int .i64 k) rfl rfl (y1.cell 3 rfl) (y1.frozen 3)
      have hn0 : ¬ n < 0 := by omega
      have hk0 : ¬ k < 0 := by omega
      refine ⟨_, f36.run rfl ?_, Sat.toRmed (s := (s.arm n k).2) (by simpa [Pm.arm, hd, hn] using y2)⟩
      simp [f36, addL, c1, hn0, hk0, s1, s2, Pm.arm, hd]
theorem r_bytes (x : Sat W (rmedA R s * X) w) (hf : s.fit) : ∃ v w', C 50 #[.pointer (some ⟨R, 0, none⟩)] w = some (v, w') ∧ Sat W (rowA 5 1 v s.l.length (bv s.l) * (rmedA R s * X)) w' := by
  obtain ⟨B, L, y⟩ := x.rmed
  obtain ⟨A, c, rfl, _⟩ := own_form y.swap.row
  obtain ⟨v, w', h1, h2⟩ := x.again22 (c := c) rfl (Rd.owned y.swap.row) (own_nil y.swap.row) (by have := hf.l; omega)
  have cB := (y.alloc_ge (.cells #[] 5)).cell 0 rfl
  refine ⟨v, w', f50.run rfl ?_, h2⟩
  simp [f50, addL, cB, h1]
theorem r_log (x : Sat W (rmedA R s * X) w) (hf : s.fit) : ∃ v w', C 52 #[.pointer (some ⟨R, 0, none⟩)] w = some (v, w') ∧ Sat W (rowA 40 2 v s.g.length (sc s.g) * (rmedA R s * X)) w' := by
  obtain ⟨B, L, y⟩ := x.rmed
  obtain ⟨A, c, rfl, _⟩ := own_form y.swap3.row
  obtain ⟨v, w', h1, h2⟩ := x.again41 (c := c) rfl (Rd.owned y.swap3.row) (own_nil y.swap3.row) (by have := hf.g; omega)
  have cL := (y.alloc_ge (.cells #[] 40)).cell 4 rfl
  refine ⟨v, w', f52.run rfl ?_, h2⟩
  simp [f52, addL, cL, h1]
end
end Go.Sh.Ytokpgallfmpmkaa
