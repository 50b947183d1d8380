/- cuts: rates, names of reels, errors. Conditions: those of each statement. -/
import Derived.Test.YtkghbcadnbojgaaGreatDoorUP
import Derived.Test.YtkghbcadnbojgaaGreatDoorShStr
namespace Go.Sh.YtkghbcadnbojgaaGreatDoor
open Go Go.Proofs Go.RowKit
set_option linter.unusedVariables false
set_option linter.unusedSimpArgs false
set_option maxRecDepth 100000
theorem frames_ok (s n : Value) (i o f : Int) (hi : -9223372036854775808 ≤ o - i) (hi' : o - i ≤ 9223372036854775807) (w : World) : ∃ w', C 46 #[.agg #[s, .int .i64 i, .int .i64 o, .int .i64 f, n]] w = some (.int .i64 (o - i), w') ∧ w.grownBy w' none := by
  refine ⟨w.alloc (.cells #[s, .int .i64 i, .int .i64 o, .int .i64 f, n] 51), f46.run rfl ?_, World.grownBy_alloc _ _ _⟩
  have b := Blk.new w 51 [s, .int .i64 i, .int .i64 o, .int .i64 f, n]
  have c1 := b.cell_eq 1 rfl
  have c2 := b.cell_eq 2 rfl
  have e : IntKind.i64.wrap (o - i) = o - i := wrap_i64 hi hi'
  simp [f46, box_any, Value.cells, addL, c1, c2, e]
theorem per10_ok (c n d r : Int) (h : 0 ≤ c ∧ c ≤ 1000 ∧ 0 ≤ r ∧ r ≤ 1000) (w : World) : ∃ w', C 106 #[.agg #[.int .i64 c, .int .i64 n, .int .i64 d, .int .i64 r]] w = some (.int .i64 (600 * c - 9 * r), w') ∧ w.grownBy w' none := by
  refine ⟨w.alloc (.cells #[.int .i64 c, .int .i64 n, .int .i64 d, .int .i64 r] 145), f106.run rfl ?_, World.grownBy_alloc _ _ _⟩
  have b := Blk.new w 145 [.int .i64 c, .int .i64 n, .int .i64 d, .int .i64 r]
  have c0 := b.cell_eq 0 rfl
  have c3 := b.cell_eq 3 rfl
  have e1 : IntKind.i64.wrap (600 * c) = 600 * c := wrap_i64 (by omega) (by omega)
  have e2 : IntKind.i64.wrap (9 * r) = 9 * r := wrap_i64 (by omega) (by omega)
  have e3 : IntKind.i64.wrap (600 * c - 9 * r) = 600 * c - 9 * r := wrap_i64 (by omega) (by omega)
  simp [f106, box_any, Value.cells, addL, c0, c3, e1, e2, e3]
theorem wrong_ok (k e : Int) (w : World) : C 38 #[.int .i64 k, .int .i64 e] w = some (.iface 99 (.pointer (some ⟨w.heap.size, 0, none⟩)), w.alloc (.cells #[.int .i64 k, .int .i64 e] 101)) := by
  refine f38.run rfl ?_
  have b : prun Tryz.prog (Instr.build 101 #[(0, .int .i64 k), (1, .int .i64 e)]) = some (.agg #[.int .i64 k, .int .i64 e]) := id (by kernel_rfl)
  simp [f38, b, box_any, Value.cells]
/-- a byte of a name -/
def nameByte (c : UInt8) : Bool := (97 ≤ c.toNat && c.toNat ≤ 122) || (48 ≤ c.toNat && c.toNat ≤ 57) || c.toNat == 95 || c.toNat == 45
def isName (l : List UInt8) : Bool := l.all nameByte && 1 ≤ l.length && l.length ≤ 16
theorem isName_ok (l : List UInt8) (hl : l.length ≤ 9223372036854775807) (w : World) : C 67 #[st l] w = some (.bool (isName l), w) := by
  have hs : prun Tryz.prog (Builtin.len_ #[9] 3 #[st l]) = some (.int .i64 l.length) := str_len Tryz.underlying9 3 l
  have key := iter_down (f := f67.l0 C) (fun d vs w1 => ∃ i : Nat, vs = [st l, .int .i64 l.length, .int .i64 i] ∧ i + d = l.length ∧ w1 = w ∧ (l.take i).all nameByte = true)
    (fun r => (r = .exit 0 [st l] w ∧ l.all nameByte = true) ∨ (r = .ret [.bool false] w ∧ l.all nameByte = false)) (by
      rintro d vs w1 ⟨i, rfl, hi, rfl, ha⟩
      cases d with
      | zero =>
        obtain rfl : i = l.length := by omega
        rw [List.take_length] at ha
        exact .inr ⟨_, by simp [f67.l0], .inl ⟨rfl, ha⟩, by simp⟩
      | succ d =>
        have hil : i < l.length := by omega
        have ix := str_index (P := Tryz.prog) Tryz.underlying9 l .i64 i hil
        have e1 : IntKind.i64.wrap ((i : Int) + 1) = ((i + 1 : Nat) : Int) := (wrap_i64 (by omega) (by omega)).trans (by omega)
        have hlt : (i : Int) < (l.length : Int) := by omega
        obtain ⟨c, hc⟩ : ∃ c, c = l[i] := ⟨_, rfl⟩
        rw [← hc] at ix
        obtain ⟨n, hn⟩ : ∃ n : Nat, n = c.toNat := ⟨_, rfl⟩
        rw [← hn] at ix
        cases hb : nameByte c with
        | true =>
          have hb' : ((97 ≤ n ∧ n ≤ 122) ∨ (48 ≤ n ∧ n ≤ 57)) ∨ n = 95 ∨ n = 45 := by
            simp [nameByte, ← hn] at hb
            omega
          refine .inl ⟨d, _, w1, by omega, ?_, ⟨i + 1, rfl, by omega, rfl, ?_⟩⟩
          · rcases hb' with (⟨h1, h2⟩ | ⟨h1, h2⟩) | h | h
            · simp (disch := omega) [f67.l0, hlt, ix, lt_t, lt_f, e1]
            · simp (disch := omega) [f67.l0, hlt, ix, lt_t, lt_f, e1]
            · have h' : (n : Int) = 95 := by omega
              simp [f67.l0, hlt, ix, h', e1]
            · have h' : (n : Int) = 45 := by omega
              simp [f67.l0, hlt, ix, h', e1]
          · rw [List.take_succ_eq_append_getElem hil, List.all_append, ha, ← hc]
            simp [hb]
        | false =>
          refine .inr ⟨.ret [.bool false] w1, ?_, .inr ⟨rfl, ?_⟩, by simp⟩
          · have hb' : ¬ (97 ≤ n ∧ n ≤ 122) ∧ ¬ (48 ≤ n ∧ n ≤ 57) ∧ n ≠ 95 ∧ n ≠ 45 := by
              simp [nameByte, ← hn] at hb
              omega
            have n1 : ¬ (n : Int) = 95 := by omega
            have n2 : ((n : Int) != 45) = true := by simp; omega
            by_cases a1 : (97 : Int) ≤ n
            · have a2 : (122 : Int) < n := by omega
              have a3 : (48 : Int) ≤ n := by omega
              have a4 : (57 : Int) < n := by omega
              simp [f67.l0, hlt, ix, a1, a2, a3, a4, n1, n2]
            · by_cases a3 : (48 : Int) ≤ n
              · have a4 : (57 : Int) < n := by omega
                simp [f67.l0, hlt, ix, a1, a3, a4, n1, n2]
              · simp [f67.l0, hlt, ix, a1, a3, n1, n2]
          · rw [List.all_eq_false]
            exact ⟨l[i], List.getElem_mem hil, by rw [← hc, hb]; simp⟩) l.length _ w ⟨0, rfl, by omega, rfl, by simp⟩
  obtain ⟨r, h1, h2⟩ := key
  refine f67.run rfl ?_
  rcases h2 with ⟨rfl, h2⟩ | ⟨rfl, h2⟩
  · simp at h1
    by_cases a1 : (1 : Int) ≤ l.length
    · have a1' : 1 ≤ l.length := by omega
      by_cases a2 : (l.length : Int) ≤ 16
      · have a2' : l.length ≤ 16 := by omega
        simp [f67, hs, h1, isName, h2, a1, a2, a1', a2']
      · have a2' : ¬ l.length ≤ 16 := by omega
        simp [f67, hs, h1, isName, h2, a1, a2, a1', a2']
    · have a1' : ¬ 1 ≤ l.length := by omega
      simp [f67, hs, h1, isName, h2, a1, a1']
  · simp at h1
    simp [f67, hs, h1, isName, h2]
end Go.Sh.YtkghbcadnbojgaaGreatDoor
