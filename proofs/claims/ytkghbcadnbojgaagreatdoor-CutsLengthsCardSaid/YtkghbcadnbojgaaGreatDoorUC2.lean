/- cuts: the table of rates, how many frames a day has. Conditions: those of each statement. -/
import Derived.Test.YtkghbcadnbojgaaGreatDoorUC1
namespace Go.Sh.YtkghbcadnbojgaaGreatDoor
open Go Go.Proofs Go.RowKit
set_option linter.unusedVariables false
set_option linter.unusedSimpArgs false
set_option maxRecDepth 100000
/-- a rate: its names in a second, its speed, what a minute leaves out -/
def rates : List (Int × Int × Int × Int) := [(0, 0, 0, 0), (24, 24, 1, 0), (25, 25, 1, 0), (30, 30, 1, 0), (30, 30000, 1001, 2), (50, 50, 1, 0), (60, 60, 1, 0), (60, 60000, 1001, 4)]
def rc (x : Int × Int × Int × Int) : List Value := [.int .i64 x.1, .int .i64 x.2.1, .int .i64 x.2.2.1, .int .i64 x.2.2.2]
def tbl : List Value := rates.flatMap rc
/-- the table lies where the program lays it -/
def Tb (w : World) : Prop := Rd w (some ⟨3, 0, none⟩) tbl
theorem alloc145 (w : World) : erun Tryz.prog (Instr.alloc 145 true (.tuple #[])) w = some (.pointer (some ⟨w.heap.size, 0, none⟩), w.alloc (.cells #[.int .i64 0, .int .i64 0, .int .i64 0, .int .i64 0] 145)) := id (by kernel_rfl)
theorem build145 : prun Tryz.prog (Instr.build 145 #[]) = some (.agg #[.int .i64 0, .int .i64 0, .int .i64 0, .int .i64 0]) := id (by kernel_rfl)
theorem st145 {w : World} {b : Nat} {cs : List Value} (h : Blk w b 145 cs) (hc : cs.length = 4) (a0 a1 a2 a3 : Value) (h1 : ∀ u ∈ [a0, a1, a2, a3], u.oneCell' = true) : ∃ w', erun Tryz.prog (Instr.storeAt 145 (.pointer (some ⟨b, 0, none⟩)) (.agg #[a0, a1, a2, a3])) w = some ((), w') ∧ Blk w' b 145 [a0, a1, a2, a3] ∧ w.grownBy w' (some b) :=
  h.storeAll inf145 (o := 0) (vs := [a0, a1, a2, a3]) rfl (by rw [size145]; rfl) (by simp; omega) h1 (by simp [hc])
def rv (x : Int × Int × Int × Int) : Value := .agg #[.int .i64 x.1, .int .i64 x.2.1, .int .i64 x.2.2.1, .int .i64 x.2.2.2]
theorem ld145b {w : World} {b : Nat} {x : Int × Int × Int × Int} (h : Blk w b 145 (rc x)) : rrun Tryz.prog (Instr.loadAt 145 (.pointer (some ⟨b, 0, none⟩))) w = some (rv x) :=
  ld145 (a := ⟨b, 0, none⟩) (by rw [addL]; exact h.cell_eq 0 rfl) (by rw [addL]; exact h.cell_eq 1 rfl) (by rw [addL]; exact h.cell_eq 2 rfl) (by rw [addL]; exact h.cell_eq 3 rfl)
/-- a rate, laid into new memory -/
theorem lay145 (x : Int × Int × Int × Int) (w : World) : ∃ w', erun Tryz.prog (Instr.storeAt 145 (.pointer (some ⟨w.heap.size, 0, none⟩)) (rv x)) (w.alloc (.cells #[.int .i64 0, .int .i64 0, .int .i64 0, .int .i64 0] 145)) = some ((), w') ∧ Blk w' w.heap.size 145 (rc x) ∧ w.grownBy w' none := by
  have b := Blk.new w 145 [.int .i64 0, .int .i64 0, .int .i64 0, .int .i64 0]
  have g1 := World.grownBy_alloc w (.cells #[.int .i64 0, .int .i64 0, .int .i64 0, .int .i64 0] 145) none
  obtain ⟨w2, h2, b2, g2⟩ := st145 b rfl (.int .i64 x.1) (.int .i64 x.2.1) (.int .i64 x.2.2.1) (.int .i64 x.2.2.2) (by simp [Value.oneCell'])
  exact ⟨w2, h2, b2, grown_trans g1 g2 (fun k hk => by cases hk; exact Nat.le_refl _)⟩
theorem find_out (r : Int) (hr : r < 1 ∨ 7 < r) (w : World) : ∃ w', C 80 #[.int .i64 r] w = some (.tuple #[rv (0, 0, 0, 0), .bool false], w') ∧ w.grownBy w' none := by
  obtain ⟨w2, h2, b2, g2⟩ := lay145 (0, 0, 0, 0) w
  have l2 := ld145b b2
  refine ⟨w2, f80.run rfl ?_, g2⟩
  have h2' : erun Tryz.prog (Instr.storeAt 145 (.pointer (some ⟨w.heap.size, 0, none⟩)) (.agg #[.int .i64 0, .int .i64 0, .int .i64 0, .int .i64 0])) (w.alloc (.cells #[.int .i64 0, .int .i64 0, .int .i64 0, .int .i64 0] 145)) = some ((), w2) := h2
  by_cases h1 : r < 1
  · simp [f80, alloc145, h1, build145, h2', l2]
  · have h7 : 7 < r := by omega
    simp [f80, alloc145, h1, h7, build145, h2', l2]
theorem ix188 (k : Nat) (h : k < 8) : prun Tryz.prog (Instr.indexAt 188 (.pointer (some ⟨3, 0, none⟩)) (.int .i64 k)) = some (.pointer (some ⟨3, k * 4, none⟩)) := by
  have h0 : prun Tryz.prog (Instr.indexAt 188 (.pointer (some ⟨3, 0, none⟩)) (.int .i64 0)) = some (.pointer (some ⟨3, 0, none⟩)) := by kernel_rfl
  have h1 : prun Tryz.prog (Instr.indexAt 188 (.pointer (some ⟨3, 0, none⟩)) (.int .i64 1)) = some (.pointer (some ⟨3, 4, none⟩)) := by kernel_rfl
  have h2 : prun Tryz.prog (Instr.indexAt 188 (.pointer (some ⟨3, 0, none⟩)) (.int .i64 2)) = some (.pointer (some ⟨3, 8, none⟩)) := by kernel_rfl
  have h3 : prun Tryz.prog (Instr.indexAt 188 (.pointer (some ⟨3, 0, none⟩)) (.int .i64 3)) = some (.pointer (some ⟨3, 12, none⟩)) := by kernel_rfl
  have h4 : prun Tryz.prog (Instr.indexAt 188 (.pointer (some ⟨3, 0, none⟩)) (.int .i64 4)) = some (.pointer (some ⟨3, 16, none⟩)) := by kernel_rfl
  have h5 : prun Tryz.prog (Instr.indexAt 188 (.pointer (some ⟨3, 0, none⟩)) (.int .i64 5)) = some (.pointer (some ⟨3, 20, none⟩)) := by kernel_rfl
  have h6 : prun Tryz.prog (Instr.indexAt 188 (.pointer (some ⟨3, 0, none⟩)) (.int .i64 6)) = some (.pointer (some ⟨3, 24, none⟩)) := by kernel_rfl
  have h7 : prun Tryz.prog (Instr.indexAt 188 (.pointer (some ⟨3, 0, none⟩)) (.int .i64 7)) = some (.pointer (some ⟨3, 28, none⟩)) := by kernel_rfl
  rcases (show k = 0 ∨ k = 1 ∨ k = 2 ∨ k = 3 ∨ k = 4 ∨ k = 5 ∨ k = 6 ∨ k = 7 by omega) with rfl | rfl | rfl | rfl | rfl | rfl | rfl | rfl
  · exact h0
  · exact h1
  · exact h2
  · exact h3
  · exact h4
  · exact h5
  · exact h6
  · exact h7
theorem tbl_get {k : Nat} {x : Int × Int × Int × Int} (h : rates[k]? = some x) : tbl[k * 4]? = some (.int .i64 x.1) ∧ tbl[k * 4 + 1]? = some (.int .i64 x.2.1) ∧ tbl[k * 4 + 2]? = some (.int .i64 x.2.2.1) ∧ tbl[k * 4 + 3]? = some (.int .i64 x.2.2.2) := by
  have hk : k < 8 := (List.getElem?_eq_some_iff.mp h).1
  match k, hk with
  | 0, _ => cases h; exact ⟨rfl, rfl, rfl, rfl⟩
  | 1, _ => cases h; exact ⟨rfl, rfl, rfl, rfl⟩
  | 2, _ => cases h; exact ⟨rfl, rfl, rfl, rfl⟩
  | 3, _ => cases h; exact ⟨rfl, rfl, rfl, rfl⟩
  | 4, _ => cases h; exact ⟨rfl, rfl, rfl, rfl⟩
  | 5, _ => cases h; exact ⟨rfl, rfl, rfl, rfl⟩
  | 6, _ => cases h; exact ⟨rfl, rfl, rfl, rfl⟩
  | 7, _ => cases h; exact ⟨rfl, rfl, rfl, rfl⟩
theorem find_in {w : World} (T : Tb w) (k : Nat) (hk : 1 ≤ k) {x : Int × Int × Int × Int} (hx : rates[k]? = some x) : ∃ w', C 80 #[.int .i64 k] w = some (.tuple #[rv x, .bool true], w') ∧ w.grownBy w' none := by
  have hk8 : k < 8 := (List.getElem?_eq_some_iff.mp hx).1
  obtain ⟨w2, h2, b2, g2⟩ := lay145 x w
  have l2 := ld145b b2
  have T1 : Tb (w.alloc (.cells #[.int .i64 0, .int .i64 0, .int .i64 0, .int .i64 0] 145)) := Rd.grown T (World.grownBy_alloc w _ none)
  obtain ⟨c0, c1, c2, c3⟩ := tbl_get hx
  have e : ∀ j, (⟨3, 0, none⟩ : Addr).add j = ⟨3, j, none⟩ := fun j => by rw [addL, Nat.zero_add]
  have q0 := T1 _ _ c0
  have q1 := T1 _ _ c1
  have q2 := T1 _ _ c2
  have q3 := T1 _ _ c3
  rw [e] at q0 q1 q2 q3
  have l3 : rrun Tryz.prog (Instr.loadAt 145 (.pointer (some ⟨3, k * 4, none⟩))) (w.alloc (.cells #[.int .i64 0, .int .i64 0, .int .i64 0, .int .i64 0] 145)) = some (rv x) := ld145 (a := ⟨3, k * 4, none⟩) (by rw [addL]; exact q0) (by rw [addL]; exact q1) (by rw [addL]; exact q2) (by rw [addL]; exact q3)
  have ix := ix188 k hk8
  refine ⟨w2, f80.run rfl ?_, g2⟩
  have h1 : ¬ (k : Int) < 1 := by omega
  have h7 : ¬ (7 : Int) < k := by omega
  simp [f80, alloc145, h1, h7, ix, l3, h2, l2]
theorem perday_ok {x : Int × Int × Int × Int} (hx : x ∈ rates) (w : World) : ∃ w', C 81 #[rv x] w = some (.int .i64 (144 * (600 * x.1 - 9 * x.2.2.2)), w') ∧ w.grownBy w' none := by
  have hb : 0 ≤ x.1 ∧ x.1 ≤ 1000 ∧ 0 ≤ x.2.2.2 ∧ x.2.2.2 ≤ 1000 := by
    simp only [rates, List.mem_cons, List.not_mem_nil, or_false] at hx
    rcases hx with rfl | rfl | rfl | rfl | rfl | rfl | rfl | rfl <;> simp
  have b := Blk.new w 145 (rc x)
  have l1 := ld145b b
  obtain ⟨w2, h2, g2⟩ := per10_ok x.1 x.2.1 x.2.2.1 x.2.2.2 hb (w.alloc (.cells (rc x).toArray 145))
  have e : IntKind.i64.wrap (144 * (600 * x.1 - 9 * x.2.2.2)) = 144 * (600 * x.1 - 9 * x.2.2.2) := wrap_i64 (by omega) (by omega)
  refine ⟨w2, f81.run rfl ?_, grown_trans (World.grownBy_alloc w _ none) g2 (by simp)⟩
  simp only [rc, rv] at l1 h2
  simp [f81, rv, box_any, Value.cells, l1, h2, e]
def perDay (x : Int × Int × Int × Int) : Int := 144 * (600 * x.1 - 9 * x.2.2.2)
theorem PerDay_out (r : Int) (hr : r < 1 ∨ 7 < r) (w : World) : ∃ w', C 37 #[.int .i64 r] w = some (.tuple #[.int .i64 0, .int .i64 181], w') ∧ w.grownBy w' none := by
  obtain ⟨w1, h1, g1⟩ := find_out r hr w
  obtain ⟨w2, h2, b2, g2⟩ := lay145 (0, 0, 0, 0) w1
  refine ⟨w2, f37.run rfl ?_, grown_trans g1 g2 (by simp)⟩
  simp [f37, h1, alloc145, h2]
theorem PerDay_in {w : World} (T : Tb w) (k : Nat) (hk : 1 ≤ k) {x : Int × Int × Int × Int} (hx : rates[k]? = some x) : ∃ w', C 37 #[.int .i64 k] w = some (.tuple #[.int .i64 (perDay x), .int .i64 0], w') ∧ w.grownBy w' none := by
  obtain ⟨w1, h1, g1⟩ := find_in T k hk hx
  obtain ⟨w2, h2, b2, g2⟩ := lay145 x w1
  have l2 := ld145b b2
  obtain ⟨w3, h3, g3⟩ := perday_ok (List.mem_of_getElem? hx) w2
  refine ⟨w3, f37.run rfl ?_, grown_trans (grown_trans g1 g2 (by simp)) g3 (by simp)⟩
  simp [f37, h1, alloc145, h2, l2, h3, perDay]
end Go.Sh.YtkghbcadnbojgaaGreatDoor
