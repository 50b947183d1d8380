/- conform.Plan of an empty list of cuts: what it answers. Conditions: those of each statement. -/
import Derived.Test.YtacfghffojijaaaDoorCP7
namespace Go.Sh.YtacfghffojijaaaDoor
open Go Go.Proofs Go.RowKit
set_option linter.unusedVariables false
set_option linter.unusedSimpArgs false
set_option maxRecDepth 100000
abbrev sx : Value := .string { data := #[120] }
abbrev se : Value := .string { data := #[] }
theorem z1 : ByteArray.size { data := #[120] } = 1 := rfl
theorem z0 : ByteArray.size { data := #[] } = 0 := rfl
theorem len_sx : prun Tryd.prog (Builtin.len_ #[9] 3 #[sx]) = some (.int .i64 1) := id (by kernel_rfl)
theorem len_se : prun Tryd.prog (Builtin.len_ #[9] 3 #[se]) = some (.int .i64 0) := id (by kernel_rfl)
theorem ix_sx : prun Tryd.prog (Instr.index 9 sx (.int .i64 0)) = some (.int .u8 120) := id (by kernel_rfl)
theorem sl_sx : prun Tryd.prog (Instr.sliceAt 9 sx (some (.int .i64 1)) none none) = some se := id (by kernel_rfl)
theorem utf_ok (w : World) : C 44 #[sx] w = some (.bool true, w) := by
  refine f44.run rfl ?_
  have h1 : f44.l1 C [sx] w = some (.norm [se] w) := by simp [f44.l1, z1, z0, ix_sx, sl_sx]
  have h2 : f44.l1 C [se] w = some (.exit 0 [] w) := by simp [f44.l1, z0]
  have it : iter (f44.l1 C) [sx] w = some (.exit 0 [] w) := iter_of_rounds (.more h1 (.exit h2))
  simp [f44, it]
abbrev rt : List Value := [.int .i64 25, .int .i64 25, .int .i64 1, .int .i64 0]
/-- the table's row of the rate -/
def Tb (w : World) : Prop := Rd w (some ⟨2, 8, none⟩) rt
theorem Tb.grown {w w' : World} (h : Tb w) (hg : w.grownBy w' none) : Tb w' := Rd.grown h hg
theorem alloc95 (w : World) : erun Tryd.prog (Instr.alloc 95 true (.tuple #[])) w = some (.pointer (some ⟨w.heap.size, 0, none⟩), w.alloc (.cells #[.int .i64 0, .int .i64 0, .int .i64 0, .int .i64 0] 95)) := id (by kernel_rfl)
theorem ix105 : prun Tryd.prog (Instr.indexAt 105 (.pointer (some ⟨2, 0, none⟩)) (.int .i64 2)) = some (.pointer (some ⟨2, 8, none⟩)) := id (by kernel_rfl)
theorem ldT {w : World} (h : Tb w) : rrun Tryd.prog (Instr.loadAt 95 (.pointer (some ⟨2, 8, none⟩))) w = some (.agg #[.int .i64 25, .int .i64 25, .int .i64 1, .int .i64 0]) :=
  ld95 (h 0 _ rfl) (h 1 _ rfl) (h 2 _ rfl) (h 3 _ rfl)
theorem ld95b {w : World} {b : Nat} {v0 v1 v2 v3 : Value} (h : Blk w b 95 [v0, v1, v2, v3]) : rrun Tryd.prog (Instr.loadAt 95 (.pointer (some ⟨b, 0, none⟩))) w = some (.agg #[v0, v1, v2, v3]) :=
  ld95 (by rw [addL]; exact h.cell_eq 0 rfl) (by rw [addL]; exact h.cell_eq 1 rfl) (by rw [addL]; exact h.cell_eq 2 rfl) (by rw [addL]; exact h.cell_eq 3 rfl)
theorem st95 {w : World} {b : Nat} {cs : List Value} (h : Blk w b 95 cs) (hl : cs.length = 4) :
    ∃ w', erun Tryd.prog (Instr.storeAt 95 (.pointer (some ⟨b, 0, none⟩)) (.agg #[.int .i64 25, .int .i64 25, .int .i64 1, .int .i64 0])) w = some ((), w') ∧ Blk w' b 95 rt ∧ w.grownBy w' (some b) := by
  refine h.storeAll (P := Tryd.prog) inf95 (vs := rt) (by simp [Value.cells]) (by rw [size95]; rfl) (by simp [hl]) (by simp [Value.oneCell']) ?_
  have : cs.drop (0 + rt.length) = [] := List.drop_of_length_le (by simp [hl])
  rw [this]
  simp
theorem loads95 {w : World} {b : Nat} {v0 v1 v2 v3 : Value} (h : Blk w b 95 [v0, v1, v2, v3]) (s t : Nat) (v : Value) : loadsOf Tryd.prog [.cell s 95, .tmp t] [.pointer (some ⟨b, 0, none⟩), v] w = some [.agg #[v0, v1, v2, v3], v] := by
  simp [ld95b h]
theorem find_ok {w : World} (h : Tb w) : ∃ w', C 48 #[.int .i64 2] w = some (.tuple #[.agg #[.int .i64 25, .int .i64 25, .int .i64 1, .int .i64 0], .bool true], w') ∧ w.grownBy w' none := by
  obtain ⟨W1, hW1⟩ : ∃ W1, W1 = w.alloc (.cells #[.int .i64 0, .int .i64 0, .int .i64 0, .int .i64 0] 95) := ⟨_, rfl⟩
  have g1 : w.grownBy W1 none := hW1 ▸ World.grownBy_alloc w _ none
  have b1 : Blk W1 w.heap.size 95 [.int .i64 0, .int .i64 0, .int .i64 0, .int .i64 0] := hW1 ▸ Blk.new w 95 [.int .i64 0, .int .i64 0, .int .i64 0, .int .i64 0]
  obtain ⟨w2, s2, b2, g2⟩ := st95 b1 rfl
  refine ⟨w2, f48.run rfl ?_, grown_trans g1 g2 fun k hk => by cases hk; omega⟩
  simp [f48, alloc95, ← hW1, ix105, ldT (h.grown g1), s2, loads95 b2]
theorem rate_ok (w : World) : ∃ w', C 53 #[.agg #[.int .i64 25, .int .i64 25, .int .i64 1, .int .i64 0]] w = some (.int .i64 15000, w') ∧ w.grownBy w' none := by
  refine ⟨w.alloc (.cells #[.int .i64 25, .int .i64 25, .int .i64 1, .int .i64 0] 95), f53.run rfl ?_, World.grownBy_alloc w _ none⟩
  simp [f53, box_any, Value.cells, addL, show IntKind.i64.wrap 15000 = 15000 from rfl, show IntKind.i64.wrap 0 = 0 from rfl]
theorem ten_ok (w : World) : ∃ w', C 49 #[.agg #[.int .i64 25, .int .i64 25, .int .i64 1, .int .i64 0]] w = some (.int .i64 2160000, w') ∧ w.grownBy w' none := by
  obtain ⟨W1, hW1⟩ : ∃ W1, W1 = w.alloc (.cells #[.int .i64 25, .int .i64 25, .int .i64 1, .int .i64 0] 95) := ⟨_, rfl⟩
  have g1 : w.grownBy W1 none := hW1 ▸ World.grownBy_alloc w _ none
  have b1 : Blk W1 w.heap.size 95 rt := hW1 ▸ Blk.new w 95 rt
  obtain ⟨w2, a2, g2⟩ := rate_ok W1
  refine ⟨w2, f49.run rfl ?_, grown_trans g1 g2 (by simp)⟩
  simp [f49, box_any, Value.cells, ← hW1, ld95b b1, a2, show IntKind.i64.wrap 2160000 = 2160000 from rfl]
theorem day_ok {w : World} (h : Tb w) : ∃ w', C 42 #[.int .i64 2] w = some (.tuple #[.int .i64 2160000, .int .i64 0], w') ∧ w.grownBy w' none := by
  obtain ⟨w1, a1, g1⟩ := find_ok h
  obtain ⟨W2, hW2⟩ : ∃ W2, W2 = w1.alloc (.cells #[.int .i64 0, .int .i64 0, .int .i64 0, .int .i64 0] 95) := ⟨_, rfl⟩
  have g2 : w1.grownBy W2 none := hW2 ▸ World.grownBy_alloc w1 _ none
  have b2 : Blk W2 w1.heap.size 95 [.int .i64 0, .int .i64 0, .int .i64 0, .int .i64 0] := hW2 ▸ Blk.new w1 95 [.int .i64 0, .int .i64 0, .int .i64 0, .int .i64 0]
  obtain ⟨w3, s3, b3, g3⟩ := st95 b2 rfl
  have G3 : w.grownBy w3 none := grown_trans (grown_trans g1 g2 (by simp)) g3 fun k hk => by cases hk; have := g1.size; omega
  obtain ⟨w4, a4, g4⟩ := ten_ok w3
  refine ⟨w4, f42.run rfl ?_, grown_trans G3 g4 (by simp)⟩
  simp [f42, a1, alloc95, ← hW2, s3, bool_not, ld95b b3, a4]
abbrev cl : Value := .agg #[sx, .int .i64 2, .slice none 0 0]
abbrev clc : List Value := [sx, .int .i64 2, .slice none 0 0]
theorem check_ok {w : World} (h : Tb w) : ∃ w', C 29 #[cl] w = some (Value.nilIface, w') ∧ w.grownBy w' none := by
  obtain ⟨W1, hW1⟩ : ∃ W1, W1 = w.alloc (.cells #[sx, .int .i64 2, .slice none 0 0] 52) := ⟨_, rfl⟩
  have g1 : w.grownBy W1 none := hW1 ▸ World.grownBy_alloc w _ none
  have b1 : Blk W1 w.heap.size 52 clc := hW1 ▸ Blk.new w 52 clc
  obtain ⟨w2, a2, g2⟩ := day_ok (h.grown g1)
  have b2 := b1.grown g2 (by simp)
  refine ⟨w2, f29.run rfl ?_, grown_trans g1 g2 (by simp)⟩
  have l0 : f29.l0 C [.pointer (some ⟨w.heap.size, 0, none⟩), .int .i64 2160000, .slice none 0 0, .int .i64 0, .int .i64 0] w2 = some (.exit 1 [] w2) := by simp [f29.l0]
  have it : iter (f29.l0 C) [.pointer (some ⟨w.heap.size, 0, none⟩), .int .i64 2160000, .slice none 0 0, .int .i64 0, .int .i64 0] w2 = some (.exit 1 [] w2) := iter_of_rounds (.exit l0)
  simp [f29, box_any, Value.cells, ← hW1, addL, b1.cell_eq 1 rfl, a2, b2.cell_eq 0 rfl, z1, utf_ok, bool_not, b2.cell_eq 2 rfl, it]
theorem nil_ne (w : World) : rrun Tryd.prog (do eqGuard .neq 46 (Operand.tmp 22) (Operand.const Value.nilIface) Value.nilIface Value.nilIface; binOp .neq 46 Value.nilIface Value.nilIface) w = some (.bool false) := id (by kernel_rfl)
theorem nil_eq (w : World) : rrun Tryd.prog (do eqGuard .eql 46 (Operand.tmp 19) (Operand.const Value.nilIface) Value.nilIface Value.nilIface; binOp .eql 46 Value.nilIface Value.nilIface) w = some (.bool true) := id (by kernel_rfl)
theorem plan_ok {w : World} (h : Tb w) : ∃ w', C 19 #[cl, .map none] w = some (.tuple #[.slice none 0 0, .slice none 0 0, Value.nilIface], w') ∧ w.grownBy w' none := by
  obtain ⟨W1, hW1⟩ : ∃ W1, W1 = w.alloc (.cells #[sx, .int .i64 2, .slice none 0 0] 52) := ⟨_, rfl⟩
  have g1 : w.grownBy W1 none := hW1 ▸ World.grownBy_alloc w _ none
  have b1 : Blk W1 w.heap.size 52 clc := hW1 ▸ Blk.new w 52 clc
  obtain ⟨W2, hW2⟩ : ∃ W2, W2 = W1.alloc (.cells #[.map none] 56) := ⟨_, rfl⟩
  have g2 : W1.grownBy W2 none := hW2 ▸ World.grownBy_alloc W1 _ none
  have b2 := b1.grown g2 (by simp)
  have G2 := grown_trans g1 g2 (by simp)
  obtain ⟨w3, a3, g3⟩ := check_ok (h.grown G2)
  have b3 := b2.grown g3 (by simp)
  have hs1 : W1.heap.size = w.heap.size + 1 := by rw [hW1]; simp
  refine ⟨w3, f19.run rfl ?_, grown_trans G2 g3 (by simp)⟩
  have l0 : f19.l0 C [.pointer (some ⟨w.heap.size, 0, none⟩), .pointer (some ⟨w.heap.size + 1, 0, none⟩), .slice none 0 0, .int .i64 0, .int .i64 0] w3 = some (.exit 0 [.pointer (some ⟨w.heap.size, 0, none⟩), .pointer (some ⟨w.heap.size + 1, 0, none⟩)] w3) := by simp [f19.l0]
  have it0 := iter_of_rounds (.exit l0)
  have l3 : f19.l3 C [.pointer (some ⟨w.heap.size, 0, none⟩), .slice none 0 0, .slice none 0 0, .func (.func 32) #[] #[.pointer (some ⟨w.heap.size + 1, 0, none⟩)], .slice none 0 0, .int .i64 0, .int .i64 0] w3 = some (.exit 2 [.slice none 0 0, .slice none 0 0] w3) := by simp [f19.l3]
  have it3 := iter_of_rounds (.exit l3)
  simp [f19, box_any, Value.cells, ← hW1, ← hW2, hs1, ld52 (a := ⟨w.heap.size, 0, none⟩) (by rw [addL]; exact b2.cell_eq 0 rfl) (by rw [addL]; exact b2.cell_eq 1 rfl) (by rw [addL]; exact b2.cell_eq 2 rfl), a3, nil_ne, addL, b3.cell_eq 2 rfl, it0, it3]
theorem Plan_ok {w : World} (h : Tb w) : ∃ w', C 15 #[cl, .map none] w = some (.tuple #[.slice none 0 0, Value.nilIface], w') ∧ w.grownBy w' none := by
  obtain ⟨W1, hW1⟩ : ∃ W1, W1 = w.alloc (.cells #[sx, .int .i64 2, .slice none 0 0] 52) := ⟨_, rfl⟩
  have g1 : w.grownBy W1 none := hW1 ▸ World.grownBy_alloc w _ none
  have b1 : Blk W1 w.heap.size 52 clc := hW1 ▸ Blk.new w 52 clc
  obtain ⟨w2, a2, g2⟩ := plan_ok (h.grown g1)
  refine ⟨w2, f15.run rfl ?_, grown_trans g1 g2 (by simp)⟩
  simp [f15, box_any, Value.cells, ← hW1, ld52 (a := ⟨w.heap.size, 0, none⟩) (by rw [addL]; exact b1.cell_eq 0 rfl) (by rw [addL]; exact b1.cell_eq 1 rfl) (by rw [addL]; exact b1.cell_eq 2 rfl), a2]
end Go.Sh.YtacfghffojijaaaDoor
