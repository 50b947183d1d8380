/- cuts: an error's text; evented; pick. Conditions: those of each statement. -/
import Derived.Test.YtkghbcadnbojgaaGreatDoorUCC
namespace Go.Sh.YtkghbcadnbojgaaGreatDoor
open Go Go.Proofs Go.RowKit Go.Sh.Ev
set_option linter.unusedVariables false
set_option linter.unusedSimpArgs false
set_option maxRecDepth 100000
def preErr : List UInt8 := [100, 97, 105, 108, 105, 101, 115, 58, 32, 101, 114, 114, 111, 114, 32]
def preEv : List UInt8 := [100, 97, 105, 108, 105, 101, 115, 58, 32, 101, 118, 101, 110, 116, 32]
def colon : List UInt8 := [58, 32]
theorem errno_ok {w : World} (hG : GlobOk gl2 w) {z : Nat} (hz : z < 200) : ∃ w', C 164 #[.int .i64 z] w = some (st (preErr ++ dec z), w') ∧ w.grownBy w' none := by
  obtain ⟨w', h1, g1⟩ := itoa_ok hG hz
  have hl := dec_len z
  have a := fun x y => str_add (P := Tryz.prog) Tryz.underlying9 x y preErr (dec z) (by have : preErr.length = 15 := rfl; omega)
  refine ⟨w', f164.run rfl ?_, g1⟩
  simp only [preErr] at a
  simp [f164, h1, a, preErr]
theorem everr_ok {w : World} (hG : GlobOk gl2 w) {b k z : Nat} (hb : Blk w b 101 [.int .i64 k, .int .i64 z]) (hk : k < 200) (hz : z < 200) : ∃ w', C 167 #[.pointer (some ⟨b, 0, none⟩)] w = some (st (preEv ++ dec k ++ colon ++ (preErr ++ dec z)), w') ∧ w.grownBy w' none := by
  have hd := grown_drew w none
  obtain ⟨w1, h1, g1⟩ := itoa_ok (globOk_grown hG hd) hk
  have G1 := grown_step hd g1
  obtain ⟨w2, h2, g2⟩ := errno_ok (globOk_grown hG G1) hz
  have hlk := dec_len k
  have hlz := dec_len z
  have b1 : Blk w1 b 101 [.int .i64 k, .int .i64 z] := hb.grown G1 (by simp)
  have c0 := hb.cell_eq 0 rfl
  have c1 := hb.cell_eq 1 rfl
  have d1 := b1.cell_eq 1 rfl
  have q1 : preErr.length = 15 := rfl
  have q2 : preEv.length = 15 := rfl
  have q3 : colon.length = 2 := rfl
  have a1 := fun x y => str_add (P := Tryz.prog) Tryz.underlying9 x y preEv (dec k) (by omega)
  have a2 := fun x y => str_add (P := Tryz.prog) Tryz.underlying9 x y (preEv ++ dec k) colon (by simp only [List.length_append]; omega)
  have a3 := fun x y => str_add (P := Tryz.prog) Tryz.underlying9 x y (preEv ++ dec k ++ colon) (preErr ++ dec z) (by simp only [List.length_append]; omega)
  obtain ⟨s1, hs1⟩ : ∃ s, s = preEv ++ dec k := ⟨_, rfl⟩
  rw [← hs1] at a1 a2 a3 ⊢
  obtain ⟨s2, hs2⟩ : ∃ s, s = s1 ++ colon := ⟨_, rfl⟩
  rw [← hs2] at a2 a3 ⊢
  obtain ⟨s3, hs3⟩ : ∃ s, s = preErr ++ dec z := ⟨_, rfl⟩
  rw [← hs3] at a3 h2 ⊢
  refine ⟨w2, f167.run rfl ?_, grown_step G1 g2⟩
  simp only [preEv, colon] at a1 a2
  simp [f167, addL, c0, h1, a1, a2, d1, h2, a3, chkThen]
  rw [if_pos (by simp [c1, d1])]
  rfl
theorem ta35 (z : Int) : prun Tryz.prog (Instr.typeAssert (.iface 35 (.int .i64 z)) 32 35 true) = some (.tuple #[.int .i64 z, .bool true]) := id (by kernel_rfl)
theorem unwrap_ok {w : World} {b : Nat} {k z : Int} (hb : Blk w b 101 [.int .i64 k, .int .i64 z]) : C 47 #[.pointer (some ⟨b, 0, none⟩)] w = some (.iface 35 (.int .i64 z), w) := by
  have c1 := hb.cell_eq 1 rfl
  refine f47.run rfl ?_
  simp [f47, addL, c1, mi35]
theorem im99 (v : Value) (w : World) : imethod Tryz.prog (.iface 99 v) "Error" w = some (167, v) := id (by kernel_rfl)
theorem build101 : prun Tryz.prog (Instr.build 101 #[]) = some (.agg #[.int .i64 0, .int .i64 0]) := id (by kernel_rfl)
theorem alloc99 (w : World) : erun Tryz.prog (Instr.alloc 99 true (.tuple #[])) w = some (.pointer (some ⟨w.heap.size, 0, none⟩), w.alloc (.cells #[.pointer none] 99)) := id (by kernel_rfl)
theorem evented_ok {w : World} (hG : GlobOk gl2 w) (hh : w.cell? ⟨0, 0, none⟩ = some hnd) {b k z : Nat} (hb : Blk w b 101 [.int .i64 k, .int .i64 z]) (hk : k < 200) (hz : z < 200) (hz0 : 0 < z) :
    ∃ w', C 20 #[.iface 99 (.pointer (some ⟨b, 0, none⟩)), .int .i64 k, .int .i64 z] w = some (.bool true, w') ∧ w.grownBy w' none := by
  obtain ⟨w1, hw1⟩ : ∃ w1, w1 = w.alloc (.cells #[.int .i64 0, .int .i64 0] 101) := ⟨_, rfl⟩
  have g1 : w.grownBy w1 none := hw1 ▸ World.grownBy_alloc w _ none
  have bx : erun Tryz.prog (Instr.box 101 (.agg #[.int .i64 0, .int .i64 0])) w = some (.pointer (some ⟨w.heap.size, 0, none⟩), w1) := by rw [hw1]; rfl
  obtain ⟨w2, hw2⟩ : ∃ w2, w2 = w1.alloc (.cells #[.pointer none] 99) := ⟨_, rfl⟩
  have g2 : w1.grownBy w2 none := hw2 ▸ World.grownBy_alloc w1 _ none
  have b2 : Blk w2 w1.heap.size 99 [.pointer none] := hw2 ▸ Blk.new w1 99 [.pointer none]
  have al := alloc99 w1
  rw [← hw2] at al
  have sto := b2.store (P := Tryz.prog) (t := 99) (j := 0) (v := .pointer (some ⟨w.heap.size, 0, none⟩)) inf99 size99 (by simp) rfl rfl
  obtain ⟨w3, hw3⟩ : ∃ w3, w3 = w2.setCell ⟨w1.heap.size, 0, none⟩ (.pointer (some ⟨w.heap.size, 0, none⟩)) := ⟨_, rfl⟩
  have b3 : Blk w3 w1.heap.size 99 [.pointer (some ⟨w.heap.size, 0, none⟩)] := hw3 ▸ b2.set 0 _
  have g3 : w2.grownBy w3 (some w1.heap.size) := hw3 ▸ grown_set _ _ _
  rw [← hw3] at sto
  have G1 : w1.grownBy w3 none := grown_new g2 g3 (Nat.le_refl _)
  have G : w.grownBy w3 none := grown_step g1 G1
  have hG3 := globOk_grown hG G
  have hh3 : w3.cell? ⟨0, 0, none⟩ = some hnd := by
    have h1 : Rd w (some ⟨0, 0, none⟩) [hnd] := fun j v hj => by
      cases j with
      | zero => simp at hj; subst hj; exact hh
      | succ j => simp at hj
    exact h1.grown G 0 hnd rfl
  have e1 := as_ok (e := ⟨b, 0, none⟩) (t := ⟨w1.heap.size, 0, none⟩) hh3 (b3.cell_eq 0 rfl) (b3.frozen 0)
  obtain ⟨w4, hw4⟩ : ∃ w4, w4 = (((w3.alloc (.cells #[.pointer (some ⟨w1.heap.size, 0, none⟩)] 102)).alloc (.cells #[.pointer (some ⟨15, 102, none⟩), .pointer (some ⟨w3.heap.size, 0, none⟩), .int .u64 150] 137)).alloc (.cells #[.pointer (some ⟨15, 102, none⟩), .pointer (some ⟨w3.heap.size, 0, none⟩), .int .u64 150] 137)).alloc (.cells #[.pointer (some ⟨b, 0, none⟩)] 99) := ⟨_, rfl⟩
  have g4 : w3.grownBy w4 none := by
    rw [hw4]
    exact grown_step (grown_step (grown_step (World.grownBy_alloc _ _ none) (World.grownBy_alloc _ _ none)) (World.grownBy_alloc _ _ none)) (World.grownBy_alloc _ _ none)
  have b4 : Blk w4 w1.heap.size 99 [.pointer (some ⟨w.heap.size, 0, none⟩)] := b3.grown g4 (by simp)
  obtain ⟨w5, hw5⟩ : ∃ w5, w5 = w4.setCell ⟨w1.heap.size, 0, none⟩ (.pointer (some ⟨b, 0, none⟩)) := ⟨_, rfl⟩
  have e2 : asW ⟨b, 0, none⟩ ⟨w1.heap.size, 0, none⟩ w3 = w5 := by rw [hw5, hw4]; rfl
  rw [e2] at e1
  have b5 : Blk w5 w1.heap.size 99 [.pointer (some ⟨b, 0, none⟩)] := hw5 ▸ b4.set 0 _
  have g5 : w4.grownBy w5 (some w1.heap.size) := hw5 ▸ grown_set _ _ _
  have G5 : w.grownBy w5 none := grown_step g1 (grown_new (grown_step G1 g4) g5 (Nat.le_refl _))
  have eb5 : Blk w5 b 101 [.int .i64 k, .int .i64 z] := hb.grown G5 (by simp)
  have p5 := b5.cell_eq 0 rfl
  have k5 := eb5.cell_eq 0 rfl
  have z5 := eb5.cell_eq 1 rfl
  have is5 := is_ok z5
  have u5 := unwrap_ok eb5
  have hG5 := globOk_grown hG G5
  obtain ⟨w6, h6, g6⟩ := everr_ok hG5 eb5 hk hz
  obtain ⟨w7, h7, g7⟩ := digits_ok (globOk_grown hG5 g6) hk
  obtain ⟨w8, h8, g8⟩ := digits_ok (globOk_grown (globOk_grown hG5 g6) g7) hz
  have hlk := dec_len k
  have hlz := dec_len z
  have q1 : preErr.length = 15 := rfl
  have q2 : preEv.length = 15 := rfl
  have q3 : colon.length = 2 := rfl
  have q4 : (colon ++ preErr).length = 17 := rfl
  have a1 := fun x y => str_add (P := Tryz.prog) Tryz.underlying9 x y preEv (dec k) (by omega)
  have a2 := fun x y => str_add (P := Tryz.prog) Tryz.underlying9 x y (preEv ++ dec k) (colon ++ preErr) (by simp only [List.length_append]; omega)
  have a3 := fun x y => str_add (P := Tryz.prog) Tryz.underlying9 x y (preEv ++ dec k ++ (colon ++ preErr)) (dec z) (by simp only [List.length_append]; omega)
  have ee : preEv ++ dec k ++ colon ++ (preErr ++ dec z) = preEv ++ dec k ++ (colon ++ preErr) ++ dec z := by simp only [List.append_assoc]
  rw [ee] at h6
  obtain ⟨s1, hs1⟩ : ∃ s, s = preEv ++ dec k := ⟨_, rfl⟩
  rw [← hs1] at a1 a2 a3 h6
  obtain ⟨s2, hs2⟩ : ∃ s, s = s1 ++ (colon ++ preErr) := ⟨_, rfl⟩
  rw [← hs2] at a2 a3 h6
  obtain ⟨s3, hs3⟩ : ∃ s, s = s2 ++ dec z := ⟨_, rfl⟩
  rw [← hs3] at a3 h6
  have eq := fun x y => str_eql (P := Tryz.prog) (t := 9) x y s3 s3
  have hz0' : ¬ (z : Int) = 0 := by omega
  have hz0'' : ¬ z = 0 := by omega
  refine ⟨w8, f20.run rfl ?_, grown_step (grown_step (grown_step G5 g6) g7) g8⟩
  simp only [preEv, preErr, colon, List.cons_append, List.nil_append] at a1 a2
  simp [f20, hz0', hz0'', build101, bx, al, sto, mi102, e1, p5, mi35, is5, addL, k5, z5, u5, ta35, im99, h6, h7, a1, a2, h8, a3, eq]
theorem pick_ok (c : Int) (n : Int) (hn : 0 < n) (hN : n ≤ 9223372036854775807) (hc : -9223372036854775808 ≤ c) (hc' : c ≤ 9223372036854775807) (w : World) :
    ∃ r : Int, C 19 #[.int .i64 c, .int .i64 n] w = some (.int .i64 r, w) ∧ 0 ≤ r ∧ r < n := by
  by_cases h : c < 0
  · have e1 : IntKind.i64.wrap (c + 1) = c + 1 := wrap_i64 (by omega) (by omega)
    have e2 : IntKind.i64.wrap (0 - (c + 1)) = -(c + 1) := by rw [Int.zero_sub]; exact wrap_i64 (by omega) (by omega)
    refine ⟨(-(c + 1)).tmod n, f19.run rfl ?_, Int.tmod_nonneg _ (by omega), Int.tmod_lt_of_pos _ hn⟩
    simp only [f19, bin_lss, h, decide_true, Option.bind_some, asB_bool, if_true, bin_add, e1, un_neg, e2, cont_norm, nth_zero, nth_succ]
    simp [bin_rem _ _ _ (show n ≠ 0 by omega)]
  · refine ⟨c.tmod n, f19.run rfl ?_, Int.tmod_nonneg _ (by omega), Int.tmod_lt_of_pos _ hn⟩
    simp [f19, h, bin_rem _ _ _ (show n ≠ 0 by omega)]
end Go.Sh.YtkghbcadnbojgaaGreatDoor
