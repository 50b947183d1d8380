/- arena: New, Bytes, Samples, Given, Peak, Mark, Release: what they answer. Conditions: those of each statement. -/
import Derived.Test.YtocijepcfannnaaAF
namespace Go.Sh.Ytocijepcfannnaa
open Go Go.Proofs Go.RowKit
set_option linter.unusedVariables false
set_option linter.unusedSimpArgs false
noncomputable abbrev C := R noPrim

theorem neq4 (x y : Operand) (a b : Bool) : prun Try.prog (do eqGuard .neq 4 x y (.bool a) (.bool b); binOp .neq 4 (.bool a) (.bool b)) = some (.bool (!(a == b))) := id (by kernel_rfl)
/-- an arena: its limit, what is given, what was at most -/
def Ar (w : World) (b : Nat) (m g k : Int) : Prop := Blk w b 65 [.int .i64 m, .int .i64 g, .int .i64 k]
theorem build65 (m : Int) : prun Try.prog (Instr.build 65 #[(0, .int .i64 m)]) = some (.agg #[.int .i64 m, .int .i64 0, .int .i64 0]) := id (by kernel_rfl)
theorem max3 (a b : Int) : prun Try.prog (Builtin.max_ #[3, 3] 3 #[.int .i64 a, .int .i64 b]) = some (.int .i64 (if b > a then b else a)) := id (by kernel_rfl)

theorem new_bad (m : Int) (w : World) (h : ¬ (0 ≤ m ∧ m ≤ 1073741824)) : C 12 #[.int .i64 m] w = some (.tuple #[.pointer none, .int .i64 1], w) := by
  refine f12.run rfl ?_
  by_cases h1 : m < 0
  · simp [f12, h1]
  · have h2 : m > 1073741824 := by omega
    simp [f12, h1, h2]
theorem new_ok (m : Int) (w : World) (h0 : 0 ≤ m) (h1 : m ≤ 1073741824) :
    ∃ w', C 12 #[.int .i64 m] w = some (.tuple #[.pointer (some ⟨w.heap.size, 0, none⟩), .int .i64 0], w') ∧ Ar w' w.heap.size m 0 0 ∧ w.grownBy w' none ∧ w'.heap.size = w.heap.size + 1 := by
  have h2 : ¬ m < 0 := by omega
  have h3 : ¬ m > 1073741824 := by omega
  refine ⟨w.alloc (.cells #[.int .i64 m, .int .i64 0, .int .i64 0] 65), f12.run rfl ?_, Blk.new w 65 [.int .i64 m, .int .i64 0, .int .i64 0], World.grownBy_alloc w _ none, by simp⟩
  simp [f12, h2, h3, build65, box_any, Value.cells]

theorem read0 {w : World} {b : Nat} {m g k : Int} (h : Ar w b m g k) : w.cell? ⟨b, 0, none⟩ = some (.int .i64 m) := by rw [h.cell]; rfl
theorem read1 {w : World} {b : Nat} {m g k : Int} (h : Ar w b m g k) : w.cell? ⟨b, 1, none⟩ = some (.int .i64 g) := by rw [h.cell]; rfl
theorem read2 {w : World} {b : Nat} {m g k : Int} (h : Ar w b m g k) : w.cell? ⟨b, 2, none⟩ = some (.int .i64 k) := by rw [h.cell]; rfl
theorem given_ok {w : World} {b : Nat} {m g k : Int} (h : Ar w b m g k) : C 16 #[.pointer (some ⟨b, 0, none⟩)] w = some (.int .i64 g, w) := by
  refine f16.run rfl ?_
  simp [f16, addL, read1 h]
theorem mark_ok {w : World} {b : Nat} {m g k : Int} (h : Ar w b m g k) : C 22 #[.pointer (some ⟨b, 0, none⟩)] w = some (.int .i64 g, w) := by
  refine f22.run rfl ?_
  simp [f22, addL, read1 h]
theorem peak_ok {w : World} {b : Nat} {m g k : Int} (h : Ar w b m g k) : C 23 #[.pointer (some ⟨b, 0, none⟩)] w = some (.int .i64 k, w) := by
  refine f23.run rfl ?_
  simp [f23, addL, read2 h]
theorem release_bad {w : World} {b : Nat} {m g k : Int} (h : Ar w b m g k) (x : Int) (hx : ¬ (0 ≤ x ∧ x ≤ g)) : C 14 #[.pointer (some ⟨b, 0, none⟩), .int .i64 x] w = some (.int .i64 1, w) := by
  refine f14.run rfl ?_
  by_cases h1 : x < 0
  · simp [f14, h1]
  · have h2 : x > g := by omega
    simp [f14, h1, addL, read1 h, h2]
theorem release_ok {w : World} {b : Nat} {m g k : Int} (h : Ar w b m g k) (x : Int) (h0 : 0 ≤ x) (h1 : x ≤ g) :
    ∃ w', C 14 #[.pointer (some ⟨b, 0, none⟩), .int .i64 x] w = some (.int .i64 0, w') ∧ Ar w' b m x k ∧ w.grownBy w' (some b) ∧ w'.heap.size = w.heap.size := by
  have h2 : ¬ x < 0 := by omega
  have h3 : ¬ x > g := by omega
  refine ⟨w.setCell ⟨b, 1, none⟩ (.int .i64 x), f14.run rfl ?_, h.set 1 _, grown_set b 1 _, by simp⟩
  have hs := st3 (v := .int .i64 x) rfl rfl (read1 h) (h.frozen 1)
  simp [f14, h2, addL, read1 h, h3, hs]

/-- give: n bytes -/
theorem bytes_neg {w : World} {b : Nat} {m g k : Int} (n : Int) (hn : n < 0) : C 15 #[.pointer (some ⟨b, 0, none⟩), .int .i64 n] w = some (.tuple #[.slice none 0 0, .int .i64 1], w) := by
  have : C 26 #[.pointer (some ⟨b, 0, none⟩), .int .i64 n, .int .i64 1] w = some (.tuple #[.slice none 0 0, .int .i64 1], w) := by
    refine f26.run rfl ?_
    simp [f26, hn]
  refine f15.run rfl ?_
  simp [f15, this]
theorem bytes_no {w : World} {b : Nat} {m g k : Int} (h : Ar w b m g k) (hg : 0 ≤ g) (hm : g ≤ m) (hM : m ≤ 1073741824) (n : Int) (hn : m - g < n) :
    C 15 #[.pointer (some ⟨b, 0, none⟩), .int .i64 n] w = some (.tuple #[.slice none 0 0, .int .i64 111], w.drew) := by
  have : C 26 #[.pointer (some ⟨b, 0, none⟩), .int .i64 n, .int .i64 1] w = some (.tuple #[.slice none 0 0, .int .i64 111], w.drew) := by
    refine f26.run rfl ?_
    have h1 : ¬ n < 0 := by omega
    have e1 : IntKind.i64.wrap (m - g) = m - g := wrap_i64 (by omega) (by omega)
    have h2 : n > m - g := hn
    simp [f26, h1, addL, read0 h, read1 h, bin_quo, e1, h2]
  refine f15.run rfl ?_
  simp [f15, this]
theorem bytes_ok {w : World} {b : Nat} {m g k : Int} (h : Ar w b m g k) (hg : 0 ≤ g) (hm : g ≤ m) (hM : m ≤ 1073741824) (n : Nat) (hn : n ≤ m - g) :
    ∃ B w', C 15 #[.pointer (some ⟨b, 0, none⟩), .int .i64 n] w = some (.tuple #[.slice (some ⟨B, 0, none⟩) n n, .int .i64 0], w') ∧ Ar w' b m (g + n) (max k (g + n)) ∧
      Blk w' B 5 (List.replicate n (.int .u8 0)) ∧ w.heap.size ≤ B ∧ w.grownBy w' (some b) := by
  have e1 : IntKind.i64.wrap (m - g) = m - g := wrap_i64 (by omega) (by omega)
  have e2 : IntKind.i64.wrap (n : Int) = n := wrap_i64 (by omega) (by omega)
  have e3 : IntKind.i64.wrap (g + n) = g + n := wrap_i64 (by omega) (by omega)
  have n1 : ¬ (n : Int) < 0 := by omega
  have n2 : ¬ (n : Int) > m - g := by omega
  have mx : (if g + (n : Int) > k then g + (n : Int) else k) = max k (g + n) := by omega
  obtain ⟨W1, hW1⟩ : ∃ W1, W1 = w.drew.setCell ⟨b, 1, none⟩ (.int .i64 (g + n)) := ⟨_, rfl⟩
  have s1 := st3 (v := .int .i64 (g + n)) rfl rfl (read1 (h := h.drew)) (h.drew.frozen 1)
  have A1 : Ar W1 b m (g + n) k := hW1 ▸ h.drew.set 1 _
  have G1 : w.grownBy W1 (some b) := hW1 ▸ grown_step (grown_drew w _) (grown_set b 1 _)
  rw [← hW1] at s1
  obtain ⟨W2, hW2⟩ : ∃ W2, W2 = W1.drew.setCell ⟨b, 2, none⟩ (.int .i64 (max k (g + n))) := ⟨_, rfl⟩
  have s2 := st3 (v := .int .i64 (max k (g + n))) rfl rfl (read2 (h := A1.drew)) (A1.drew.frozen 2)
  have A2 : Ar W2 b m (g + n) (max k (g + n)) := hW2 ▸ A1.drew.set 2 _
  have G2 : w.grownBy W2 (some b) := hW2 ▸ grown_step G1 (grown_step (grown_drew W1 _) (grown_set b 2 _))
  rw [← hW2] at s2
  obtain ⟨w3, m1, m2, m3⟩ := mk23 (w := W2) W2.heap.size n (by omega) (by simp [maxLen]; omega) (Nat.le_refl _)
  have hsl := sl23 (some ⟨W2.heap.size, 0, none⟩) n n none (some (.int .i64 n)) (some (.int .i64 n)) 0 n n (by
    have := bounds_himax (P := Try.prog) n n .i64 .i64 n n (by omega) (by omega) (by omega)
    rw [this]; rfl)
  have hb2 := A2.lt
  refine ⟨W2.heap.size, w3, ?_, A2.grown m3 (by simp), ?_, G2.size, grown_step G2 (grown_weak m3 _)⟩
  · have : C 26 #[.pointer (some ⟨b, 0, none⟩), .int .i64 n, .int .i64 1] w = some (.tuple #[.slice (some ⟨W2.heap.size, 0, none⟩) n n, .int .i64 0], w3) := by
      refine f26.run rfl ?_
      simp [f26, n1, n2, addL, read0 h, read1 h, bin_quo, e1, e2, e3, s1, read1 A1, read2 A1, max3, mx, s2, m1, hsl]
    refine f15.run rfl ?_
    simp [f15, this]
  · have := own_blk m2
    simpa [toList_madeCells_one, Value.cells] using this
/-- give: n samples -/
theorem samples_neg {w : World} {b : Nat} {m g k : Int} (n : Int) (hn : n < 0) : C 13 #[.pointer (some ⟨b, 0, none⟩), .int .i64 n] w = some (.tuple #[.slice none 0 0, .int .i64 1], w) := by
  have : C 25 #[.pointer (some ⟨b, 0, none⟩), .int .i64 n, .int .i64 2] w = some (.tuple #[.slice none 0 0, .int .i64 1], w) := by
    refine f25.run rfl ?_
    simp [f25, hn]
  refine f13.run rfl ?_
  simp [f13, this]
theorem samples_no {w : World} {b : Nat} {m g k : Int} (h : Ar w b m g k) (hg : 0 ≤ g) (hm : g ≤ m) (hM : m ≤ 1073741824) (n : Int) (hn : m - g < 2 * n) :
    C 13 #[.pointer (some ⟨b, 0, none⟩), .int .i64 n] w = some (.tuple #[.slice none 0 0, .int .i64 111], w.drew) := by
  have : C 25 #[.pointer (some ⟨b, 0, none⟩), .int .i64 n, .int .i64 2] w = some (.tuple #[.slice none 0 0, .int .i64 111], w.drew) := by
    refine f25.run rfl ?_
    have h1 : ¬ n < 0 := by omega
    have e1 : IntKind.i64.wrap (m - g) = m - g := wrap_i64 (by omega) (by omega)
    have e2 : IntKind.i64.wrap ((m - g).tdiv 2) = (m - g) / 2 := by rw [Int.tdiv_eq_ediv_of_nonneg (by omega)]; exact wrap_i64 (by omega) (by omega)
    have h2 : n > (m - g) / 2 := by omega
    simp [f25, h1, addL, read0 h, read1 h, bin_quo, e1, e2, h2]
  refine f13.run rfl ?_
  simp [f13, this]
theorem samples_ok {w : World} {b : Nat} {m g k : Int} (h : Ar w b m g k) (hg : 0 ≤ g) (hm : g ≤ m) (hM : m ≤ 1073741824) (n : Nat) (hn : 2 * (n : Int) ≤ m - g) :
    ∃ B w', C 13 #[.pointer (some ⟨b, 0, none⟩), .int .i64 n] w = some (.tuple #[.slice (some ⟨B, 0, none⟩) n n, .int .i64 0], w') ∧ Ar w' b m (g + 2 * n) (max k (g + 2 * n)) ∧
      Blk w' B 43 (List.replicate n (.int .u16 0)) ∧ w.heap.size ≤ B ∧ w.grownBy w' (some b) := by
  have e1 : IntKind.i64.wrap (m - g) = m - g := wrap_i64 (by omega) (by omega)
  have e2 : IntKind.i64.wrap ((n : Int) * 2) = 2 * n := by rw [Int.mul_comm]; exact wrap_i64 (by omega) (by omega)
  have e4 : IntKind.i64.wrap ((m - g).tdiv 2) = (m - g) / 2 := by rw [Int.tdiv_eq_ediv_of_nonneg (by omega)]; exact wrap_i64 (by omega) (by omega)
  have e3 : IntKind.i64.wrap (g + 2 * n) = g + 2 * n := wrap_i64 (by omega) (by omega)
  have n1 : ¬ (n : Int) < 0 := by omega
  have n2 : ¬ (n : Int) > (m - g) / 2 := by omega
  have mx : (if g + 2 * (n : Int) > k then g + 2 * (n : Int) else k) = max k (g + 2 * n) := by omega
  obtain ⟨W1, hW1⟩ : ∃ W1, W1 = w.drew.setCell ⟨b, 1, none⟩ (.int .i64 (g + 2 * n)) := ⟨_, rfl⟩
  have s1 := st3 (v := .int .i64 (g + 2 * n)) rfl rfl (read1 (h := h.drew)) (h.drew.frozen 1)
  have A1 : Ar W1 b m (g + 2 * n) k := hW1 ▸ h.drew.set 1 _
  have G1 : w.grownBy W1 (some b) := hW1 ▸ grown_step (grown_drew w _) (grown_set b 1 _)
  rw [← hW1] at s1
  obtain ⟨W2, hW2⟩ : ∃ W2, W2 = W1.drew.setCell ⟨b, 2, none⟩ (.int .i64 (max k (g + 2 * n))) := ⟨_, rfl⟩
  have s2 := st3 (v := .int .i64 (max k (g + 2 * n))) rfl rfl (read2 (h := A1.drew)) (A1.drew.frozen 2)
  have A2 : Ar W2 b m (g + 2 * n) (max k (g + 2 * n)) := hW2 ▸ A1.drew.set 2 _
  have G2 : w.grownBy W2 (some b) := hW2 ▸ grown_step G1 (grown_step (grown_drew W1 _) (grown_set b 2 _))
  rw [← hW2] at s2
  obtain ⟨w3, m1, m2, m3⟩ := mk37 (w := W2) W2.heap.size n (by omega) (by simp [maxLen]; omega) (Nat.le_refl _)
  have hsl := sl37 (some ⟨W2.heap.size, 0, none⟩) n n none (some (.int .i64 n)) (some (.int .i64 n)) 0 n n (by
    have := bounds_himax (P := Try.prog) n n .i64 .i64 n n (by omega) (by omega) (by omega)
    rw [this]; rfl)
  have hb2 := A2.lt
  refine ⟨W2.heap.size, w3, ?_, A2.grown m3 (by simp), ?_, G2.size, grown_step G2 (grown_weak m3 _)⟩
  · have : C 25 #[.pointer (some ⟨b, 0, none⟩), .int .i64 n, .int .i64 2] w = some (.tuple #[.slice (some ⟨W2.heap.size, 0, none⟩) n n, .int .i64 0], w3) := by
      refine f25.run rfl ?_
      simp [f25, n1, n2, addL, read0 h, read1 h, bin_quo, e1, e4, e2, e3, s1, read1 A1, read2 A1, max3, mx, s2, m1, hsl]
    refine f13.run rfl ?_
    simp [f13, this]
  · have := own_blk m2
    simpa [toList_madeCells_one, Value.cells] using this

theorem full_ok {w : World} {A : Option Addr} {n cp : Nat} {c : Int} (hn : n ≤ maxLen) (h : Rd w A (List.replicate n (.int .u8 c))) : C 18 #[.slice A n cp, .int .u8 c] w = some (.bool true, w) := by
  refine f18.run rfl ?_
  simp only [maxLen] at hn
  have hl : iter (f18.l0 C) [.slice A n cp, .int .u8 c, .int .i64 0] w = some (.exit 0 [] w) := by
    refine iter_up n (fun i => [.slice A n cp, .int .u8 c, .int .i64 i]) (by simp) (fun i hi => ?_) ?_
    · cases A with
      | none => have h' : List.replicate n (Value.int .u8 c) = [] := h; simp at h'; omega
      | some a =>
        have hc : w.cell? (a.add i) = some (.int .u8 c) := h i _ (by simp [List.getElem?_replicate, hi])
        have hx := ix23 a n cp .i64 i (by omega) (by omega)
        simp only [Int.toNat_natCast, Nat.mul_one] at hx
        have e1 : IntKind.i64.wrap ((i : Int) + 1) = i + 1 := wrap_i64 (by omega) (by omega)
        simp [f18.l0, hi, hx, hc, e1]
    · simp [f18.l0]
  simp [f18, hl]

theorem fulls_ok {w : World} {A : Option Addr} {n cp : Nat} {c : Int} (hn : n ≤ maxLen) (h : Rd w A (List.replicate n (.int .u16 c))) : C 17 #[.slice A n cp, .int .u16 c] w = some (.bool true, w) := by
  refine f17.run rfl ?_
  simp only [maxLen] at hn
  have hl : iter (f17.l0 C) [.slice A n cp, .int .u16 c, .int .i64 0] w = some (.exit 0 [] w) := by
    refine iter_up n (fun i => [.slice A n cp, .int .u16 c, .int .i64 i]) (by simp) (fun i hi => ?_) ?_
    · cases A with
      | none => have h' : List.replicate n (Value.int .u16 c) = [] := h; simp at h'; omega
      | some a =>
        have hc : w.cell? (a.add i) = some (.int .u16 c) := h i _ (by simp [List.getElem?_replicate, hi])
        have hx := ix37 a n cp .i64 i (by omega) (by omega)
        simp only [Int.toNat_natCast, Nat.mul_one] at hx
        have e1 : IntKind.i64.wrap ((i : Int) + 1) = i + 1 := wrap_i64 (by omega) (by omega)
        simp [f17.l0, hi, hx, hc, e1]
    · simp [f17.l0]
  simp [f17, hl]

theorem pick_ok (c : Int) (n : Int) (hn : 0 < n) (hN : n ≤ 9223372036854775807) (hc : -9223372036854775808 ≤ c) (hc' : c ≤ 9223372036854775807) (w : World) :
    ∃ r : Int, C 11 #[.int .i64 c, .int .i64 n] w = some (.int .i64 r, w) ∧ 0 ≤ r ∧ r < n := by
  by_cases h : c < 0
  · have e1 : IntKind.i64.wrap (c + 1) = c + 1 := wrap_i64 (by omega) (by omega)
    have e2 : IntKind.i64.wrap (0 - (c + 1)) = -(c + 1) := by rw [Int.zero_sub]; exact wrap_i64 (by omega) (by omega)
    refine ⟨(-(c + 1)).tmod n, f11.run rfl ?_, Int.tmod_nonneg _ (by omega), Int.tmod_lt_of_pos _ hn⟩
    simp only [f11, bin_lss, h, decide_true, Option.bind_some, asB_bool, if_true, bin_add, e1, un_neg, e2, cont_norm, nth_zero, nth_succ]
    simp [bin_rem _ _ _ (show n ≠ 0 by omega)]
  · refine ⟨c.tmod n, f11.run rfl ?_, Int.tmod_nonneg _ (by omega), Int.tmod_lt_of_pos _ hn⟩
    simp [f11, h, bin_rem _ _ _ (show n ≠ 0 by omega)]

theorem awake_ok (w : World) : ∃ w', C 10 #[] w = some (.bool true, w') ∧ w.grownBy w' none := by
  obtain ⟨w1, h1, a1, g1, z1⟩ := new_ok 10 w (by omega) (by omega)
  obtain ⟨B, w2, h2, a2, b2, s2, g2⟩ := bytes_ok a1 (by omega) (by omega) (by omega) 4 (by omega)
  obtain ⟨D, w3, h3, a3, b3, s3, g3⟩ := samples_ok a2 (by omega) (by omega) (by omega) 3 (by omega)
  have h4 := bytes_no a3 (by omega) (by omega) (by omega) 1 (by omega)
  have h5 := given_ok (w := w3.drew) a3
  refine ⟨w3.drew, f10.run rfl ?_, grown_new (grown_new g1 g2 (Nat.le_refl _)) (grown_step g3 (grown_drew _ _)) (Nat.le_refl _)⟩
  simp at h2 h3 h4
  simp [f10, h1, h2, h3, h4, h5]
end Go.Sh.Ytocijepcfannnaa
