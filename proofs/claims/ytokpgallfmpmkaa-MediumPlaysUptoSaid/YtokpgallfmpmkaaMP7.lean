/- medium: the document's medium, goes on: Append, Overwrite, Truncate, Load, Read, pieces. Conditions: those of each statement. -/
import Derived.Test.YtokpgallfmpmkaaMP6
namespace Go.Sh.Ytokpgallfmpmkaa
open Go Go.Proofs Go.RowKit
set_option linter.unusedVariables false
set_option linter.unusedSimpArgs false
set_option maxRecDepth 100000
section
variable {W w : World} {X : Asn W.heap.size} {R P : Nat} {s : Pm}
/-- more bytes behind those of the block's first cell -/
theorem _root_.Go.Sh.Sat.more {B L : Value} {cs : List Value} {l : List UInt8} (y : Sat W (blkA R 87 (B :: cs) * (rowA 5 1 B l.length (bv l) * X)) w) {A : Option Addr} {m c : Nat} {z : List UInt8} (hz : z.length = m) (hr : Rd w A (bv z)) (hnil : A = none → c = 0) (hn : l.length + m ≤ 268435456) :
    ∃ B' w1 w2, erun Try.prog (Builtin.append_ #[22, 22] 22 #[B, .slice A m c]) w = some (B', w1) ∧ erun Try.prog (Instr.storeAt 22 (.pointer (some ⟨R, 0, none⟩)) B') w1 = some ((), w2) ∧ Sat W (blkA R 87 (B' :: cs) * (rowA 5 1 B' (l ++ z).length (bv (l ++ z)) * X)) w2 := by
  obtain ⟨B', w1, h1, y1, _⟩ := y.swap.app22 hz hr hnil (by omega)
  obtain ⟨A1, c1, rfl, _⟩ := own_form y1.row
  have y2 := y1.swap
  have s1 := st22 (v := .slice A1 (l.length + m) c1) rfl rfl (y2.cell 0 rfl) (y2.frozen 0)
  have y3 := y2.store 0 (.slice A1 (l.length + m) c1) rfl
  refine ⟨_, w1, _, h1, s1, y3.eq ?_⟩
  rw [List.length_append, hz]
  rfl
theorem r_append (x : Sat W (rmedA R s * X) w) (hf : s.fit) {A : Option Addr} {n c : Nat} {z : List UInt8} (hz : z.length = n) (hr : Rd W A (bv z)) (hc : n ≤ c) (hnil : A = none → c = 0) (hn : s.l.length + n ≤ 268435456) :
    ∃ w', C 35 #[.pointer (some ⟨R, 0, none⟩), .slice A n c] w = some (.tuple #[.int .i64 (s.append z).1, .int .i64 (s.append z).2.1], w') ∧ Sat W (rmedA R (s.append z).2.2 * X) w' := by
  obtain ⟨B, L, y⟩ := x.rmed
  obtain ⟨A0, c0, rfl, _⟩ := own_form y.swap.row
  have hr1 := x.rd hr
  have ha0 := hf.a0
  have ha1 := hf.a1
  have hk0 := hf.k0
  have hk1 := hf.k1
  have c1 := y.cell 1 rfl
  cases hd : s.dead with
  | true =>
    rw [hd] at c1
    refine ⟨w, f35.run rfl ?_, by simpa [Pm.append, hd] using x⟩
    simp [f35, addL, c1, Pm.append, hd]
  | false =>
    rw [hd] at c1
    have e1 : IntKind.i64.wrap (268435456 - (s.l.length : Int)) = 268435456 - s.l.length := wrap_i64 (by omega) (by omega)
    by_cases ha : s.armed = 1
    · have c2 := y.cell 2 rfl
      rw [ha] at c2
      obtain ⟨q, hq⟩ : ∃ q : Nat, q = min s.keep.toNat n := ⟨_, rfl⟩
      have hsl := sl22 A n c none (some (.int .i64 q)) none 0 q c (by
        have := bounds_hi (P := Try.prog) n c .i64 q (by omega) (by omega)
        rw [this]; rfl)
      have hz' : z.take q = z.take s.keep.toNat := by
        rw [hq, ← hz]
        by_cases hle : s.keep.toNat ≤ z.length
        · rw [Nat.min_eq_left hle]
        · rw [Nat.min_eq_right (by omega), List.take_length, List.take_of_length_le (by omega)]
      obtain ⟨B', w1, w2, h1, h2, y2⟩ := (y.drew).more (A := A) (c := c) (m := q) (z := z.take q) (L := L) (by rw [List.length_take]; omega) (by rw [bv_take]; exact (x.drew.rd hr).take q) hnil (by omega)
      have s3 := st4 (v := .bool true) rfl rfl (y2.cell 1 rfl) (y2.frozen 1)
      have y3 := y2.store 1 (.bool true) rfl
      have s4 := st3 (v := .int .i64 0) rfl rfl (y3.cell 2 rfl) (y3.frozen 2)
      have y4 := y3.store 2 (.int .i64 0) rfl
      have yf : Sat W (rmedA R (s.append z).2.2 * X) _ := Sat.toRmed (B := B') (L := L) (s := (s.append z).2.2) (y4.eq (by
        simp only [Pm.append, hd, ha, Bool.false_eq_true, if_false, if_true]
        rw [← hz']
        rfl))
      refine ⟨_, f35.run rfl ?_, yf⟩
      by_cases hkn : s.keep > n
      · obtain rfl : q = n := by omega
        simp (disch := omega) [f35, addL, c1, y.cell 0 rfl, c2, (y.drew).cell 0 rfl, y.cell 3 rfl, e1, lt_f, lt_t, hkn, hsl, h1, h2, s3, s4, chkThen, Pm.append, hd, ha]
      · have hqk : s.keep = (q : Int) := by omega
        have c3 := y.cell 3 rfl
        rw [hqk] at c3
        have hkn' : ¬ (q : Int) > n := by omega
        simp (disch := omega) [f35, addL, c1, y.cell 0 rfl, c2, c3, (y.drew).cell 0 rfl, e1, lt_f, hsl, h1, h2, s3, s4, chkThen, Pm.append, hd, ha]
    · by_cases hz0 : s.armed = 0
      · have c2 := y.cell 2 rfl
        rw [hz0] at c2
        obtain ⟨B', w1, w2, h1, h2, y2⟩ := y.more (A := A) (c := c) (m := n) (z := z) (L := L) hz hr1 hnil (by omega)
        have yf : Sat W (rmedA R (s.append z).2.2 * X) w2 := Sat.toRmed (B := B') (L := L) (s := (s.append z).2.2) (y2.eq (by
          simp only [Pm.append, hd, ha, hz0, Bool.false_eq_true, if_false, if_true]
          rfl))
        refine ⟨_, f35.run rfl ?_, yf⟩
        simp (disch := omega) [f35, addL, c1, y.cell 0 rfl, c2, e1, lt_f, h1, h2, Pm.append, hd, ha]
      · have c2 := y.cell 2 rfl
        have e2 : IntKind.i64.wrap (s.armed - 1) = s.armed - 1 := wrap_i64 (by omega) (by omega)
        have s1 := st3 (v := .int .i64 (s.armed - 1)) rfl rfl (y.cell 2 rfl) (y.frozen 2)
        have y1 := y.store 2 (.int .i64 (s.armed - 1)) rfl
        obtain ⟨B', w1, w2, h1, h2, y2⟩ := y1.more (A := A) (c := c) (m := n) (z := z) (L := L) hz (y1.rd hr) hnil (by omega)
        have yf : Sat W (rmedA R (s.append z).2.2 * X) w2 := Sat.toRmed (B := B') (L := L) (s := (s.append z).2.2) (y2.eq (by
          simp only [Pm.append, hd, ha, hz0, Bool.false_eq_true, if_false]
          rfl))
        refine ⟨_, f35.run rfl ?_, yf⟩
        simp (disch := omega) [f35, addL, c1, y.cell 0 rfl, y1.cell 0 rfl, c2, e1, e2, ha, lt_f, lt_t, s1, h1, h2, Pm.append, hd, ha]
theorem r_cut (x : Sat W (rmedA R s * X) w) (hf : s.fit) (n : Int) : ∃ w', C 41 #[.pointer (some ⟨R, 0, none⟩), .int .i64 n] w = some (.int .i64 (s.cut n).1, w') ∧ Sat W (rmedA R (s.cut n).2 * X) w' := by
  obtain ⟨B, L, y⟩ := x.rmed
  obtain ⟨A0, c0, rfl, hc0, _⟩ := own_form y.swap.row
  have hl := hf.l
  by_cases hn : 0 ≤ n ∧ n ≤ s.l.length
  · obtain ⟨m, rfl⟩ : ∃ m : Nat, n = m := ⟨n.toNat, by omega⟩
    have hm : m ≤ s.l.length := by omega
    have hsl := sl22 A0 s.l.length c0 none (some (.int .i64 m)) none 0 m c0 (by
      have := bounds_hi (P := Try.prog) s.l.length c0 .i64 m (by omega) (by omega)
      rw [this]; rfl)
    obtain ⟨v, w1, h1, y1⟩ := y.again22 (m := m) (c := c0) (A := A0) (y := s.l.take m) (by rw [List.length_take]; omega) (by rw [bv_take]; exact (Rd.owned y.swap.row).take m) (own_nil y.swap.row) (by omega)
    obtain ⟨A1, c1, rfl, _⟩ := own_form y1.row
    have y2 : Sat W (blkA R 87 [.slice A0 s.l.length c0, .bool s.dead, .int .i64 s.armed, .int .i64 s.keep, L] * (rowA 5 1 (.slice A1 m c1) m (bv (s.l.take m)) * (rowA 40 2 L s.g.length (sc s.g) * X))) w1 :=
      (y1.eq (by ac_rfl : _ = rowA 5 1 (.slice A0 s.l.length c0) s.l.length (bv s.l) * (blkA R 87 [.slice A0 s.l.length c0, .bool s.dead, .int .i64 s.armed, .int .i64 s.keep, L] * (rowA 5 1 (.slice A1 m c1) m (bv (s.l.take m)) * (rowA 40 2 L s.g.length (sc s.g) * X))))).right
    have s1 := st22 (v := .slice A1 m c1) rfl rfl (y2.cell 0 rfl) (y2.frozen 0)
    have y3 := y2.store 0 (.slice A1 m c1) rfl
    have hlen : (s.l.take m).length = m := by rw [List.length_take]; omega
    refine ⟨_, f41.run rfl ?_, Sat.toRmed (s := (s.cut m).2) (B := .slice A1 m c1) (L := L) (y3.eq (by simp only [Pm.cut, hn, and_self, if_true, Int.toNat_natCast]; rw [hlen]; rfl))⟩
    have hn1 : ¬ (m : Int) < 0 := by omega
    have hn2 : ¬ (m : Int) > (s.l.length : Int) := by omega
    have cB := (y.alloc_ge (.cells #[] 5)).cell 0 rfl
    simp at hsl
    simp [f41, addL, hn1, y.cell 0 rfl, hn2, cB, hsl, h1, s1, Pm.cut, hm]
  · refine ⟨w, f41.run rfl ?_, by simpa [Pm.cut, hn] using x⟩
    by_cases h0 : n < 0
    · simp [f41, addL, h0, Pm.cut, hn]
    · have h2 : n > (s.l.length : Int) := by omega
      simp [f41, addL, h0, y.cell 0 rfl, h2, Pm.cut, hn]
theorem r_load (x : Sat W X w) {A : Option Addr} {n c : Nat} {z : List UInt8} (hz : z.length = n) (hr : Rd W A (bv z)) (hnil : A = none → c = 0) (hn : n ≤ 268435456) :
    ∃ R w', C 44 #[.slice A n c] w = some (.tuple #[.pointer (some ⟨R, 0, none⟩), .int .i64 0], w') ∧ Sat W (rmedA R ⟨z, false, 0, 0, []⟩ * X) w' := by
  obtain ⟨v, w1, h1, y1⟩ := x.again22 (m := n) (c := c) (A := A) (y := z) hz (x.rd hr) hnil (by omega)
  obtain ⟨A1, c1, rfl, _⟩ := own_form y1.row
  have y2 := (y1.nilRow 40 2).swap.newBlk 87 [.slice A1 n c1, .bool false, .int .i64 0, .int .i64 0, .slice none 0 0]
  refine ⟨w1.heap.size, _, f44.run rfl ?_, Sat.toRmed (s := ⟨z, false, 0, 0, []⟩) (B := .slice A1 n c1) (L := .slice none 0 0) (y2.eq (by rw [← hz]; rfl))⟩
  simp (disch := omega) [f44, lt_f, h1, build87b, box_any, Value.cells]
theorem r_piece (x : Sat W (rmedA R s * X) w) (hf : s.fit) (i k : Nat) (hik : i + k ≤ s.l.length) : ∃ P w', C 43 #[.pointer (some ⟨R, 0, none⟩), .agg #[.int .i64 i, .int .i64 k]] w = some (.tuple #[.pointer (some ⟨P, 0, none⟩), .int .i64 0], w') ∧ Sat W (rpcA P R i k * (rmedA R s * X)) w' := by
  have hl := hf.l
  have x1 := x.newBlk 40 [.int .i64 i, .int .i64 k]
  have y0 := x1
  obtain ⟨B, L, y⟩ := x1.swap.rmed
  obtain ⟨A0, c0, rfl, _⟩ := own_form y.swap.row
  have hli := rlies_ok i k s.l.length (by omega) (by omega) (w.alloc (.cells [.int .i64 i, .int .i64 k].toArray 40)).drew
  rw [decide_eq_true (show ((0 : Int) ≤ i ∧ (0 : Int) ≤ k ∧ (i : Int) ≤ s.l.length ∧ (k : Int) ≤ s.l.length - i) by omega)] at hli
  have y0c := y0.cell 0 rfl
  have y0d := y0.cell 1 rfl
  have yc := y.cell 0 rfl
  have hld := ld40 (w := (w.alloc (.cells [.int .i64 i, .int .i64 k].toArray 40)).drew) (a := ⟨w.heap.size, 0, none⟩) (v0 := .int .i64 i) (v1 := .int .i64 k) (by rw [addL]; exact y0.cell 0 rfl) (by rw [addL]; exact y0.cell 1 rfl)
  have y2 := y0.drew.newBlk 104 [.pointer (some ⟨R, 0, none⟩), .int .i64 i, .int .i64 k]
  refine ⟨_, _, f43.run rfl ?_, y2.drop2⟩
  simp [f43, box_any, Value.cells, addL, y0c, y0d, yc, hli, bool_not, hld, build104]
theorem r_piece_out (x : Sat W (rmedA R s * X) w) (hf : s.fit) (i k : Int) (hik : ¬ inr i k s.l.length) : ∃ w', C 43 #[.pointer (some ⟨R, 0, none⟩), .agg #[.int .i64 i, .int .i64 k]] w = some (.tuple #[.pointer none, .int .i64 151], w') ∧ Sat W (rmedA R s * X) w' := by
  have hl := hf.l
  have x1 := x.newBlk 40 [.int .i64 i, .int .i64 k]
  have y0 := x1
  obtain ⟨B, L, y⟩ := x1.swap.rmed
  obtain ⟨A0, c0, rfl, _⟩ := own_form y.swap.row
  have hli := rlies_ok i k s.l.length (by omega) (by omega) (w.alloc (.cells [.int .i64 i, .int .i64 k].toArray 40)).drew
  rw [decide_eq_false (show ¬ (0 ≤ i ∧ 0 ≤ k ∧ i ≤ s.l.length ∧ k ≤ s.l.length - i) from hik)] at hli
  have y0c := y0.cell 0 rfl
  have y0d := y0.cell 1 rfl
  have yc := y.cell 0 rfl
  refine ⟨_, f43.run rfl ?_, y0.drew.right⟩
  simp [f43, box_any, Value.cells, addL, y0c, y0d, yc, hli, bool_not]
theorem r_psize {M a n : Nat} (x : Sat W (rpcA P M a n * X) w) : C 56 #[.pointer (some ⟨P, 0, none⟩)] w = some (.int .i64 n, w) := by
  refine f56.run rfl ?_
  simp [f56, addL, x.cell 2 rfl]
theorem r_read (x : Sat W (rmedA R s * X) w) (hf : s.fit) (i k : Int) : ∃ v w', C 48 #[.pointer (some ⟨R, 0, none⟩), .int .i64 i, .int .i64 k] w = some (.tuple #[v, .int .i64 (s.read i k).2.1], w') ∧ Sat W (rowA 5 1 v (s.read i k).1.length (bv (s.read i k).1) * (rmedA R (s.read i k).2.2 * X)) w' := by
  obtain ⟨B, L, y⟩ := x.rmed
  obtain ⟨A0, c0, rfl, hc0, _⟩ := own_form y.swap.row
  have hl := hf.l
  have hg := hf.g
  have c1 := y.cell 1 rfl
  cases hd : s.dead with
  | true =>
    rw [hd] at c1
    refine ⟨_, w, f48.run rfl ?_, by simpa [Pm.read, hd, bv] using x.nilRow 5 1⟩
    simp [f48, addL, c1, Pm.read, hd]
  | false =>
    rw [hd] at c1
    have hli := rlies_ok i k s.l.length (by omega) (by omega) w
    by_cases hi : inr i k s.l.length
    · rw [decide_eq_true (show (0 ≤ i ∧ 0 ≤ k ∧ i ≤ s.l.length ∧ k ≤ s.l.length - i) from hi)] at hli
      obtain ⟨a, b, rfl, rfl, hab⟩ := inr_nat hi
      have xb := y.newBlk 40 [.int .i64 a, .int .i64 b]
      have yb := xb.right
      have r1 : Rd (w.alloc (.cells [.int .i64 a, .int .i64 b].toArray 40)) (some ⟨w.heap.size, 0, none⟩) (sc [((a : Int), (b : Int))]) := by
        intro j v hj
        rw [addL, Nat.zero_add, World.cell?_alloc_new]
        simpa [sc] using hj
      obtain ⟨L', w2, h2, y2, _⟩ := yb.swap3.app41 (m := 1) (c := 1) (y := [((a : Int), (b : Int))]) rfl r1 (fun h => by cases h) (by omega)
      obtain ⟨A2, c2, rfl, _⟩ := own_form y2.row
      have y3 := y2.back3
      have s1 := st41 (v := .slice A2 (s.g.length + 1) c2) rfl rfl (y3.cell 4 rfl) (y3.frozen 4)
      have y4 := y3.store 4 (.slice A2 (s.g.length + 1) c2) rfl
      obtain ⟨W4, hW4⟩ : ∃ W4, W4 = w2.setCell ⟨R, 4, none⟩ (.slice A2 (s.g.length + 1) c2) := ⟨_, rfl⟩
      rw [← hW4] at s1 y4
      have e2 : IntKind.i64.wrap ((a : Int) + b) = a + b := wrap_i64 (by omega) (by omega)
      have hsl := sl22 A0 s.l.length c0 (some (.int .i64 a)) (some (.int .i64 ((a : Int) + b))) none a (a + b) c0 (by
        have := bounds_lohi (P := Try.prog) s.l.length c0 .i64 .i64 a ((a : Int) + b) (by omega) (by omega) (by omega)
        rw [this]; congr 2)
      have rr := (Rd.owned y4.swap.row).sliced a (a + b) c0 1 (by omega) (by omega)
      have e3 : ((bv s.l).drop (a * 1)).take ((a + b - a) * 1) = bv ((s.l.drop a).take b) := by rw [show (a + b - a) * 1 = b by omega, Nat.mul_one, bv_take, bv_drop]
      have e4 : a + b - a = b := by omega
      rw [e3] at rr
      rw [e4] at hsl
      have hlen : ((s.l.drop a).take b).length = b := by simp; omega
      obtain ⟨v, w5, h5, y5⟩ := y4.again22 (m := b) (c := c0 - a) (y := (s.l.drop a).take b) hlen rr (sliced_nil (own_nil y4.swap.row) (Nat.le_refl _)) (by omega)
      have cB := (y4.alloc_ge (.cells #[] 5)).cell 0 rfl
      have ed : (c1 = c1) := rfl
      refine ⟨v, w5, f48.run rfl ?_, ?_⟩
      · simp only [Nat.mul_one] at hsl h5
        have h2' : erun Try.prog (Builtin.append_ #[41, 41] 41 #[L, .slice (some ⟨w.heap.size, 0, none⟩) 1 1]) (w.alloc (.cells #[.int .i64 a, .int .i64 b] 40)) = some (.slice A2 (s.g.length + 1) c2, w2) := h2
        simp [f48, addL, c1, y.cell 0 rfl, hli, bool_not, y.cell 4 rfl, build40, bs41_1, h2', s1, cB, e2, hsl, h5, Pm.read, hd, hi]
      · simp only [Pm.read, hd, hi, Bool.false_eq_true, if_false, if_true, Int.toNat_natCast]
        rw [hlen]
        have hgl : (s.g ++ [((a : Int), (b : Int))]).length = s.g.length + 1 := by simp
        have y6 : Sat W (blkA R 87 [.slice A0 s.l.length c0, .bool s.dead, .int .i64 s.armed, .int .i64 s.keep, .slice A2 (s.g.length + 1) c2] * (rowA 5 1 (.slice A0 s.l.length c0) s.l.length (bv s.l) * (rowA 40 2 (.slice A2 (s.g.length + 1) c2) (s.g ++ [((a : Int), (b : Int))]).length (sc (s.g ++ [((a : Int), (b : Int))])) * (rowA 5 1 v b (bv ((s.l.drop a).take b)) * X)))) w5 := y5.eq (by rw [hgl]; ac_rfl)
        have y7 := (Sat.toRmed (s := { s with g := s.g ++ [((a : Int), (b : Int))] }) y6).swap
        rw [hd] at y7
        exact y7
    · rw [decide_eq_false (show ¬ (0 ≤ i ∧ 0 ≤ k ∧ i ≤ s.l.length ∧ k ≤ s.l.length - i) from hi)] at hli
      refine ⟨_, w, f48.run rfl ?_, by simpa [Pm.read, hd, hi, bv] using x.nilRow 5 1⟩
      simp [f48, addL, c1, y.cell 0 rfl, hli, bool_not, Pm.read, hd, hi]
end
end Go.Sh.Ytokpgallfmpmkaa
