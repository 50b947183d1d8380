/- ViewOf: the law's function answers true. Conditions: its arguments are lists of bytes and of ints. -/
import Derived.Test.YtocijepcfannnaaVW
import Derived.Test.YtocijepcfannnaaShMem
namespace Go.Sh.Ytocijepcfannnaa
open Go Go.Proofs Go.RowKit
set_option linter.unusedVariables false
set_option linter.unusedSimpArgs false

theorem nil_read (x : Value) (cap : Array Value) : nilV Try.prog (.func (.method "Read") #[.iface 63 x] cap) = some (.func (.method "Read") #[.iface 63 x] cap) := id (by kernel_rfl)
theorem neq9 (x y : Operand) (a b : ByteArray) : prun Try.prog (do eqGuard .neq 9 x y (.string a) (.string b); binOp .neq 9 (.string a) (.string b)) = some (.bool (!(a.toList == b.toList))) := id (by kernel_rfl)
theorem neq4 (x y : Operand) (a b : Bool) : prun Try.prog (do eqGuard .neq 4 x y (.bool a) (.bool b); binOp .neq 4 (.bool a) (.bool b)) = some (.bool (!(a == b))) := id (by kernel_rfl)
theorem bs23_1 (k : Int) (w : World) : erun Try.prog (Instr.buildSlice 23 1 #[(0, .int .u8 k)]) w = some (.slice (some ⟨w.heap.size, 0, none⟩) 1 1, w.alloc (.cells #[.int .u8 k] 5)) := id (by kernel_rfl)

/-- the first loop: c's end is filled -/
theorem of_l0 {n : Nat} (hn : n ≤ 140737488351232) {W : World} {b : Nat} (hb : W.heap.size ≤ b) (t0 o1 A2 v7 : Value) {pre : List Value} (hp : pre.length = n) :
    ∀ (d : Nat) (vs : List Value) (w : World), (∃ i, vs = [t0, o1, A2, v7, .slice (some ⟨b, 0, none⟩) (n + 20) (n + 20), .int .i64 ((n + i : Nat) : Int)] ∧ i + d = 20 ∧ Blk w b 5 (pre ++ (List.replicate i (.int .u8 167) ++ List.replicate d (.int .u8 0))) ∧ W.grownBy w none) →
    ∃ r, iter (f4.l0 C) vs w = some r ∧ ∃ w', r = .exit 0 [t0, o1, A2, v7, .slice (some ⟨b, 0, none⟩) (n + 20) (n + 20)] w' ∧ Blk w' b 5 (pre ++ List.replicate 20 (.int .u8 167)) ∧ W.grownBy w' none := by
  refine iter_down _ _ ?_
  rintro d vs w ⟨i, rfl, hi, B, G⟩
  cases d with
  | zero =>
    obtain rfl : i = 20 := by omega
    refine .inr ⟨_, by simp [f4.l0], ⟨w, rfl, by simpa using B, G⟩, by simp⟩
  | succ d =>
    have ix := ix23 ⟨b, 0, none⟩ (n + 20) (n + 20) .i64 (n + i : Nat) (by omega) (by omega)
    simp only [Int.toNat_natCast, Nat.mul_one, addL, Nat.zero_add] at ix
    have st := B.store (P := Try.prog) inf5 size5 (j := n + i) (by simp [hp]) (v := .int .u8 167) rfl rfl
    have e1 : IntKind.i64.wrap (((n + i : Nat) : Int) + 1) = ((n + (i + 1) : Nat) : Int) := (wrap_i64 (by omega) (by omega)).trans (by omega)
    have hlt : ((n + i : Nat) : Int) < ((n + 20 : Nat) : Int) := by omega
    refine .inl ⟨d, _, w.setCell ⟨b, n + i, none⟩ (.int .u8 167), by omega, ?_, ⟨i + 1, rfl, by omega, ?_, grown_new G (grown_set b (n + i) _) hb⟩⟩
    · simp only [f4.l0, nth_zero, nth_succ, len23, Option.bind_some, bin_lss, asB_bool, hlt, decide_true, if_true, ix, st, unblock_norm, cont_norm, bin_add, e1]
    · have := B.set (n + i) (.int .u8 167)
      have e : (pre ++ (List.replicate i (Value.int .u8 167) ++ List.replicate (d + 1) (Value.int .u8 0))).set (n + i) (Value.int .u8 167) = pre ++ (List.replicate (i + 1) (Value.int .u8 167) ++ List.replicate d (Value.int .u8 0)) := by
        have z : n + i - pre.length - (List.replicate i (Value.int .u8 167)).length = 0 := by simp [hp]
        rw [List.set_append_right _ _ (by omega), List.set_append_right _ _ (by simp; omega), z, List.replicate_succ (n := d), List.set_cons_zero, List.replicate_succ' (n := i), List.append_assoc]
        rfl
      rwa [e] at this

/-- the second loop: what is in c is as it must be; it is written over -/
theorem of_l1 {n : Nat} (hn : n ≤ 140737488351232) {W W0 : World} (hW : W.grownBy W0 none) {b : Nat} (hb : W.heap.size ≤ b) {A : Option Addr} {c : Nat} (o1 A2 v10 : Value) {l : List UInt8} (hl : l.length = n) (hr : Rd W A (bv l)) :
    ∀ (d : Nat) (vs : List Value) (w : World), (∃ (i : Nat) (m : List UInt8), vs = [.slice A n c, o1, A2, .slice (some ⟨b, 0, none⟩) (n + 20) (n + 20), v10, .int .i64 i] ∧ i + d = n + 20 ∧ m.length = i ∧ Blk w b 5 (bv (m ++ (l ++ List.replicate 20 167).drop i)) ∧ W0.grownBy w (some b)) →
    ∃ r, iter (f4.l1 C) vs w = some r ∧ ∃ w' m, r = .exit 2 [.slice A n c, o1, A2, .slice (some ⟨b, 0, none⟩) (n + 20) (n + 20), v10] w' ∧ m.length = n + 20 ∧ Blk w' b 5 (bv m) ∧ W0.grownBy w' (some b) := by
  refine iter_down _ _ ?_
  rintro d vs w ⟨i, m, rfl, hi, hm, B, G0⟩
  have G := grown_new hW G0 hb
  cases d with
  | zero =>
    obtain rfl : i = n + 20 := by omega
    refine .inr ⟨_, by simp [f4.l1], ⟨w, m, rfl, hm, ?_, G0⟩, by simp⟩
    rw [List.drop_of_length_le (by simp [hl])] at B
    simpa using B
  | succ d =>
    have ix := ix23 ⟨b, 0, none⟩ (n + 20) (n + 20) .i64 (i : Nat) (by omega) (by omega)
    simp only [Int.toNat_natCast, Nat.mul_one, addL, Nat.zero_add] at ix
    have hL : i < (l ++ List.replicate 20 (167 : UInt8)).length := by simp [hl]; omega
    obtain ⟨x, hx⟩ : ∃ x, x = (l ++ List.replicate 20 (167 : UInt8))[i] := ⟨_, rfl⟩
    have hd : (l ++ List.replicate 20 (167 : UInt8)).drop i = x :: (l ++ List.replicate 20 (167 : UInt8)).drop (i + 1) := by rw [hx]; exact List.drop_eq_getElem_cons hL
    rw [hd] at B
    have hB : i < (bv (m ++ x :: (l ++ List.replicate 20 (167 : UInt8)).drop (i + 1))).length := by simp; omega
    have c0 : w.cell? ⟨b, i, none⟩ = some (.int .u8 x.toNat) := by
      rw [B.cell]
      simp [bv, hm]
    obtain ⟨y, hy⟩ := bits_u8 .xor x.toNat 51
    have st := (B.drew).store (P := Try.prog) inf5 size5 hB (v := .int .u8 y.toNat) rfl rfl
    have e1 : IntKind.i64.wrap ((i : Int) + 1) = ((i + 1 : Nat) : Int) := (wrap_i64 (by omega) (by omega)).trans (by omega)
    refine .inl ⟨d, _, w.drew.setCell ⟨b, i, none⟩ (.int .u8 y.toNat), by omega, ?_, ⟨i + 1, m ++ [y], rfl, by omega, by simp [hm], ?_, grown_step G0 (grown_step (grown_drew _ _) (grown_set b i _))⟩⟩
    · by_cases hin : i < n
      · have hx' : x = l[i]'(by omega) := by rw [hx]; exact List.getElem_append_left (by omega)
        cases A with
        | none => have h : bv l = [] := hr; have := congrArg List.length h; rw [length_bv, List.length_nil] at this; omega
        | some a =>
          have cb : w.cell? (a.add i) = some (.int .u8 x.toNat) := (hr.grown G) i _ (by rw [getElem?_bv _ _ (by omega), hx'])
          have ib := ix23 a n c .i64 (i : Nat) (by omega) (by omega)
          simp only [Int.toNat_natCast, Nat.mul_one] at ib
          simp (disch := omega) [f4.l1, lt_t, lt_f, le_f, ix, ib, c0, cb, p_xor, hy, st, e1]
      · have hx' : x = 167 := by rw [hx, List.getElem_append_right (by omega), List.getElem_replicate]
        subst hx'
        simp at c0 hy
        simp (disch := omega) [f4.l1, lt_t, lt_f, le_t, ix, c0, p_xor, hy, st, e1]
    · have := B.drew.set i (.int .u8 y.toNat)
      rw [← bv_set, List.set_append_right _ _ (by omega)] at this
      simpa [hm] using this

/-- g's, h's bytes -/
theorem of_l6 {n : Nat} (hn : n ≤ 140737488351272) {A D : Option Addr} {c c' : Nat} (t0 o1 A2 v10 v15 : Value) {w : World} (h1 : Rd w A (List.replicate n (.int .u8 1))) (h2 : Rd w D (List.replicate n (.int .u8 2))) :
    iter (f4.l6 C) [t0, o1, A2, v10, v15, .slice A n c, .slice D n c', .int .i64 0] w = some (.exit 14 [t0, o1, A2, v10, v15] w) := by
  refine iter_up n (fun i => [t0, o1, A2, v10, v15, .slice A n c, .slice D n c', .int .i64 i]) (by simp) (fun i hi => ?_) ?_
  · cases A with
    | none => have h' : List.replicate n (Value.int .u8 1) = [] := h1; simp at h'; omega
    | some a =>
      cases D with
      | none => have h' : List.replicate n (Value.int .u8 2) = [] := h2; simp at h'; omega
      | some b =>
        have ca : w.cell? (a.add i) = some (.int .u8 1) := h1 i _ (by simp [List.getElem?_replicate, hi])
        have cb : w.cell? (b.add i) = some (.int .u8 2) := h2 i _ (by simp [List.getElem?_replicate, hi])
        have xa := ix23 a n c .i64 i (by omega) (by omega)
        have xb := ix23 b n c' .i64 i (by omega) (by omega)
        simp only [Int.toNat_natCast, Nat.mul_one] at xa xb
        have e1 : IntKind.i64.wrap ((i : Int) + 1) = i + 1 := wrap_i64 (by omega) (by omega)
        simp [f4.l6, hi, xa, xb, ca, cb, e1]
  · simp [f4.l6]

/-- the main loop -/
theorem of_l7 {n : Nat} (hn : n ≤ 140737488351232) {W : World} {A B : Option Addr} {c d : Nat} {l : List UInt8} (hl : l.length = n) (hc : n ≤ c) (hr : Rd W A (bv l)) (hnil : A = none → c = 0)
    {a1 a2 : Option Addr} {n1 c1 n2 c2 : Nat} {z1 z2 : List Int} (h1 : IsRow .i64 W a1 n1 c1 z1) (y1 : n1 * 8 ≤ 140737488351232) (h2 : IsRow .i64 W a2 n2 c2 z2) (y2 : n2 * 8 ≤ 140737488351232)
    {W1 : World} (G1 : W.grownBy W1 none) (hB : Rd W1 B (bv l)) (hBn : B = none → d = 0) (hd : n ≤ d) :
    ∀ (k : Nat) (vs : List Value) (w : World), (∃ i : Nat, vs = [.slice A n c, .slice a1 n1 c1, .slice a2 n2 c2, .iface 63 (.agg #[.slice B n d]), .int .i64 i] ∧ i + k = min n1 n2 ∧ W1.grownBy w none) →
    ∃ r, iter (f4.l7 C) vs w = some r ∧ ∃ w', r = .exit 4 [] w' ∧ W1.grownBy w' none := by
  refine iter_down _ _ ?_
  rintro k vs w ⟨i, rfl, hi, G⟩
  cases k with
  | zero =>
    by_cases hx : i < n1
    · exact .inr ⟨_, by simp (disch := omega) [f4.l7, lt_t, lt_f], ⟨w, rfl, G⟩, by simp⟩
    · exact .inr ⟨_, by simp (disch := omega) [f4.l7, lt_t, lt_f], ⟨w, rfl, G⟩, by simp⟩
  | succ k =>
    have hi1 : i < n1 := by omega
    have hi2 : i < n2 := by omega
    have GW := grown_trans G1 G (by simp)
    obtain ⟨b1, rfl, k1, p1⟩ := h1.get G1 hi1
    obtain ⟨b2, rfl, k2, p2⟩ := h2.get G1 hi2
    have q1 := fun w' (g : W1.grownBy w' none) => (World.cell?_of_block (g.block _ (World.block_lt_of_cell? _ _ k1) (by simp))).trans k1
    have q2 := fun w' (g : W1.grownBy w' none) => (World.cell?_of_block (g.block _ (World.block_lt_of_cell? _ _ k2) (by simp))).trans k2
    obtain ⟨x, hx⟩ : ∃ x, x = z1.getD i 0 := ⟨_, rfl⟩
    obtain ⟨y, hy⟩ : ∃ y, y = z2.getD i 0 := ⟨_, rfl⟩
    rw [← hx] at q1 p1
    rw [← hy] at q2 p2
    obtain ⟨x0, x1⟩ := wf_i64 p1
    obtain ⟨y0, y1'⟩ := wf_i64 p2
    have i1 := ix24 b1 n1 c1 .i64 i (by omega) (by omega)
    have i2 := ix24 b2 n2 c2 .i64 i (by omega) (by omega)
    simp only [Int.toNat_natCast, Nat.mul_one] at i1 i2
    have e1 : IntKind.i64.wrap ((i : Int) + 1) = i + 1 := wrap_i64 (by omega) (by omega)
    by_cases hm : 0 ≤ x ∧ 0 ≤ y ∧ x ≤ n ∧ y ≤ n - x
    · obtain ⟨hx0, hy0, hxn, hyn⟩ := hm
      obtain ⟨x, rfl⟩ := Int.eq_ofNat_of_zero_le hx0
      obtain ⟨y, rfl⟩ := Int.eq_ofNat_of_zero_le hy0
      obtain ⟨X, dX, w1, r1, o1, g1⟩ := read_in (w := w.drew) hl hd (hB.grown (grown_step G (grown_drew _ _))) hBn (by omega) x y (by omega)
      have G2 := grown_step (grown_step G (grown_drew _ _)) g1
      obtain ⟨Y, dY, w2, r2, o2, g2⟩ := read_in (w := w1.drew) hl hd (hB.grown (grown_step G2 (grown_drew _ _))) hBn (by omega) x y (by omega)
      have G3 := grown_step (grown_step G2 (grown_drew _ _)) g2
      obtain ⟨w3, r3, g3⟩ := size_ok B n d w2.drew
      have G4 : W1.grownBy w3 none := grown_step (grown_step G3 (grown_drew _ _)) g3
      have Q1 := q1 _ G
      have Q2 := q1 _ G2
      have Q3 := q1 _ G3
      have Q4 := q1 _ G4
      have R1 := q2 _ G
      have R2 := q2 _ G2
      have R3 := q2 _ G3
      have R4 := q2 _ G4
      have p1 : w3.ownsRow w.heap.size 5 1 (.slice X y dX) y (bv ((l.drop x).take y)) := ((o1.kept (w' := w2) (grown_step (grown_drew _ _) g2) (by cases (Value.slice X y dX).ownBlock <;> simp)).kept (w' := w3) (grown_step (grown_drew _ _) g3) (by cases (Value.slice X y dX).ownBlock <;> simp))
      have p2 : w3.ownsRow w1.heap.size 5 1 (.slice Y y dY) y (bv ((l.drop x).take y)) := (o2.kept (w' := w3) (grown_step (grown_drew _ _) g3) (by cases (Value.slice Y y dY).ownBlock <;> simp))
      have hlen : ((l.drop x).take y).length = y := by simp; omega
      have t1 := tx23_9 (w := w3.drew) (c := dX) hlen (Rd.own (own_drew p1))
      have t2 := tx23_9 (w := w3.drew) (c := dY) hlen (Rd.own (own_drew p2))
      have rA := ((hr.grown G1).grown (grown_step G4 (grown_drew _ _))).sliced x (x + y) c 1 (by omega) (by omega)
      have hsl := sl23 A n c (some (.int .i64 x)) (some (.int .i64 ((x : Int) + y))) none x (x + y) c (by
        have := bounds_lohi (P := Try.prog) n c .i64 .i64 x ((x : Int) + y) (by omega) (by omega) (by omega)
        rw [this]; congr 2)
      have e4 : ((bv l).drop (x * 1)).take ((x + y - x) * 1) = bv ((l.drop x).take y) := by simp [bv]
      have e5 : x + y - x = y := by omega
      rw [e4] at rA
      rw [e5] at hsl
      have t3 := tx23_9 (w := w3.drew) (c := c - x) hlen rA
      simp only [Nat.mul_one] at t3 hsl
      have e3 : IntKind.i64.wrap ((x : Int) + y) = x + y := wrap_i64 (by omega) (by omega)
      have e2 : IntKind.i64.wrap ((n : Int) - x) = n - x := wrap_i64 (by omega) (by omega)
      have hXlt : ∀ k, (Value.slice X y dX).ownBlock = some k → w.heap.size ≤ k ∧ k < w1.heap.size := o1.lt
      have hYlt : ∀ k, (Value.slice Y y dY).ownBlock = some k → w1.heap.size ≤ k ∧ k < w2.heap.size := o2.lt
      have hs12 : w1.heap.size ≤ w2.heap.size := g2.size
      have hs23 : w2.heap.size ≤ w3.heap.size := g3.size
      have hs01 : w.heap.size ≤ w1.heap.size := g1.size
      have hsW : W1.heap.size ≤ w.heap.size := G.size
      -- x is filled, then y
      obtain ⟨w4, f1, o3, g4⟩ := fill_own (P := Try.prog) (f := f4.l2 C) (w0 := w3.drew) inf5 size5 (v := .int .u8 1) rfl rfl (fun j => [.slice A n c, .slice (some b1) n1 c1, .slice (some b2) n2 c2, .iface 63 (.agg #[.slice B n d]), .int .i64 i, .slice X y dX, .slice Y y dY, .int .i64 j])
        (fun w => .exit 6 [.slice A n c, .slice (some b1) n1 c1, .slice (some b2) n2 c2, .iface 63 (.agg #[.slice B n d]), .int .i64 i, .slice X y dX, .slice Y y dY] w) (by simp)
        (fun j a w w' hj hA hs => by
          subst hA
          have xa := ix23 a y dX .i64 j (by omega) (by omega)
          simp only [Int.toNat_natCast, Nat.mul_one] at xa
          have e1 : IntKind.i64.wrap ((j : Int) + 1) = j + 1 := wrap_i64 (by omega) (by omega)
          simp (disch := omega) [f4.l2, lt_t, xa, hs, e1])
        (fun w => by simp (disch := omega) [f4.l2, lt_f]) (own_drew p1)
      have p3 : w4.ownsRow w1.heap.size 5 1 (.slice Y y dY) y (bv ((l.drop x).take y)) := (own_drew p2).kept g4 (by
        cases hY : (Value.slice Y y dY).ownBlock with
        | none => exact .inl rfl
        | some k =>
          refine .inr fun h => ?_
          have := (hYlt k hY).1
          cases X with
          | none => simp at h
          | some a => have := (hXlt a.block rfl).2; simp at h; omega)
      obtain ⟨w5, f2, o4, g5⟩ := fill_own (P := Try.prog) (f := f4.l3 C) (w0 := w4) inf5 size5 (v := .int .u8 2) rfl rfl (fun j => [.slice A n c, .slice (some b1) n1 c1, .slice (some b2) n2 c2, .iface 63 (.agg #[.slice B n d]), .int .i64 i, .slice X y dX, .slice Y y dY, .int .i64 j])
        (fun w => .exit 8 [.slice A n c, .slice (some b1) n1 c1, .slice (some b2) n2 c2, .iface 63 (.agg #[.slice B n d]), .int .i64 i, .slice X y dX, .slice Y y dY] w) (by simp)
        (fun j a w w' hj hA hs => by
          subst hA
          have xa := ix23 a y dY .i64 j (by omega) (by omega)
          simp only [Int.toNat_natCast, Nat.mul_one] at xa
          have e1 : IntKind.i64.wrap ((j : Int) + 1) = j + 1 := wrap_i64 (by omega) (by omega)
          simp (disch := omega) [f4.l3, lt_t, xa, hs, e1])
        (fun w => by simp (disch := omega) [f4.l3, lt_f]) p3
      have hne : (Value.slice X y dX).ownBlock = none ∨ (Value.slice X y dX).ownBlock ≠ (Value.slice Y y dY).ownBlock := by
        cases hX : (Value.slice X y dX).ownBlock with
        | none => exact .inl rfl
        | some k =>
          refine .inr fun h => ?_
          have h1 := (hXlt k hX).2
          have h2 := (hYlt k h.symm).1
          omega
      have own_map : ∀ (A : Option Addr) (n c : Nat), A.map (·.block) = (Value.slice A n c).ownBlock := fun A n c => by cases A <;> rfl
      rw [own_map X y dX] at g4
      rw [own_map Y y dY] at g5
      have p4 := o3.kept g5 hne
      have hs34 : w3.heap.size ≤ w4.heap.size := g4.size
      have hs45 := g5.size
      obtain ⟨g, w6, f3, o5, g6, k6⟩ := more_own (P := Try.prog) (f := f4.l4 C) (w0 := w5) (m := 40) (ty := 23) Try.underlying23 inf5 zero5 size5 bytes5 rfl (x := .int .u8 1) rfl (fun j v => [.slice A n c, .slice (some b1) n1 c1, .slice (some b2) n2 c2, .iface 63 (.agg #[.slice B n d]), .int .i64 i, .slice Y y dY, v, .int .i64 j])
        (fun v w => .exit 10 [.slice A n c, .slice (some b1) n1 c1, .slice (some b2) n2 c2, .iface 63 (.agg #[.slice B n d]), .int .i64 i, .slice Y y dY, v] w) (by simp)
        (fun j v v' w w' hj hs => by
          have e1 : IntKind.i64.wrap ((j : Int) + 1) = j + 1 := wrap_i64 (by omega) (by omega)
          simp (disch := omega) [f4.l4, lt_t, bs23_1, hs, e1])
        (fun v w => by simp (disch := omega) [f4.l4, lt_f]) (by simp [maxLen]; omega) (by omega) (by omega) p4
      have p5 : w6.ownsRow w1.heap.size 5 1 (.slice Y y dY) y (List.replicate y (.int .u8 2)) := o4.kept g6 (by
        rcases hne with h | h
        · rw [h]
          cases (Value.slice Y y dY).ownBlock <;> simp
        · exact .inr h.symm)
      have hs56 := g6.size
      obtain ⟨h, w7, f4', o6, g7, k7⟩ := more_own (P := Try.prog) (f := f4.l5 C) (w0 := w6) (m := 40) (ty := 23) Try.underlying23 inf5 zero5 size5 bytes5 rfl (x := .int .u8 2) rfl (fun j v => [.slice A n c, .slice (some b1) n1 c1, .slice (some b2) n2 c2, .iface 63 (.agg #[.slice B n d]), .int .i64 i, g, v, .int .i64 j])
        (fun v w => .exit 12 [.slice A n c, .slice (some b1) n1 c1, .slice (some b2) n2 c2, .iface 63 (.agg #[.slice B n d]), .int .i64 i, g, v] w) (by simp)
        (fun j v v' w w' hj hs => by
          have e1 : IntKind.i64.wrap ((j : Int) + 1) = j + 1 := wrap_i64 (by omega) (by omega)
          simp (disch := omega) [f4.l5, lt_t, bs23_1, hs, e1])
        (fun v w => by simp (disch := omega) [f4.l5, lt_f]) (by simp [maxLen]; omega) (by omega) (by omega) p5
      have p6 := o5.kept g7 (by
        cases hg : g.ownBlock with
        | none => exact .inl rfl
        | some k =>
          refine .inr fun e => ?_
          have hy := hYlt k e.symm
          rcases k6 k hg with h | h
          · have := hXlt k h; omega
          · omega)
      obtain ⟨Ag, cg, rfl, _, _⟩ := own_form p6
      obtain ⟨Ah, ch, rfl, _, _⟩ := own_form o6
      have f5 := of_l6 (n := y + 40) (by omega) (c := cg) (c' := ch) (.slice A n c) (.slice (some b1) n1 c1) (.slice (some b2) n2 c2) (.iface 63 (.agg #[.slice B n d])) (.int .i64 i) (w := w7)
        (by have := Rd.own p6; rwa [List.replicate_append_replicate] at this) (by have := Rd.own o6; rwa [List.replicate_append_replicate] at this)
      have GA : W1.grownBy w4 none := grown_trans (grown_step G4 (grown_drew _ _)) g4 fun k hk => by have := hXlt k hk; omega
      have GB : W1.grownBy w5 none := grown_trans GA g5 fun k hk => by have := hYlt k hk; omega
      have GC : W1.grownBy w6 none := grown_trans GB g6 fun k hk => by have := hXlt k hk; omega
      have GD : W1.grownBy w7 none := grown_trans GC g7 fun k hk => by have := hYlt k hk; omega
      refine .inl ⟨k, _, w7, by omega, ?_, ⟨i + 1, rfl, by omega, GD⟩⟩
      simp only [Int.cast_ofNat_Int, Int.ofNat_zero, Int.natCast_zero] at f1 f2 f3 f4'
      simp (disch := omega) [f4.l7, lt_t, lt_f, le_t, le_f, i1, i2, Q1, Q2, Q3, Q4, R1, R2, R3, R4, nil_read, im_read, im_size, r1, r2, r3, neq4, neq9, e1, e2, e3, t1, t2, t3, hsl, f1, f2, f3, f4', f5]
    · obtain ⟨w1, r1, g1⟩ := read_out B n d x y w.drew (by omega) hm
      obtain ⟨w2, r2, g2⟩ := read_out B n d x y w1.drew (by omega) hm
      obtain ⟨w3, r3, g3⟩ := size_ok B n d w2.drew
      have G2 := grown_step (grown_step G (grown_drew _ _)) g1
      have G3 := grown_step (grown_step G2 (grown_drew _ _)) g2
      have Q1 := q1 _ G
      have Q2 := q1 _ G2
      have Q3 := q1 _ G3
      have R1 := q2 _ G
      have R2 := q2 _ G2
      have R3 := q2 _ G3
      refine .inl ⟨k, _, w3, by omega, ?_, ⟨i + 1, rfl, by omega, grown_step (grown_step G3 (grown_drew _ _)) g3⟩⟩
      have e2 : 0 ≤ x → x ≤ n → IntKind.i64.wrap ((n : Int) - x) = n - x := fun _ _ => wrap_i64 (by omega) (by omega)
      have hmay : ∀ T : Prop, (0 ≤ x → 0 ≤ y → x ≤ n → y ≤ n - x → T) := fun T a b c d => absurd ⟨a, b, c, d⟩ hm
      by_cases hx0 : 0 ≤ x
      · by_cases hy0 : 0 ≤ y
        · by_cases hxn : x ≤ n
          · have hyn : ¬ y ≤ n - x := fun h => hm ⟨hx0, hy0, hxn, h⟩
            simp (disch := omega) [f4.l7, lt_t, lt_f, le_t, le_f, i1, i2, Q1, Q2, Q3, R1, R2, R3, nil_read, im_read, im_size, r1, r2, r3, neq4, e2, e1, chkThen]
          · simp (disch := omega) [f4.l7, lt_t, lt_f, le_t, le_f, i1, i2, Q1, Q2, Q3, R1, R2, R3, nil_read, im_read, im_size, r1, r2, r3, neq4, e1, chkThen]
        · simp (disch := omega) [f4.l7, lt_t, lt_f, le_t, le_f, i1, i2, Q1, Q2, Q3, R1, R2, R3, nil_read, im_read, im_size, r1, r2, r3, neq4, e1, chkThen]
      · simp (disch := omega) [f4.l7, lt_t, lt_f, le_t, le_f, i1, i2, Q1, Q2, Q3, R1, R2, R3, nil_read, im_read, im_size, r1, r2, r3, neq4, e1, chkThen]

theorem viewOf_ok {W : World} {A : Option Addr} {n c : Nat} {l : List UInt8} (hl : l.length = n) (hc : n ≤ c) (hr : Rd W A (bv l)) (hnil : A = none → c = 0) (hn : n ≤ 140737488351232)
    {a1 a2 : Option Addr} {n1 c1 n2 c2 : Nat} {z1 z2 : List Int} (h1 : IsRow .i64 W a1 n1 c1 z1) (y1 : n1 * 8 ≤ 140737488351232) (h2 : IsRow .i64 W a2 n2 c2 z2) (y2 : n2 * 8 ≤ 140737488351232) :
    ∃ w', C 4 #[.slice A n c, .slice a1 n1 c1, .slice a2 n2 c2] W = some (.bool true, w') ∧ W.grownBy w' none := by
  obtain ⟨w1, k1, g1⟩ := alive_ok W
  have hb : W.heap.size ≤ w1.heap.size := g1.size
  have e1 : IntKind.i64.wrap ((n : Int) + 20) = ((n + 20 : Nat) : Int) := (wrap_i64 (by omega) (by omega)).trans (by omega)
  obtain ⟨w2, k2, o2, g2⟩ := mk23 (w := w1) w1.heap.size (n + 20) (by omega) (by simp [maxLen]; omega) (Nat.le_refl _)
  have b2 : Blk w2 w1.heap.size 5 (List.replicate (n + 20) (.int .u8 0)) := by
    have := own_blk o2
    simpa [toList_madeCells_one, Value.cells] using this
  have G2 := grown_trans g1 g2 (by simp)
  obtain ⟨w3, k3, b3, g3⟩ := e_copy (P := Try.prog) b2 (dT := 23) (sT := 23) (ty := 3) Try.underlying23 inf5 size5 (o := 0) (dn := n + 20) (dc := n + 20) (sn := n) (sc := c) (hr.grown G2) (by simp [hl]) hnil (by simp) (bv_one l)
  have G3 := grown_new G2 g3 hb
  have b3' : Blk w3 w1.heap.size 5 (bv l ++ (List.replicate 0 (.int .u8 167) ++ List.replicate 20 (.int .u8 0))) := by
    have e : List.take 0 (List.replicate (n + 20) (Value.int .u8 0)) ++ List.take (n + 20) (bv l) ++ List.drop (0 + min n (n + 20)) (List.replicate (n + 20) (.int .u8 0)) = bv l ++ (List.replicate 0 (.int .u8 167) ++ List.replicate 20 (.int .u8 0)) := by
      have m1 : min n (n + 20) = n := by omega
      have t1 : List.take (n + 20) (bv l) = bv l := List.take_of_length_le (by simp [hl])
      have t2 : n + 20 - n = 20 := by omega
      rw [m1, t1, List.drop_replicate, Nat.zero_add, t2]
      rfl
    rwa [e] at b3
  obtain ⟨r, k4, w4, rfl, b4, G4⟩ := of_l0 hn hb (.slice A n c) (.slice a1 n1 c1) (.slice a2 n2 c2) (.bool true) (pre := bv l) (by simp [hl]) 20 _ w3 ⟨0, rfl, by omega, b3', G3⟩
  have hsl := sl23 (some ⟨w1.heap.size, 0, none⟩) (n + 20) (n + 20) none (some (.int .i64 n)) none 0 n (n + 20) (by
    have := bounds_hi (P := Try.prog) (n + 20) (n + 20) .i64 n (by omega) (by omega)
    rw [this]; rfl)
  have rd4 : Rd w4 (some ⟨w1.heap.size, 0, none⟩) (bv l) := by
    have := b4.rd.take n
    rwa [List.take_left' (by simp [hl])] at this
  obtain ⟨B, d, w5, k5, o5, g5⟩ := of_ok (w := w4) (n := n) (c := n + 20) hl rd4 (by simp) (by omega)
  have G5 := grown_trans G4 g5 (by simp)
  have hB5 : w1.heap.size < w4.heap.size := b4.lt
  have b5 : Blk w5 w1.heap.size 5 (bv l ++ List.replicate 20 (.int .u8 167)) := b4.grown g5 (by simp)
  have e20 : bv (l ++ List.replicate 20 (167 : UInt8)) = bv l ++ List.replicate 20 (.int .u8 167) := by
    rw [bv_append]; rfl
  obtain ⟨r, k6, w6, m, rfl, hm, b6, g6⟩ := of_l1 hn G5 hb (.slice a1 n1 c1) (.slice a2 n2 c2) (.iface 63 (.agg #[.slice B n d])) (c := c) hl hr (n + 20) _ w5 ⟨0, [], rfl, by omega, rfl, by rw [List.nil_append, List.drop_zero, e20]; exact b5, grown_refl _ _⟩
  have G6 := grown_new G5 g6 hb
  have hmn : (m.take n).length = n := by simp; omega
  have rd6 : Rd w6 (some ⟨w1.heap.size, 0, none⟩) (bv (m.take n)) := by rw [bv_take]; exact b6.rd.take n
  obtain ⟨B', d', w7, k7, o7, g7⟩ := of_ok (w := w6) (n := n) (c := n + 20) hmn rd6 (by simp) (by omega)
  obtain ⟨w8, k8, g8⟩ := size_ok B' n d' w7
  obtain ⟨X, dX, w9, k9, o9, g9⟩ := read_in (w := w8) (n := n) (c := d') hmn (by obtain ⟨_, _, e, q, _⟩ := own_form o7; cases e; exact q) ((Rd.own o7).grown g8) (own_nil o7) (by omega) 0 n (by omega)
  have e9 : ((m.take n).drop 0).take n = m.take n := by rw [List.drop_zero, List.take_take, Nat.min_self]
  rw [e9] at o9
  have g69 : w6.grownBy w9.drew none := grown_step (grown_step (grown_step g7 g8) g9) (grown_drew _ _)
  have t1 := tx23_9 (w := w9.drew) (c := dX) hmn (Rd.own (own_drew o9))
  have t2 := tx23_9 (w := w9.drew) (c := n + 20) hmn (rd6.grown g69)
  have G9 := grown_step G6 g69
  have hB9 : Rd w9.drew B (bv l) := by
    have o6 := o5.kept g6 (by
      cases hB : (Value.slice B n d).ownBlock with
      | none => exact .inl rfl
      | some k =>
        have := (o5.lt k hB).1
        exact .inr fun h => by cases h; omega)
    exact (Rd.own o6).grown g69
  obtain ⟨r, k10, w10, rfl, G10⟩ := of_l7 hn hl hc hr hnil h1 y1 h2 y2 G9 hB9 (own_nil o5) (by obtain ⟨_, _, e, q, _⟩ := own_form o5; cases e; exact q) (min n1 n2) _ w9.drew ⟨0, rfl, by omega, grown_refl _ _⟩
  refine ⟨w10, f4.run rfl ?_, grown_step G9 G10⟩
  have z0 : ((n + 0 : Nat) : Int) = n := by omega
  simp only [Int.cast_ofNat_Int, Int.natCast_zero, z0, Nat.sub_zero, if_neg (show n + 20 ≠ 0 by omega), Nat.mul_one, Nat.zero_mul] at k4 k6 k9 k10 hsl
  simp only [Int.natCast_add, Int.cast_ofNat_Int] at k2
  simp (config := {maxSteps := 3000000}) (disch := omega) [f4, k1, e1, k2, k3, k4, hsl, k5, k6, k7, im_size, im_read, k8, k9, t1, t2, neq9, k10]

theorem viewOf_walk (W : World) (a0 : Option Addr) (n0 c0 : Nat) (z0 : List Int) (h0 : IsRow .u8 W a0 n0 c0 z0) (y0 : n0 * 1 ≤ 140737488351232) (a1 : Option Addr) (n1 c1 : Nat) (z1 : List Int) (h1 : IsRow .i64 W a1 n1 c1 z1) (y1 : n1 * 8 ≤ 140737488351232) (a2 : Option Addr) (n2 c2 : Nat) (z2 : List Int) (h2 : IsRow .i64 W a2 n2 c2 z2) (y2 : n2 * 8 ≤ 140737488351232) :
    Calls Try.prog 4 #[.slice a0 n0 c0, .slice a1 n1 c1, .slice a2 n2 c2] W fun e w' => e = .returned (.bool true) ∧ Below W.heap.size W w' := by
  obtain ⟨l, hl, hr, hnil, hc⟩ := h0.bytes
  obtain ⟨w', h, g⟩ := viewOf_ok hl hc hr hnil (by omega) h1 y1 h2 y2
  exact (calls_of_run (by kernel_rfl) noPrim_ok h).mono fun e v ⟨h1, h2⟩ => ⟨h1, h2 ▸ below_of_grown g⟩
end Go.Sh.Ytocijepcfannnaa
