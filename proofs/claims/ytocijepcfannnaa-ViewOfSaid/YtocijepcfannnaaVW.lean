/- view.Of, its Size and Read, view.Bound: what they answer. Conditions: those of each statement. -/
import Derived.Test.YtocijepcfannnaaAF
namespace Go.Sh.Ytocijepcfannnaa
open Go Go.Proofs Go.RowKit
set_option linter.unusedVariables false
set_option linter.unusedSimpArgs false

noncomputable abbrev C := R noPrim

theorem bound_ok (a b : Int) (w : World) (ha : 0 ≤ a) (ha' : a ≤ 4194304) (hb : 0 ≤ b) (hb' : b ≤ 268435456) :
    C 24 #[.int .i64 a, .int .i64 b] w = some (.tuple #[.int .i64 (4 * a + 2 * b), .int .i64 0], w) := by
  refine f24.run rfl ?_
  have h1 : ¬ a < 0 := by omega
  have h2 : ¬ a > 4194304 := by omega
  have h3 : ¬ b < 0 := by omega
  have h4 : ¬ b > 268435456 := by omega
  have e1 : IntKind.i64.wrap (4 * a) = 4 * a := wrap_i64 (by omega) (by omega)
  have e2 : IntKind.i64.wrap (2 * b) = 2 * b := wrap_i64 (by omega) (by omega)
  have e3 : IntKind.i64.wrap (4 * a + 2 * b) = 4 * a + 2 * b := wrap_i64 (by omega) (by omega)
  simp [f24, h1, h2, h3, h4, e1, e2, e3]

theorem size_ok (A : Option Addr) (n c : Nat) (w : World) : ∃ w', C 50 #[.agg #[.slice A n c]] w = some (.int .i64 n, w') ∧ w.grownBy w' none := by
  refine ⟨w.alloc (.cells #[.slice A n c] 63), f50.run rfl ?_, World.grownBy_alloc w _ none⟩
  simp [f50, box_any, Value.cells]

theorem build63 (A : Option Addr) (n c : Nat) : prun Try.prog (Instr.build 63 #[(0, .slice A n c)]) = some (.agg #[.slice A n c]) := id (by kernel_rfl)

/-- bytes, copied into an empty list -/
theorem copied {w : World} {A : Option Addr} {m c : Nat} {l : List UInt8} (hl : l.length = m) (hr : Rd w A (bv l)) (hnil : A = none → c = 0) (hm : m ≤ 140737488355328) :
    ∃ B d w', erun Try.prog (Builtin.append_ #[23, 23] 23 #[.slice (some ⟨w.heap.size, 0, none⟩) 0 0, .slice A m c]) (w.alloc (.cells #[] 5)) = some (.slice B m d, w') ∧
      w'.ownsRow w.heap.size 5 1 (.slice B m d) m (bv l) ∧ w.grownBy w' none := by
  have hown := World.ownsRow_made (e := 5) (size := 1) w #[] 0 (Nat.le_refl _) (by simp [maxLen]) (by simp)
  have hg := World.grownBy_alloc w (.cells #[] 5) none
  obtain ⟨v', w', h1, h2, h3⟩ := ap23 (ty := 23) hown (A := A) (m := m) (c := c) (news := bv l) (by simp [hl]) (hr.grown hg) hnil (bv_one l) (by simp [maxLen]; omega) (by omega) (by simp)
  obtain ⟨B, d, rfl, _, _⟩ := own_form h2
  refine ⟨B, d, w', ?_, ?_, grown_trans hg h3 (fun k hk => by simp [Value.ownBlock] at hk; omega)⟩
  · simpa using h1
  · simpa using h2

theorem of_ok {w : World} {A : Option Addr} {n c : Nat} {l : List UInt8} (hl : l.length = n) (hr : Rd w A (bv l)) (hnil : A = none → c = 0) (hn : n ≤ 140737488355328) :
    ∃ B d w', C 9 #[.slice A n c] w = some (.iface 63 (.agg #[.slice B n d]), w') ∧ w'.ownsRow w.heap.size 5 1 (.slice B n d) n (bv l) ∧ w.grownBy w' none := by
  obtain ⟨B, d, w', h1, h2, h3⟩ := copied hl hr hnil hn
  refine ⟨B, d, w', f9.run rfl ?_, h2, h3⟩
  simp [f9, h1, build63]

theorem read_in {w : World} {A : Option Addr} {n c : Nat} {l : List UInt8} (hl : l.length = n) (hc : n ≤ c) (hr : Rd w A (bv l)) (hnil : A = none → c = 0) (hn : n ≤ 140737488355328) (i k : Nat) (hik : i + k ≤ n) :
    ∃ B d w', C 49 #[.agg #[.slice A n c], .int .i64 i, .int .i64 k] w = some (.tuple #[.slice B k d, .int .i64 0], w') ∧ w'.ownsRow w.heap.size 5 1 (.slice B k d) k (bv ((l.drop i).take k)) ∧ w.grownBy w' none := by
  have g1 := World.grownBy_alloc w (.cells #[.slice A n c] 63) none
  have r1 := (hr.grown g1).sliced i (i + k) c 1 (by omega) (by omega)
  have hsl := sl23 A n c (some (.int .i64 i)) (some (.int .i64 ((i : Int) + k))) none i (i + k) c (by
    have := bounds_lohi (P := Try.prog) n c .i64 .i64 i ((i : Int) + k) (by omega) (by omega) (by omega)
    rw [this]; congr 2)
  have e1 : ((bv l).drop (i * 1)).take ((i + k - i) * 1) = bv ((l.drop i).take k) := by simp [bv]
  rw [e1] at r1
  obtain ⟨B, d, w', h1, h2, h3⟩ := copied (w := w.alloc (.cells #[.slice A n c] 63)) (m := k) (c := c - i) (by simp; omega) r1 (sliced_nil hnil (Nat.le_refl _)) (by omega)
  have n1 : ¬ (i : Int) < 0 := by omega
  have n2 : ¬ (k : Int) < 0 := by omega
  have n3 : ¬ (i : Int) > n := by omega
  have e2 : IntKind.i64.wrap ((n : Int) - i) = n - i := wrap_i64 (by omega) (by omega)
  have e3 : IntKind.i64.wrap ((i : Int) + k) = i + k := wrap_i64 (by omega) (by omega)
  have n4 : ¬ (k : Int) > (n : Int) - i := by omega
  have e4 : i + k - i = k := by omega
  rw [e4] at hsl
  refine ⟨B, d, w', f49.run rfl ?_, ?_, ?_⟩
  · simp at h1
    simp [f49, box_any, Value.cells, n1, n2, n3, e2, n4, e3, World.cell?_alloc_lt, hsl, h1]
  · exact own_base h2 (by simp)
  · exact grown_trans g1 h3 (fun k hk => by cases hk)

theorem read_out (A : Option Addr) (n c : Nat) (i k : Int) (w : World) (hn : n ≤ 140737488355328) (h : ¬ (0 ≤ i ∧ 0 ≤ k ∧ i ≤ n ∧ k ≤ n - i)) :
    ∃ w', C 49 #[.agg #[.slice A n c], .int .i64 i, .int .i64 k] w = some (.tuple #[.slice none 0 0, .int .i64 151], w') ∧ w.grownBy w' none := by
  refine ⟨w.alloc (.cells #[.slice A n c] 63), f49.run rfl ?_, World.grownBy_alloc w _ none⟩
  by_cases h1 : i < 0
  · simp [f49, box_any, Value.cells, h1]
  by_cases h2 : k < 0
  · simp [f49, box_any, Value.cells, h1, h2]
  by_cases h3 : i > n
  · simp [f49, box_any, Value.cells, h1, h2, h3]
  have e2 : IntKind.i64.wrap ((n : Int) - i) = n - i := wrap_i64 (by omega) (by omega)
  have h4 : k > n - i := by omega
  simp [f49, box_any, Value.cells, h1, h2, h3, e2, h4]

theorem bs23_3 (w : World) : erun Try.prog (Instr.buildSlice 23 3 #[(0, (Value.int IntKind.u8 1)), (1, (Value.int IntKind.u8 2)), (2, (Value.int IntKind.u8 3))]) w =
    some (.slice (some ⟨w.heap.size, 0, none⟩) 3 3, w.alloc (.cells #[.int .u8 1, .int .u8 2, .int .u8 3] 5)) := id (by kernel_rfl)
theorem im_size (x : Value) (w : World) : imethod Try.prog (.iface 63 x) "Size" w = some (50, x) := id (by kernel_rfl)
theorem im_read (x : Value) (w : World) : imethod Try.prog (.iface 63 x) "Read" w = some (49, x) := id (by kernel_rfl)

theorem alive_ok (w : World) : ∃ w', C 8 #[] w = some (.bool true, w') ∧ w.grownBy w' none := by
  have g1 := World.grownBy_alloc w (.cells #[.int .u8 1, .int .u8 2, .int .u8 3] 5) none
  have r1 : Rd (w.alloc (.cells #[.int .u8 1, .int .u8 2, .int .u8 3] 5)) (some ⟨w.heap.size, 0, none⟩) (bv [1, 2, 3]) := by
    intro j v hj
    rw [addL, Nat.zero_add, World.cell?_alloc_new]
    simpa [bv] using hj
  obtain ⟨B, d, w2, h1, h2, h3⟩ := of_ok (n := 3) (c := 3) rfl r1 (fun h => by cases h) (by omega)
  obtain ⟨w3, h4, g4⟩ := size_ok B 3 d w2
  obtain ⟨E, f, w4, h5, h6, h7⟩ := read_in (n := 3) (c := d) (l := [1, 2, 3]) rfl (by obtain ⟨_, _, e, q, _⟩ := own_form h2; cases e; exact q) ((Rd.owned h2).grown g4) (own_nil h2) (by omega) 1 2 (by omega)
  have hb := bound_ok 1000 500 w4 (by omega) (by omega) (by omega) (by omega)
  have ht := tx23_9 (c := f) (l := [2, 3]) (n := 2) rfl (Rd.owned h6)
  refine ⟨w4, f8.run rfl ?_, grown_trans (grown_trans (grown_trans g1 h3 (by simp)) g4 (by simp)) h7 (by simp)⟩
  simp at h5
  simp [f8, bs23_3, h1, im_size, im_read, h4, h5, hb, ht]

theorem names_ok (w : World) : ∃ w', C 3 #[] w = some (.bool true, w') ∧ w.grownBy w' none := by
  obtain ⟨w', h1, h2⟩ := alive_ok w
  exact ⟨w', f3.run rfl (by simp [f3, h1]), h2⟩

theorem below_of_grown {w w' : World} (h : w.grownBy w' none) : Below w.heap.size w w' := ⟨h.os, h.tape, h.output, h.size, fun k hk => h.block k hk (by simp)⟩
theorem names_walk (W : World) : Calls Try.prog 3 #[] W fun e w' => e = .returned (.bool true) ∧ Below W.heap.size W w' := by
  obtain ⟨w', h, g⟩ := names_ok W
  exact (calls_of_run (by kernel_rfl) noPrim_ok h).mono fun e v ⟨h1, h2⟩ => ⟨h1, h2 ▸ below_of_grown g⟩
end Go.Sh.Ytocijepcfannnaa
