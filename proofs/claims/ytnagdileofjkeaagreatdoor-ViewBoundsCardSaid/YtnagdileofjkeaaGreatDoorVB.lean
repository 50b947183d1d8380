/- ViewBounds: view.Bound and its like, of no source. Conditions: those of each statement. -/
import Derived.Test.YtnagdileofjkeaaGreatDoorVF
import Derived.Test.YtnagdileofjkeaaGreatDoorShStruct
import Derived.Test.YtnagdileofjkeaaGreatDoorShFoot
import Derived.Test.YtnagdileofjkeaaGreatDoorRows
import Derived.Test.YtnagdileofjkeaaGreatDoorShLaid
import Derived.Below
import Derived.OpenShut
namespace Go.Sh.YtnagdileofjkeaaGreatDoor
open Go Go.Proofs Go.RowKit Go.ChangeShapes Go.WideShapes
open Go.Proofs.YtnagdileofjkeaaGreatDoor
set_option linter.unusedVariables false
set_option linter.unusedSimpArgs false
set_option maxRecDepth 100000
noncomputable abbrev C := R noPrim
theorem bound_ok (a b : Int) (w : World) (ha : 0 ≤ a) (ha' : a ≤ 4194304) (hb : 0 ≤ b) (hb' : b ≤ 268435456) :
    C 5 #[.int .i64 a, .int .i64 b] w = some (.tuple #[.int .i64 (4 * a + 2 * b), .int .i64 0], w) := by
  refine f5.run rfl ?_
  have h1 : ¬ a < 0 := by omega
  have h2 : ¬ a > 4194304 := by omega
  have h3 : ¬ b < 0 := by omega
  have h4 : ¬ b > 268435456 := by omega
  have e1 : IntKind.i64.wrap (4 * a) = 4 * a := wrap_i64 (by omega) (by omega)
  have e2 : IntKind.i64.wrap (2 * b) = 2 * b := wrap_i64 (by omega) (by omega)
  have e3 : IntKind.i64.wrap (4 * a + 2 * b) = 4 * a + 2 * b := wrap_i64 (by omega) (by omega)
  simp [f5, h1, h2, h3, h4, e1, e2, e3]

theorem size_ok (A : Option Addr) (n c : Nat) (w : World) : ∃ w', C 164 #[.agg #[.slice A n c]] w = some (.int .i64 n, w') ∧ w.grownBy w' none := by
  refine ⟨w.alloc (.cells #[.slice A n c] 76), f164.run rfl ?_, World.grownBy_alloc w _ none⟩
  simp [f164, box_any, Value.cells]

theorem build76 (A : Option Addr) (n c : Nat) : prun Tryz.prog (Instr.build 76 #[(0, .slice A n c)]) = some (.agg #[.slice A n c]) := id (by kernel_rfl)

/-- bytes, copied into an empty list -/
theorem copied {w : World} {A : Option Addr} {m c : Nat} {l : List UInt8} (hl : l.length = m) (hr : Rd w A (bv l)) (hnil : A = none → c = 0) (hm : m ≤ 140737488355328) :
    ∃ B d w', erun Tryz.prog (Builtin.append_ #[53, 53] 53 #[.slice (some ⟨w.heap.size, 0, none⟩) 0 0, .slice A m c]) (w.alloc (.cells #[] 5)) = some (.slice B m d, w') ∧
      w'.ownsRow w.heap.size 5 1 (.slice B m d) m (bv l) ∧ w.grownBy w' none := by
  have hown := World.ownsRow_made (e := 5) (size := 1) w #[] 0 (Nat.le_refl _) (by simp [maxLen]) (by simp)
  have hg := World.grownBy_alloc w (.cells #[] 5) none
  obtain ⟨v', w', h1, h2, h3⟩ := ap53 (ty := 53) hown (A := A) (m := m) (c := c) (news := bv l) (by simp [hl]) (hr.grown hg) hnil (bv_one l) (by simp [maxLen]; omega) (by omega) (by simp)
  obtain ⟨B, d, rfl, _, _⟩ := own_form h2
  refine ⟨B, d, w', ?_, ?_, grown_trans hg h3 (fun k hk => by simp [Value.ownBlock] at hk; omega)⟩
  · simpa using h1
  · simpa using h2

theorem of_ok {w : World} {A : Option Addr} {n c : Nat} {l : List UInt8} (hl : l.length = n) (hr : Rd w A (bv l)) (hnil : A = none → c = 0) (hn : n ≤ 140737488355328) :
    ∃ B d w', C 11 #[.slice A n c] w = some (.iface 76 (.agg #[.slice B n d]), w') ∧ w'.ownsRow w.heap.size 5 1 (.slice B n d) n (bv l) ∧ w.grownBy w' none := by
  obtain ⟨B, d, w', h1, h2, h3⟩ := copied hl hr hnil hn
  refine ⟨B, d, w', f11.run rfl ?_, h2, h3⟩
  simp [f11, h1, build76]

theorem read_in {w : World} {A : Option Addr} {n c : Nat} {l : List UInt8} (hl : l.length = n) (hc : n ≤ c) (hr : Rd w A (bv l)) (hnil : A = none → c = 0) (hn : n ≤ 140737488355328) (i k : Nat) (hik : i + k ≤ n) :
    ∃ B d w', C 163 #[.agg #[.slice A n c], .int .i64 i, .int .i64 k] w = some (.tuple #[.slice B k d, .int .i64 0], w') ∧ w'.ownsRow w.heap.size 5 1 (.slice B k d) k (bv ((l.drop i).take k)) ∧ w.grownBy w' none := by
  have g1 := World.grownBy_alloc w (.cells #[.slice A n c] 76) none
  have r1 := (hr.grown g1).sliced i (i + k) c 1 (by omega) (by omega)
  have hsl := sl53 A n c (some (.int .i64 i)) (some (.int .i64 ((i : Int) + k))) none i (i + k) c (by
    have := bounds_lohi (P := Tryz.prog) n c .i64 .i64 i ((i : Int) + k) (by omega) (by omega) (by omega)
    rw [this]; congr 2)
  have e1 : ((bv l).drop (i * 1)).take ((i + k - i) * 1) = bv ((l.drop i).take k) := by simp [bv]
  rw [e1] at r1
  obtain ⟨B, d, w', h1, h2, h3⟩ := copied (w := w.alloc (.cells #[.slice A n c] 76)) (m := k) (c := c - i) (by simp; omega) r1 (sliced_nil hnil (Nat.le_refl _)) (by omega)
  have n1 : ¬ (i : Int) < 0 := by omega
  have n2 : ¬ (k : Int) < 0 := by omega
  have n3 : ¬ (i : Int) > n := by omega
  have e2 : IntKind.i64.wrap ((n : Int) - i) = n - i := wrap_i64 (by omega) (by omega)
  have e3 : IntKind.i64.wrap ((i : Int) + k) = i + k := wrap_i64 (by omega) (by omega)
  have n4 : ¬ (k : Int) > (n : Int) - i := by omega
  have e4 : i + k - i = k := by omega
  rw [e4] at hsl
  refine ⟨B, d, w', f163.run rfl ?_, ?_, ?_⟩
  · simp at h1
    simp [f163, box_any, Value.cells, n1, n2, n3, e2, n4, e3, World.cell?_alloc_lt, hsl, h1]
  · exact own_base h2 (by simp)
  · exact grown_trans g1 h3 (fun k hk => by cases hk)

theorem read_out (A : Option Addr) (n c : Nat) (i k : Int) (w : World) (hn : n ≤ 140737488355328) (h : ¬ (0 ≤ i ∧ 0 ≤ k ∧ i ≤ n ∧ k ≤ n - i)) :
    ∃ w', C 163 #[.agg #[.slice A n c], .int .i64 i, .int .i64 k] w = some (.tuple #[.slice none 0 0, .int .i64 151], w') ∧ w.grownBy w' none := by
  refine ⟨w.alloc (.cells #[.slice A n c] 76), f163.run rfl ?_, World.grownBy_alloc w _ none⟩
  by_cases h1 : i < 0
  · simp [f163, box_any, Value.cells, h1]
  by_cases h2 : k < 0
  · simp [f163, box_any, Value.cells, h1, h2]
  by_cases h3 : i > n
  · simp [f163, box_any, Value.cells, h1, h2, h3]
  have e2 : IntKind.i64.wrap ((n : Int) - i) = n - i := wrap_i64 (by omega) (by omega)
  have h4 : k > n - i := by omega
  simp [f163, box_any, Value.cells, h1, h2, h3, e2, h4]

theorem bs53_3 (w : World) : erun Tryz.prog (Instr.buildSlice 53 3 #[(0, (Value.int IntKind.u8 1)), (1, (Value.int IntKind.u8 2)), (2, (Value.int IntKind.u8 3))]) w =
    some (.slice (some ⟨w.heap.size, 0, none⟩) 3 3, w.alloc (.cells #[.int .u8 1, .int .u8 2, .int .u8 3] 5)) := id (by kernel_rfl)
theorem im_size (x : Value) (w : World) : imethod Tryz.prog (.iface 76 x) "Size" w = some (164, x) := id (by kernel_rfl)
theorem im_read (x : Value) (w : World) : imethod Tryz.prog (.iface 76 x) "Read" w = some (163, x) := id (by kernel_rfl)

theorem alive_ok (w : World) : ∃ w', C 4 #[] w = some (.bool true, w') ∧ w.grownBy w' none := by
  have g1 := World.grownBy_alloc w (.cells #[.int .u8 1, .int .u8 2, .int .u8 3] 5) none
  have r1 : Rd (w.alloc (.cells #[.int .u8 1, .int .u8 2, .int .u8 3] 5)) (some ⟨w.heap.size, 0, none⟩) (bv [1, 2, 3]) := by
    intro j v hj
    rw [addL, Nat.zero_add, World.cell?_alloc_new]
    simpa [bv] using hj
  obtain ⟨B, d, w2, h1, h2, h3⟩ := of_ok (n := 3) (c := 3) rfl r1 (fun h => by cases h) (by omega)
  obtain ⟨w3, h4, g4⟩ := size_ok B 3 d w2
  obtain ⟨E, f, w4, h5, h6, h7⟩ := read_in (n := 3) (c := d) (l := [1, 2, 3]) rfl (by obtain ⟨_, _, e, q, _⟩ := own_form h2; cases e; exact q) ((Rd.owned h2).grown g4) (own_nil h2) (by omega) 1 2 (by omega)
  have hb := bound_ok 1000 500 w4 (by omega) (by omega) (by omega) (by omega)
  have ht := tx53_9 (c := f) (l := [2, 3]) (n := 2) rfl (Rd.owned h6)
  refine ⟨w4, f4.run rfl ?_, grown_trans (grown_trans (grown_trans g1 h3 (by simp)) g4 (by simp)) h7 (by simp)⟩
  simp at h5
  simp [f4, bs53_3, h1, im_size, im_read, h4, h5, hb, ht]


/-! ### no source -/
theorem cells_blk {w : World} {b : Nat} {e : TypeId} {cs : List Value} (h : Blk w b e cs) : cellsAt w ⟨b, 0, none⟩ 0 cs := by
  have key : ∀ (vs : List Value) (i : Nat), (∀ j v, vs[j]? = some v → w.cell? ((⟨b, 0, none⟩ : Addr).add (i + j)) = some v) → cellsAt w ⟨b, 0, none⟩ i vs := by
    intro vs
    induction vs with
    | nil => intro i _; trivial
    | cons v r ih => intro i h; exact ⟨by simpa using h 0 v rfl, ih (i + 1) fun j u hu => by have := h (j + 1) u (by simpa using hu); rwa [show i + (j + 1) = i + 1 + j by omega] at this⟩
  exact key cs 0 fun j v hj => by rw [addL, Nat.zero_add, Nat.zero_add]; exact h.cell_eq j hj
def i0 : Value := .int .i64 0
def zh : List Value := [i0, i0, i0, .bool false, i0, i0, i0, i0, i0, i0, i0, i0, i0]
def zf : List Value := [i0, i0, i0, .bool false, .slice none 0 0]
def zr : List Value := [i0, i0, i0, .bool false, i0, i0, i0, i0, i0, i0, i0, i0, i0, .slice none 0 0, .slice none 0 0, i0]
theorem al31 (w : World) : erun Tryz.prog (Instr.alloc 31 true (.tuple #[])) w = some (.pointer (some ⟨w.heap.size, 0, none⟩), w.alloc (.cells zh.toArray 31)) := id (by kernel_rfl)
theorem al36 (w : World) : erun Tryz.prog (Instr.alloc 36 true (.tuple #[])) w = some (.pointer (some ⟨w.heap.size, 0, none⟩), w.alloc (.cells zf.toArray 36)) := id (by kernel_rfl)
theorem al40 (w : World) : erun Tryz.prog (Instr.alloc 40 true (.tuple #[])) w = some (.pointer (some ⟨w.heap.size, 0, none⟩), w.alloc (.cells zr.toArray 40)) := id (by kernel_rfl)
theorem bd31 : prun Tryz.prog (Instr.build 31 #[]) = some (.agg zh.toArray) := id (by kernel_rfl)
theorem bd36 : prun Tryz.prog (Instr.build 36 #[]) = some (.agg zf.toArray) := id (by kernel_rfl)
theorem bd40 : prun Tryz.prog (Instr.build 40 #[]) = some (.agg zr.toArray) := id (by kernel_rfl)
theorem sz31 : (inf 31).size = 13 := by kernel_rfl
theorem sz36 : (inf 36).size = 5 := by kernel_rfl
theorem sz40 : (inf 40).size = 16 := by kernel_rfl
theorem one_z : (∀ u ∈ zh, u.oneCell' = true) ∧ (∀ u ∈ zf, u.oneCell' = true) ∧ (∀ u ∈ zr, u.oneCell' = true) := by simp [zh, zf, zr, i0, Value.oneCell']
theorem sto31 {w : World} {b : Nat} {cs : List Value} (h : Blk w b 31 cs) (hl : cs.length = 13) : ∃ w', erun Tryz.prog (Instr.storeAt 31 (.pointer (some ⟨b, 0, none⟩)) (.agg zh.toArray)) w = some ((), w') ∧ Blk w' b 31 zh ∧ w.grownBy w' (some b) :=
  h.storeAll (P := Tryz.prog) inf31 (vs := zh) rfl (by rw [sz31]; rfl) (by rw [hl]; decide) one_z.1 (by
    have : cs.drop (0 + zh.length) = [] := List.drop_of_length_le (by rw [hl]; decide)
    rw [this]; simp)
theorem sto36 {w : World} {b : Nat} {cs : List Value} (h : Blk w b 36 cs) (hl : cs.length = 5) : ∃ w', erun Tryz.prog (Instr.storeAt 36 (.pointer (some ⟨b, 0, none⟩)) (.agg zf.toArray)) w = some ((), w') ∧ Blk w' b 36 zf ∧ w.grownBy w' (some b) :=
  h.storeAll (P := Tryz.prog) inf36 (vs := zf) rfl (by rw [sz36]; rfl) (by rw [hl]; decide) one_z.2.1 (by
    have : cs.drop (0 + zf.length) = [] := List.drop_of_length_le (by rw [hl]; decide)
    rw [this]; simp)
theorem sto40 {w : World} {b : Nat} {cs : List Value} (h : Blk w b 40 cs) (hl : cs.length = 16) : ∃ w', erun Tryz.prog (Instr.storeAt 40 (.pointer (some ⟨b, 0, none⟩)) (.agg zr.toArray)) w = some ((), w') ∧ Blk w' b 40 zr ∧ w.grownBy w' (some b) :=
  h.storeAll (P := Tryz.prog) inf40 (vs := zr) rfl (by rw [sz40]; rfl) (by rw [hl]; decide) one_z.2.2 (by
    have : cs.drop (0 + zr.length) = [] := List.drop_of_length_le (by rw [hl]; decide)
    rw [this]; simp)
theorem lo31 {w : World} {b : Nat} (h : Blk w b 31 zh) : rrun Tryz.prog (Instr.loadAt 31 (.pointer (some ⟨b, 0, none⟩))) w = some (.agg zh.toArray) := load_agg (vs := zh) inf31 (by kernel_rfl) (by rw [sz31]; rfl) (cells_blk h)
theorem lo36 {w : World} {b : Nat} (h : Blk w b 36 zf) : rrun Tryz.prog (Instr.loadAt 36 (.pointer (some ⟨b, 0, none⟩))) w = some (.agg zf.toArray) := load_agg (vs := zf) inf36 (by kernel_rfl) (by rw [sz36]; rfl) (cells_blk h)
theorem lo40 {w : World} {b : Nat} (h : Blk w b 40 zr) : rrun Tryz.prog (Instr.loadAt 40 (.pointer (some ⟨b, 0, none⟩))) w = some (.agg zr.toArray) := load_agg (vs := zr) inf40 (by kernel_rfl) (by rw [sz40]; rfl) (cells_blk h)
theorem eq31 (x y : Operand) (w : World) : rrun Tryz.prog (do eqGuard .eql 31 x y (.agg zh.toArray) (.agg zh.toArray); binOp .eql 31 (.agg zh.toArray) (.agg zh.toArray)) w = some (.bool true) := id (by kernel_rfl)
theorem new31 (w : World) : ∃ w1, w1 = w.alloc (.cells zh.toArray 31) ∧ w.grownBy w1 none ∧ Blk w1 w.heap.size 31 zh := ⟨_, rfl, World.grownBy_alloc w _ none, Blk.new w 31 zh⟩
theorem new36 (w : World) : ∃ w1, w1 = w.alloc (.cells zf.toArray 36) ∧ w.grownBy w1 none ∧ Blk w1 w.heap.size 36 zf := ⟨_, rfl, World.grownBy_alloc w _ none, Blk.new w 36 zf⟩
theorem new40 (w : World) : ∃ w1, w1 = w.alloc (.cells zr.toArray 40) ∧ w.grownBy w1 none ∧ Blk w1 w.heap.size 40 zr := ⟨_, rfl, World.grownBy_alloc w _ none, Blk.new w 40 zr⟩
/-- a variable of a type, laid and written with nothing: where it lies -/
theorem hold31 (w : World) : ∃ w1 w2, w1 = w.alloc (.cells zh.toArray 31) ∧ erun Tryz.prog (Instr.storeAt 31 (.pointer (some ⟨w.heap.size, 0, none⟩)) (.agg zh.toArray)) w1 = some ((), w2) ∧ Blk w2 w.heap.size 31 zh ∧ w.grownBy w2 none := by
  obtain ⟨w1, e, g, b⟩ := new31 w
  obtain ⟨w2, h1, h2, h3⟩ := sto31 b rfl
  exact ⟨w1, w2, e, h1, h2, grown_trans g h3 fun k hk => by cases hk; exact Nat.le_refl _⟩
theorem hold40 (w : World) : ∃ w1 w2, w1 = w.alloc (.cells zr.toArray 40) ∧ erun Tryz.prog (Instr.storeAt 40 (.pointer (some ⟨w.heap.size, 0, none⟩)) (.agg zr.toArray)) w1 = some ((), w2) ∧ Blk w2 w.heap.size 40 zr ∧ w.grownBy w2 none := by
  obtain ⟨w1, e, g, b⟩ := new40 w
  obtain ⟨w2, h1, h2, h3⟩ := sto40 b rfl
  exact ⟨w1, w2, e, h1, h2, grown_trans g h3 fun k hk => by cases hk; exact Nat.le_refl _⟩
theorem two_new (w : World) : ∃ w1 w2, w1 = w.alloc (.cells zf.toArray 36) ∧ w2 = w1.alloc (.cells zr.toArray 40) ∧ w.grownBy w1 none ∧ w.grownBy w2 none ∧ Blk w2 w.heap.size 36 zf ∧ Blk w2 (w.heap.size + 1) 40 zr ∧ w1.heap.size = w.heap.size + 1 := by
  obtain ⟨w1, e, g, b⟩ := new36 w
  obtain ⟨w2, e2, g2, b2⟩ := new40 w1
  have s : w1.heap.size = w.heap.size + 1 := by rw [e]; simp
  exact ⟨w1, w2, e, e2, g, grown_trans g g2 (by simp), b.grown g2 (by simp), s ▸ b2, s⟩
/-- two variables are written with nothing -/
theorem sto_two {w : World} {a b : Nat} {ca cb : List Value} (ha : Blk w a 36 ca) (hb : Blk w b 40 cb) (la : ca.length = 5) (lb : cb.length = 16) (w0 : World) (g : w0.grownBy w none) (ga : w0.heap.size ≤ a) (gb : w0.heap.size ≤ b) (hab : a ≠ b) :
    ∃ w1 w2, erun Tryz.prog (Instr.storeAt 36 (.pointer (some ⟨a, 0, none⟩)) (.agg zf.toArray)) w = some ((), w1) ∧ erun Tryz.prog (Instr.storeAt 40 (.pointer (some ⟨b, 0, none⟩)) (.agg zr.toArray)) w1 = some ((), w2) ∧ Blk w2 a 36 zf ∧ Blk w2 b 40 zr ∧ w0.grownBy w2 none := by
  obtain ⟨w1, h1, b1, g1⟩ := sto36 ha la
  have hb1 := hb.grown g1 (by simpa using fun e : a = b => hab e)
  obtain ⟨w2, h2, b2, g2⟩ := sto40 hb1 lb
  exact ⟨w1, w2, h1, h2, b1.grown g2 (by simpa using fun e : b = a => hab e.symm), b2, grown_trans (grown_trans g g1 fun k hk => by cases hk; exact ga) g2 fun k hk => by cases hk; exact gb⟩
theorem head_nil (w : World) : ∃ w', C 7 #[.nilIface] w = some (.tuple #[.agg zh.toArray, .int .i64 1], w') ∧ w.grownBy w' none := by
  obtain ⟨w1, w2, e, h1, b, g⟩ := hold31 w
  refine ⟨w2, f7.run rfl ?_, g⟩
  simp [f7, al31, ← e, bd31, h1, lo31 b]
theorem opens_nil (l a : Value) (w : World) : C 14 #[.nilIface, l, a] w = some (.tuple #[.pointer none, .slice none 0 0, .int .i64 1], w) := by
  refine f14.run rfl ?_
  simp [f14]
theorem slice_nil (k l : Int) (w : World) : ∃ w', C 9 #[.nilIface, .int .i64 k, .int .i64 l] w = some (.tuple #[.slice none 0 0, .agg zr.toArray, .int .i64 1], w') ∧ w.grownBy w' none := by
  obtain ⟨u, hu⟩ : ∃ u, u = w.alloc (.cells #[.int .i64 k] 3) := ⟨_, rfl⟩
  have gu : w.grownBy u none := hu ▸ World.grownBy_alloc w _ none
  obtain ⟨w1, w2, e, h1, b, g⟩ := hold40 u
  refine ⟨w2, f9.run rfl ?_, grown_trans gu g (by simp)⟩
  simp [f9, box_any, Value.cells, ← hu, al40, ← e, opens_nil, bd40, h1, lo40 b]
theorem region_nil (cs : Array Value) (al : Bool) (l : Int) (w : World) : ∃ w', C 13 #[.nilIface, .agg cs, .bool al, .int .i64 l] w = some (.tuple #[.agg zf.toArray, .agg zr.toArray, .int .i64 1], w') ∧ w.grownBy w' none := by
  obtain ⟨u, hu⟩ : ∃ u, u = w.alloc (.cells cs 48) := ⟨_, rfl⟩
  have gu : w.grownBy u none := hu ▸ World.grownBy_alloc w _ none
  obtain ⟨v, hv⟩ : ∃ v, v = u.alloc (.cells #[.bool al] 4) := ⟨_, rfl⟩
  have gv : u.grownBy v none := hv ▸ World.grownBy_alloc u _ none
  obtain ⟨w1, w2, e1, e2, g1, g2, b1, b2, s⟩ := two_new v
  obtain ⟨w3, w4, h3, h4, b3, b4, g4⟩ := sto_two b1 b2 rfl rfl v g2 (Nat.le_refl _) (by omega) (by omega)
  have sv : v.heap.size = u.heap.size + 1 := by rw [hv]; simp
  rw [sv] at h3 h4 b3 b4
  refine ⟨w4, f13.run rfl ?_, grown_trans (grown_trans gu gv (by simp)) g4 (by simp)⟩
  simp [f13, s, box_any, Value.cells, ← hu, ← hv, al36, al40, ← e1, ← e2, opens_nil, bd36, bd40, h3, h4, lo36 b3, lo40 b4]
theorem bd48 : prun Tryz.prog (Instr.build 48 #[]) = some (.agg #[i0, i0, i0, i0]) := id (by kernel_rfl)
theorem bd48_1 : prun Tryz.prog (Instr.build 48 #[(2, (Value.int IntKind.i64 1)), (3, (Value.int IntKind.i64 1))]) = some (.agg #[i0, i0, .int .i64 1, .int .i64 1]) := id (by kernel_rfl)
theorem whole_nil (l : Int) (w : World) : ∃ w', C 8 #[.nilIface, .int .i64 l] w = some (.tuple #[.agg zf.toArray, .agg zr.toArray, .int .i64 1], w') ∧ w.grownBy w' none := by
  obtain ⟨w1, w2, e1, e2, g1, g2, b1, b2, s⟩ := two_new w
  obtain ⟨w3, h3, g3⟩ := region_nil #[i0, i0, i0, i0] true l w2
  obtain ⟨w4, w5, h4, h5, b4, b5, g5⟩ := sto_two (b1.grown g3 (by simp)) (b2.grown g3 (by simp)) rfl rfl w (grown_trans g2 g3 (by simp)) (Nat.le_refl _) (by omega) (by omega)
  refine ⟨w5, f8.run rfl ?_, g5⟩
  simp [f8, s, al36, al40, ← e1, ← e2, bd48, h3, h4, h5, lo36 b4, lo40 b5]
theorem lq48 {w : World} {b : Nat} {x y z u : Value} (h : Blk w b 48 [x, y, z, u]) : rrun Tryz.prog (Instr.loadAt 48 (.pointer (some ⟨b, 0, none⟩))) w = some (.agg #[x, y, z, u]) := load_agg (vs := [x, y, z, u]) (i := inf 48) (by kernel_rfl) (by kernel_rfl) (by rw [show (inf 48).size = 4 by kernel_rfl]; rfl) (cells_blk h)
theorem regions_nil (l : Int) (w : World) : ∃ w', C 10 #[.nilIface, .agg #[i0, i0, .int .i64 1, .int .i64 1], .int .i64 l] w = some (.tuple #[.agg zf.toArray, .agg zr.toArray, .int .i64 1], w') ∧ w.grownBy w' none := by
  obtain ⟨u, hu⟩ : ∃ u, u = w.alloc (.cells #[i0, i0, .int .i64 1, .int .i64 1] 48) := ⟨_, rfl⟩
  have gu : w.grownBy u none := hu ▸ World.grownBy_alloc w _ none
  have bu : Blk u w.heap.size 48 [i0, i0, .int .i64 1, .int .i64 1] := hu ▸ Blk.new w 48 [i0, i0, .int .i64 1, .int .i64 1]
  obtain ⟨w1, w2, e1, e2, g1, g2, b1, b2, s⟩ := two_new u
  have l48 := lq48 (bu.grown g2 (by simp))
  obtain ⟨w3, h3, g3⟩ := region_nil #[i0, i0, .int .i64 1, .int .i64 1] false l w2
  obtain ⟨w4, w5, h4, h5, b4, b5, g5⟩ := sto_two (b1.grown g3 (by simp)) (b2.grown g3 (by simp)) rfl rfl u (grown_trans g2 g3 (by simp)) (Nat.le_refl _) (by omega) (by omega)
  refine ⟨w5, f10.run rfl ?_, grown_trans gu g5 (by simp)⟩
  simp [f10, s, box_any, Value.cells, ← hu, al36, al40, ← e1, ← e2, l48, h3, h4, h5, lo36 b4, lo40 b5]
/-- both bounds answer alike -/
theorem bounds_alike (a b : Int) (wa : (Lit.int .i64 a).wf = true) (wb : (Lit.int .i64 b).wf = true) (w : World) : ∃ n e : Int, ∀ w, C 5 #[.int .i64 a, .int .i64 b] w = some (.tuple #[.int .i64 n, .int .i64 e], w) ∧ C 6 #[.int .i64 a, .int .i64 b] w = some (.tuple #[.int .i64 n, .int .i64 e], w) := by
  by_cases h : 0 ≤ a ∧ a ≤ 4194304 ∧ 0 ≤ b ∧ b ≤ 268435456
  · obtain ⟨h1, h2, h3, h4⟩ := h
    refine ⟨4 * a + 2 * b, 0, fun w => ⟨bound_ok a b w h1 h2 h3 h4, f6.run rfl ?_⟩⟩
    have e1 : IntKind.i64.wrap (4 * a) = 4 * a := wrap_i64 (by omega) (by omega)
    have e2 : IntKind.i64.wrap (2 * b) = 2 * b := wrap_i64 (by omega) (by omega)
    have e3 : IntKind.i64.wrap (4 * a + 2 * b) = 4 * a + 2 * b := wrap_i64 (by omega) (by omega)
    have n1 : ¬ a < 0 := by omega
    have n2 : ¬ a > 4194304 := by omega
    have n3 : ¬ b < 0 := by omega
    have n4 : ¬ b > 268435456 := by omega
    simp [f6, n1, n2, n3, n4, e1, e2, e3]
  · refine ⟨0, 1, fun w => ⟨f5.run rfl ?_, f6.run rfl ?_⟩⟩
    · by_cases h1 : a < 0
      · simp [f5, h1]
      by_cases h2 : a > 4194304
      · simp [f5, h1, h2]
      by_cases h3 : b < 0
      · simp [f5, h1, h2, h3]
      by_cases h4 : b > 268435456
      · simp [f5, h1, h2, h3, h4]
      exact absurd ⟨by omega, by omega, by omega, by omega⟩ h
    · by_cases h1 : a < 0
      · simp [f6, h1]
      by_cases h2 : a > 4194304
      · simp [f6, h1, h2]
      by_cases h3 : b < 0
      · simp [f6, h1, h2, h3]
      by_cases h4 : b > 268435456
      · simp [f6, h1, h2, h3, h4]
      exact absurd ⟨by omega, by omega, by omega, by omega⟩ h
theorem bounds_ok (a b : Int) (wa : (Lit.int .i64 a).wf = true) (wb : (Lit.int .i64 b).wf = true) (w : World) : ∃ w', C 3 #[.int .i64 a, .int .i64 b] w = some (.bool true, w') ∧ w.grownBy w' none := by
  obtain ⟨w1, h1, g1⟩ := alive_ok w
  obtain ⟨n, e, hb⟩ := bounds_alike a b wa wb w
  obtain ⟨w2, h2, g2⟩ := head_nil w1
  obtain ⟨w3, w4, e3, h4, b4, g4⟩ := hold31 w2
  obtain ⟨w5, h5, g5⟩ := whole_nil a w4
  obtain ⟨w6, w7, e6, e7, g6, g7, b6, b7, s7⟩ := two_new w5
  obtain ⟨w8, w9, h8, h9, b8, b9, g9⟩ := sto_two b6 b7 rfl rfl w5 g7 (Nat.le_refl _) (by omega) (by omega)
  obtain ⟨w10, h10, g10⟩ := slice_nil 0 a w9
  obtain ⟨w11, w12, e11, h12, b12, g12⟩ := hold40 w10
  obtain ⟨w13, h13, g13⟩ := regions_nil a w12
  obtain ⟨w14, w15, e14, e15, g14, g15, b14, b15, s15⟩ := two_new w13
  obtain ⟨w16, w17, h16, h17, b16, b17, g17⟩ := sto_two b14 b15 rfl rfl w13 g15 (Nat.le_refl _) (by omega) (by omega)
  have G5 : w4.grownBy w9 none := grown_trans g5 g9 (by simp)
  have G6 : w9.grownBy w17 none := grown_trans (grown_trans (grown_trans g10 g12 (by simp)) g13 (by simp)) g17 (by simp)
  have c4 := (b4.grown G5 (by simp)).grown G6 (by simp)
  have c8 := b8.grown G6 (by simp)
  have p8 := c8.cell_eq 4 (v := .slice none 0 0) rfl
  have p16 := b16.cell_eq 4 (v := .slice none 0 0) rfl
  refine ⟨w17, f3.run rfl ?_, grown_trans (grown_trans (grown_trans (grown_trans g1 g2 (by simp)) g4 (by simp)) G5 (by simp)) G6 (by simp)⟩
  simp only [i0] at h13
  simp [f3, s7, s15, h1, (hb _).1, (hb _).2, h2, al31, ← e3, h4, h5, al36, al40, ← e6, ← e7, h8, h9, h10, ← e11, h12, bd48_1, i0, h13, ← e14, ← e15, h16, h17, lo31 c4, bd31, eq31, addL, p8, p16]
theorem below_of_grown {w w' : World} (h : w.grownBy w' none) : Below w.heap.size w w' := ⟨h.os, h.tape, h.output, h.size, fun k hk => h.block k hk (by simp)⟩
theorem bounds_walk (W : World) (a : Int) (wa : (Lit.int .i64 a).wf = true) (b : Int) (wb : (Lit.int .i64 b).wf = true) (hL : laidMetH Tryz.prog Rows.viewBoundsRow.laid W) : Calls Tryz.prog 3 #[.int .i64 a, .int .i64 b] W fun e w' => e = .returned (.bool true) ∧ Below W.heap.size W w' := by
  obtain ⟨w', h, g⟩ := bounds_ok a b wa wb W
  exact (calls_of_run (by kernel_rfl) noPrim_ok h).mono fun e v ⟨h1, h2⟩ => ⟨h1, h2 ▸ below_of_grown g⟩
end Go.Sh.YtnagdileofjkeaaGreatDoor
