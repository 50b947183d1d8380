/- The layer 'Sh', fourth part: what the operations tell at values that are known. No condition but those that each law names. -/
import Derived.Test.YtkghbcadnbojgaaGreatDoorShRun
import Derived.Below
import Derived.Laws.AppendOwn
import Derived.Laws.MakeOwn
import Derived.Laws.Slices
import Derived.Laws.OwnMore
import Derived.Laws.BytesString
import Derived.Laws.CopyRow
namespace Go.Sh
open Go Go.RowKit
set_option linter.unusedSimpArgs false

/-! ### values -/
@[simp] theorem asB_bool (b : Bool) : asB (.bool b) = some b := id rfl
@[simp] theorem pickV_true (a b : Value) : pickV (.bool true) a b = some a := id rfl
@[simp] theorem pickV_false (a b : Value) : pickV (.bool false) a b = some b := id rfl
@[simp] theorem nilV_some (P : Program) (a : Addr) : nilV P (.pointer (some a)) = some (.pointer (some a)) := id rfl
theorem pickV_bool (c : Bool) (a b : Value) : pickV (.bool c) a b = some (if c then a else b) := by cases c <;> rfl
@[simp] theorem bin_add (k : IntKind) (a b : Int) : bin .add (.int k a) (.int k b) = some (.int k (k.wrap (a + b))) := by simp [bin]
@[simp] theorem bin_sub (k : IntKind) (a b : Int) : bin .sub (.int k a) (.int k b) = some (.int k (k.wrap (a - b))) := by simp [bin]
@[simp] theorem bin_mul (k : IntKind) (a b : Int) : bin .mul (.int k a) (.int k b) = some (.int k (k.wrap (a * b))) := by simp [bin]
theorem bin_quo (k : IntKind) (a b : Int) (h : b ≠ 0) : bin .quo (.int k a) (.int k b) = some (.int k (k.wrap (a.tdiv b))) := by simp [bin, h]
theorem bin_rem (k : IntKind) (a b : Int) (h : b ≠ 0) : bin .rem (.int k a) (.int k b) = some (.int k (a.tmod b)) := by simp [bin, h]
@[simp] theorem bin_eql (k : IntKind) (a b : Int) : bin .eql (.int k a) (.int k b) = some (.bool (a == b)) := by simp [bin]
@[simp] theorem bin_neq (k : IntKind) (a b : Int) : bin .neq (.int k a) (.int k b) = some (.bool (a != b)) := by simp [bin]
@[simp] theorem bin_lss (k : IntKind) (a b : Int) : bin .lss (.int k a) (.int k b) = some (.bool (a < b)) := by simp [bin]
@[simp] theorem bin_leq (k : IntKind) (a b : Int) : bin .leq (.int k a) (.int k b) = some (.bool (a ≤ b)) := by simp [bin]
@[simp] theorem bin_gtr (k : IntKind) (a b : Int) : bin .gtr (.int k a) (.int k b) = some (.bool (a > b)) := by simp [bin]
@[simp] theorem bin_geq (k : IntKind) (a b : Int) : bin .geq (.int k a) (.int k b) = some (.bool (a ≥ b)) := by simp [bin]
@[simp] theorem nth_zero (v : Value) (r : List Value) : nth (v :: r) 0 = v := id rfl
@[simp] theorem nth_succ (v : Value) (r : List Value) (i : Nat) : nth (v :: r) (i + 1) = nth r i := id rfl
@[simp] theorem done_ret (v : Value) (w : World) : (Res.ret [v] w).done = some (v, w) := id rfl
@[simp] theorem done_norm (v : Value) (w : World) : (Res.norm [v] w).done = some (v, w) := id rfl
@[simp] theorem done_ret2 (u v : Value) (r : List Value) (w : World) : (Res.ret (u :: v :: r) w).done = some (.tuple (u :: v :: r).toArray, w) := id rfl
@[simp] theorem done_norm2 (u v : Value) (r : List Value) (w : World) : (Res.norm (u :: v :: r) w).done = some (.tuple (u :: v :: r).toArray, w) := id rfl
@[simp] theorem done_ret0 (w : World) : (Res.ret [] w).done = some (.tuple #[], w) := id rfl
@[simp] theorem doneR_ret (P : Program) (vars : List ResultVar) (vs : List Value) (w : World) : (Res.ret vs w).doneR P vars = (loadsOf P vars vs w).bind fun us => some (outcome us, w) := id rfl
@[simp] theorem doneR_norm (P : Program) (vars : List ResultVar) (vs : List Value) (w : World) : (Res.norm vs w).doneR P vars = (loadsOf P vars vs w).bind fun us => some (outcome us, w) := id rfl
@[simp] theorem loadsOf_nil (P : Program) (vs : List Value) (w : World) : loadsOf P [] vs w = some [] := id (by cases vs <;> rfl)
@[simp] theorem loadsOf_tmp (P : Program) (t : Nat) (r : List ResultVar) (v : Value) (vs : List Value) (w : World) : loadsOf P (.tmp t :: r) (v :: vs) w = (loadsOf P r vs w).bind fun us => some (v :: us) := id rfl
@[simp] theorem loadsOf_cell (P : Program) (s : Nat) (t : TypeId) (r : List ResultVar) (a : Addr) (vs : List Value) (w : World) : loadsOf P (.cell s t :: r) (.pointer (some a) :: vs) w = (rrun P (Instr.loadAt t (.pointer (some a))) w).bind fun u => (loadsOf P r vs w).bind fun us => some (u :: us) := id rfl
@[simp] theorem outcome_one (v : Value) : outcome [v] = v := id rfl
@[simp] theorem outcome_two (u v : Value) (r : List Value) : outcome (u :: v :: r) = .tuple (u :: v :: r).toArray := id rfl
@[simp] theorem done_norm0 (w : World) : (Res.norm [] w).done = some (.tuple #[], w) := id rfl
@[simp] theorem cont_norm (vs : List Value) (w : World) (k : List Value → World → Option Res) : (Res.norm vs w).cont k = k vs w := id rfl
@[simp] theorem cont_exit (i : Nat) (vs : List Value) (w : World) (k : List Value → World → Option Res) : (Res.exit i vs w).cont k = some (.exit i vs w) := id rfl
@[simp] theorem cont_ret (vs : List Value) (w : World) (k : List Value → World → Option Res) : (Res.ret vs w).cont k = some (.ret vs w) := id rfl
@[simp] theorem unblock_exit (i : Nat) (vs : List Value) (w : World) : (Res.exit i vs w).unblock i = .norm vs w := by simp [Res.unblock]
theorem unblock_exit_ne {i j : Nat} (h : i ≠ j) (vs : List Value) (w : World) : (Res.exit i vs w).unblock j = .exit i vs w := by simp [Res.unblock, h]
@[simp] theorem unblock_norm (i : Nat) (vs : List Value) (w : World) : (Res.norm vs w).unblock i = .norm vs w := id rfl
@[simp] theorem unblock_ret (i : Nat) (vs : List Value) (w : World) : (Res.ret vs w).unblock i = .ret vs w := id rfl
/-- a test under '||' or '&&' that reads nothing -/
@[simp] theorem or_pure (b c : Bool) (w : World) : (if b = false then some (Value.bool c, w) else some (Value.bool true, w)) = some (.bool (b || c), w) := by cases b <;> rfl
@[simp] theorem and_pure (b c : Bool) (w : World) : (if b = true then some (Value.bool c, w) else some (Value.bool false, w)) = some (.bool (b && c), w) := by cases b <;> rfl
theorem wrap_i64 {x : Int} (h1 : -9223372036854775808 ≤ x) (h2 : x ≤ 9223372036854775807) : IntKind.i64.wrap x = x := by
  simp only [IntKind.wrap, IntKind.signed, IntKind.bits]; simp; omega
theorem wrap_u8 {x : Int} (h1 : 0 ≤ x) (h2 : x ≤ 255) : IntKind.u8.wrap x = x := by
  simp only [IntKind.wrap, IntKind.signed, IntKind.bits]; simp; omega

/-- the simplifier looks at a step's rest only when the step is known -/
@[congr] theorem bind_first {α β : Type} {x y : Option α} {f : α → Option β} (h : x = y) : x.bind f = y.bind f := by rw [h]
@[simp ↓] theorem bind_some_first {α β : Type} (a : α) (f : α → Option β) : (some a).bind f = f a := id rfl
@[simp high] theorem bind_some_last {α β : Type} (a : α) (f : α → Option β) : (some a).bind f = f a := id rfl
@[simp high] theorem bind_none_last {α β : Type} (f : α → Option β) : (none : Option α).bind f = none := id rfl
@[simp ↓] theorem cont_norm_first (vs : List Value) (w : World) (k : List Value → World → Option Res) : (Res.norm vs w).cont k = k vs w := id rfl
@[simp ↓] theorem cont_exit_first (i : Nat) (vs : List Value) (w : World) (k : List Value → World → Option Res) : (Res.exit i vs w).cont k = some (.exit i vs w) := id rfl
@[simp ↓] theorem cont_ret_first (vs : List Value) (w : World) (k : List Value → World → Option Res) : (Res.ret vs w).cont k = some (.ret vs w) := id rfl
@[congr] theorem chk_first {ρ : Type} {c d : Prop} {x : Option ρ} (h : c = d) : chkThen c x = chkThen d x := by rw [h]
@[simp ↓] theorem chk_true {ρ : Type} (x : Option ρ) : chkThen True x = x := if_pos trivial
@[congr] theorem cont_first {x y : Res} {k : List Value → World → Option Res} (h : x = y) : x.cont k = y.cont k := by rw [h]

/-! ### runs -/
section
variable {P : Program}
theorem prun_bind {α β : Type} (s : Sem α) (f : α → Sem β) : prun P (s >>= f) = (prun P s).bind fun a => prun P (f a) := by
  show prun P (Sem.bind s f) = _
  induction s with
  | pure a => rfl
  | program k ih => exact ih _
  | mark m k ih => exact ih
  | _ => simp [prun, Sem.bind]
@[simp] theorem prun_map {α β : Type} (s : Sem α) (f : α → β) : prun P (f <$> s) = (prun P s).map f := by
  have : (f <$> s) = (s >>= fun a => pure (f a)) := (bind_pure_comp f s).symm
  rw [this, prun_bind]
  cases prun P s <;> rfl
@[simp] theorem prun_pure {α : Type} (a : α) : prun P (pure a : Sem α) = some a := id rfl
@[simp] theorem prun_program : prun P program = some P := id rfl
theorem prun_underlying {t : TypeId} {d : TypeDesc} (h : P.underlying t = some d) : prun P (underlying t) = some d := by
  unfold underlying; simp [prun_bind, h]
theorem prun_typeInfo {t : TypeId} {i : TypeInfo} (h : P.info? t = some i) : prun P (typeInfo t) = some i := by
  unfold typeInfo; simp [prun_bind, h]
theorem prun_sizeOf {t : TypeId} {i : TypeInfo} (h : P.info? t = some i) : prun P (sizeOf t) = some i.size := by
  unfold sizeOf; simp [prun_bind, prun_typeInfo h]
theorem rrun_bind {α β : Type} (s : Sem α) (f : α → Sem β) (w : World) : rrun P (s >>= f) w = (rrun P s w).bind fun a => rrun P (f a) w := by
  show rrun P (Sem.bind s f) w = _
  induction s with
  | pure a => rfl
  | program k ih => exact ih _
  | mark m k ih => exact ih
  | load m a k ih =>
    simp only [Sem.bind, rrun]
    split
    · exact ih _
    · rfl
  | shape r k ih => exact ih _
  | frozen a k ih => exact ih _
  | getObj r k ih =>
    simp only [Sem.bind, rrun]
    split
    · rfl
    · exact ih _
    · rfl
  | _ => simp [rrun, Sem.bind]
@[simp] theorem rrun_map {α β : Type} (s : Sem α) (f : α → β) (w : World) : rrun P (f <$> s) w = (rrun P s w).map f := by
  have : (f <$> s) = (s >>= fun a => pure (f a)) := (bind_pure_comp f s).symm
  rw [this, rrun_bind]
  cases rrun P s w <;> rfl
theorem rrun_of_prun {α : Type} {s : Sem α} {a : α} (h : prun P s = some a) (w : World) : rrun P s w = some a := by
  induction s with
  | pure b => simpa [prun, rrun] using h
  | program k ih => exact ih _ h
  | mark m k ih => exact ih h
  | _ => simp [prun] at h
@[simp] theorem rrun_pure {α : Type} (a : α) (w : World) : rrun P (pure a : Sem α) w = some a := id rfl
@[simp] theorem rrun_load (a : Addr) (w : World) : rrun P (load a) w = w.cell? a := by
  unfold load
  simp only [rrun]
  cases w.cell? a <;> rfl
theorem erun_of_run {α : Type} {s : Sem α} {a : α} {w w' : World} (h : s.run P w = .ok a w') : erun P s w = some (a, w') := by
  unfold erun; rw [h]
theorem erun_bind {α β : Type} (s : Sem α) (f : α → Sem β) (w : World) : erun P (s >>= f) w = (erun P s w).bind fun r => erun P (f r.1) r.2 := by
  unfold erun
  rw [run_bind]
  cases s.run P w <;> rfl
theorem erun_of_prun {α : Type} {s : Sem α} {a : α} (h : prun P s = some a) (w : World) : erun P s w = some (a, w) := erun_of_run (prun_run h w)
theorem erun_of_rrun {α : Type} {s : Sem α} {a : α} {w : World} (h : rrun P s w = some a) : erun P s w = some (a, w) := erun_of_run (rrun_run h)

theorem len_slice {t e : TypeId} (ht : P.underlying t = some (.slice e)) (ty : TypeId) (a : Option Addr) (n c : Nat) : prun P (Builtin.len_ #[t] ty #[.slice a n c]) = some (.int .i64 n) := by
  unfold Builtin.len_
  simp [prun_bind, prun_underlying ht, goInt]
theorem len_string {t : TypeId} (ht : P.underlying t = some .string) (ty : TypeId) (s : ByteArray) : prun P (Builtin.len_ #[t] ty #[.string s]) = some (.int .i64 s.size) := by
  unfold Builtin.len_
  simp [prun_bind, prun_underlying ht, goInt]
theorem index_slice {t e : TypeId} {i : TypeInfo} (ht : P.underlying t = some (.slice e)) (hi : P.info? e = some i) (a : Addr) (n c : Nat) (k : IntKind) (j : Int) (h0 : 0 ≤ j) (h1 : j < n) :
    prun P (Instr.indexAt t (.slice (some a) n c) (.int k j)) = some (.pointer (some (a.add (j.toNat * i.size)))) := by
  unfold Instr.indexAt
  simp [prun_bind, prun_underlying ht, asIntOf, h0, h1, prun_sizeOf hi]
theorem slice_at {t e : TypeId} {i : TypeInfo} (ht : P.underlying t = some (.slice e)) (hi : P.info? e = some i) (a : Option Addr) (n c : Nat) (lo hi' mx : Option Value) (l h m : Nat)
    (hb : prun P (Instr.sliceBounds true n c lo hi' mx) = some (l, h, m)) :
    prun P (Instr.sliceAt t (.slice a n c) lo hi' mx) = some (.slice (if m = l then a else a.map (·.add (l * i.size))) (h - l) (m - l)) := by
  unfold Instr.sliceAt
  simp only [prun_bind, prun_underlying ht, Option.bind_some]
  unfold Instr.slice
  simp [prun_bind, prun_underlying ht, hb, prun_sizeOf hi]
theorem bound_ok (k : IntKind) (x : Int) (y : Nat) (code : BoundsCode) (h0 : 0 ≤ x) (h1 : x ≤ y) : prun P (Instr.sliceBound (.int k x) y code) = some x.toNat := by
  unfold Instr.sliceBound
  simp [prun_bind, asIntOf, h0, h1]
theorem bounds_hi (n c : Nat) (k : IntKind) (h : Int) (h0 : 0 ≤ h) (h1 : h ≤ c) : prun P (Instr.sliceBounds true n c none (some (.int k h)) none) = some (0, h.toNat, c) := by
  unfold Instr.sliceBounds
  simp [prun_bind, bound_ok k h c _ h0 h1]
theorem bounds_lo (n c : Nat) (k : IntKind) (l : Int) (h0 : 0 ≤ l) (h1 : l ≤ n) : prun P (Instr.sliceBounds true n c (some (.int k l)) none none) = some (l.toNat, n, c) := by
  unfold Instr.sliceBounds
  simp [prun_bind, bound_ok k l n _ h0 h1]
theorem bounds_lohi (n c : Nat) (k k' : IntKind) (l h : Int) (h0 : 0 ≤ l) (h1 : l ≤ h) (h2 : h ≤ c) : prun P (Instr.sliceBounds true n c (some (.int k l)) (some (.int k' h)) none) = some (l.toNat, h.toNat, c) := by
  unfold Instr.sliceBounds
  simp [prun_bind, bound_ok k' h c _ (by omega) h2, bound_ok k l h.toNat _ h0 (by omega)]
theorem bounds_all (n c : Nat) (k k' k'' : IntKind) (l h m : Int) (h0 : 0 ≤ l) (h1 : l ≤ h) (h2 : h ≤ m) (h3 : m ≤ c) : prun P (Instr.sliceBounds true n c (some (.int k l)) (some (.int k' h)) (some (.int k'' m))) = some (l.toNat, h.toNat, m.toNat) := by
  unfold Instr.sliceBounds
  simp [prun_bind, bound_ok k'' m c _ (by omega) h3, bound_ok k' h m.toNat _ (by omega) (by omega), bound_ok k l h.toNat _ h0 (by omega)]
theorem bounds_himax (n c : Nat) (k k' : IntKind) (h m : Int) (h1 : 0 ≤ h) (h2 : h ≤ m) (h3 : m ≤ c) : prun P (Instr.sliceBounds true n c none (some (.int k h)) (some (.int k' m))) = some (0, h.toNat, m.toNat) := by
  unfold Instr.sliceBounds
  simp [prun_bind, bound_ok k' m c _ (by omega) h3, bound_ok k h m.toNat _ (by omega) (by omega)]
@[simp] theorem extract_two0 (u v : Value) : prun P (Instr.extract (.tuple #[u, v]) 0) = some u := id rfl
@[simp] theorem extract_two1 (u v : Value) : prun P (Instr.extract (.tuple #[u, v]) 1) = some v := id rfl
@[simp] theorem extract_three0 (u v x : Value) : prun P (Instr.extract (.tuple #[u, v, x]) 0) = some u := id rfl
@[simp] theorem extract_three1 (u v x : Value) : prun P (Instr.extract (.tuple #[u, v, x]) 1) = some v := id rfl
@[simp] theorem extract_three2 (u v x : Value) : prun P (Instr.extract (.tuple #[u, v, x]) 2) = some x := id rfl
@[simp] theorem un_not (b : Bool) : prun P (Op.unary .not (.bool b)) = some (.bool !b) := id rfl
@[simp] theorem un_neg (k : IntKind) (a : Int) : prun P (Op.unary .neg (.int k a)) = some (.int k (k.wrap (0 - a))) := id rfl

@[simp] theorem add0 (a : Addr) : a.add 0 = a := by simp [Addr.add]
theorem addL (b o n : Nat) : (⟨b, o, none⟩ : Addr).add n = ⟨b, o + n, none⟩ := by unfold Addr.add; split <;> simp_all
@[simp] theorem add_block (a : Addr) (n : Nat) : (a.add n).block = a.block := by unfold Addr.add; split <;> rfl
/-! ### memory -/
def isAggB (P : Program) (t : TypeId) : Bool := match P.underlying t with
  | some (.struct _) | some (.array _ _) => true
  | _ => false
theorem load_one {t : TypeId} {d : TypeDesc} (ht : P.underlying t = some d) (hd : isAggB P t = false) (a : Addr) (w : World) : rrun P (Instr.loadAt t (.pointer (some a))) w = w.cell? a := by
  have h : prun P (isAgg t) = some false := by
    unfold isAgg
    unfold isAggB at hd
    rw [ht] at hd
    simp only [prun_bind, prun_underlying ht, Option.bind_some]
    cases d <;> first | rfl | cases hd
  unfold Instr.loadAt loadVar
  simp [rrun_bind, Instr.sureAddr, rrun_of_prun h]
/-- so many cells from a place on -/
def cellsAt (w : World) (a : Addr) : Nat → List Value → Prop
  | _, [] => True
  | i, v :: r => w.cell? (a.add i) = some v ∧ cellsAt w a (i + 1) r
theorem loadCellsFrom_ok {w : World} {a : Addr} : ∀ (vs : List Value) (i : Nat) (acc : Array Value), cellsAt w a i vs → rrun P (loadCellsFrom a i vs.length acc) w = some (acc ++ vs.toArray) := by
  intro vs
  induction vs with
  | nil => intro i acc _; simp [loadCellsFrom]
  | cons v r ih =>
    intro i acc h
    simp only [List.length_cons, loadCellsFrom, rrun_bind, rrun_load, h.1, Option.bind_some]
    rw [ih (i + 1) _ h.2]
    congr 1
    apply Array.ext'
    simp
theorem load_agg {t : TypeId} {i : TypeInfo} (hi : P.info? t = some i) (hd : isAggB P t = true) {a : Addr} {w : World} {vs : List Value} (hl : vs.length = i.size) (h : cellsAt w a 0 vs) :
    rrun P (Instr.loadAt t (.pointer (some a))) w = some (.agg vs.toArray) := by
  have h' : prun P (isAgg t) = some true := by
    unfold isAggB at hd
    unfold isAgg
    cases hu : P.underlying t with
    | none => rw [hu] at hd; cases hd
    | some d =>
      rw [hu] at hd
      simp only [prun_bind, prun_underlying hu, Option.bind_some]
      cases d <;> first | rfl | cases hd
  unfold Instr.loadAt loadVar
  have := loadCellsFrom_ok (P := P) vs 0 #[] h
  simp [rrun_bind, Instr.sureAddr, rrun_of_prun h', rrun_of_prun (prun_sizeOf hi), loadCells, ← hl, this]
theorem store_one {t : TypeId} {i : TypeInfo} (hi : P.info? t = some i) (hs : i.size = 1) {a : Addr} {w : World} {v u : Value} (hv : v.cells = #[v]) (ho : v.oneCell' = true) (hc : w.cell? a = some u) (hf : w.frozen? a = false) :
    erun P (Instr.storeAt t (.pointer (some a)) v) w = some ((), w.setCell a v) := by
  refine erun_of_run ?_
  unfold Instr.storeAt storeVar
  have e1 : (Instr.sureAddr (.pointer (some a))).run P w = .ok a w := rfl
  rw [run_ok e1, run_ok (prun_run (prun_sizeOf hi) w), hv]
  simp only [hs, List.size_toArray, List.length_singleton, ne_eq, not_true_eq_false, if_false]
  have e2 : (store (a.add 0) v).run P w = .ok () (w.setCell a v) := by
    show Sem.run P (Sem.store _ _ _ _) w = _
    cases v <;> simp [Value.oneCell'] at ho <;> simp [Sem.run, Addr.add, hc, hf] <;> rfl
  simp only [storeCells]
  rw [run_bind]
  have e3 : (do pure () : Sem Unit).run P w = .ok () w := rfl
  simp only [run_bind, e2]
  rfl
theorem box_any {t : TypeId} {v : Value} {w : World} : erun P (Instr.box t v) w = some (.pointer (some ⟨w.heap.size, 0, none⟩), w.alloc (.cells v.cells t)) := rfl

/-- what a slice reads: cells from a place on; none, if it has none -/
def Rd (w : World) (A : Option Addr) (cs : List Value) : Prop := match A with
  | none => cs = []
  | some a => ∀ (j : Nat) (v : Value), cs[j]? = some v → w.cell? (a.add j) = some v
theorem Rd.of_same {w w' : World} {A : Option Addr} {cs : List Value} (h : Rd w A cs) (hb : ∀ a, A = some a → w'.heap[a.block]? = w.heap[a.block]?) : Rd w' A cs := by
  cases A with
  | none => exact h
  | some a =>
    intro j v hj
    have : (a.add j).block = a.block := by unfold Addr.add; split <;> rfl
    rw [World.cell?_of_block (w := w) (by rw [this]; exact hb a rfl)]
    exact h j v hj
theorem Rd.lt {w : World} {a : Addr} {cs : List Value} (h : Rd w (some a) cs) (hn : cs ≠ []) : a.block < w.heap.size := by
  cases cs with
  | nil => exact absurd rfl hn
  | cons v r =>
    have := World.block_lt_of_cell? w _ (h 0 v rfl)
    simpa [Addr.add] using this
/-- a part of it -/
theorem Rd.part {w : World} {a : Addr} {cs : List Value} (h : Rd w (some a) cs) (l n : Nat) : Rd w (some (a.add l)) ((cs.drop l).take n) := by
  intro j v hj
  have h1 : cs[l + j]? = some v := by
    rw [List.getElem?_take] at hj
    split at hj
    · rwa [List.getElem?_drop] at hj
    · cases hj
  have := h (l + j) v h1
  have e : (a.add l).add j = a.add (l + j) := by
    unfold Addr.add
    by_cases hl : l = 0 <;> by_cases hj : j = 0 <;> simp [hl, hj, Nat.add_assoc]
  rwa [e]
theorem Rd.take {w : World} {A : Option Addr} {cs : List Value} (h : Rd w A cs) (n : Nat) : Rd w A (cs.take n) := by
  cases A with
  | none => have : cs = [] := h; subst this; simp [Rd]
  | some a => intro j v hj; exact h j v (by rw [List.getElem?_take] at hj; split at hj <;> first | exact hj | cases hj)
theorem Rd.nil (w : World) (A : Option Addr) : Rd w A [] := by
  cases A with
  | none => rfl
  | some a => intro j v h; simp at h
theorem Rd.sliced {w : World} {A : Option Addr} {cs : List Value} (hr : Rd w A cs) (l h m size : Nat) (h1 : l ≤ h) (h2 : h ≤ m) :
    Rd w (if m = l then A else A.map (·.add (l * size))) ((cs.drop (l * size)).take ((h - l) * size)) := by
  split
  · rename_i hm
    have : (h - l) * size = 0 := by rw [show h - l = 0 by omega]; simp
    rw [this]
    exact Rd.nil w A
  · cases A with
    | none => have hcs : cs = [] := hr; subst hcs; simp [Rd]
    | some a => exact hr.part (l * size) ((h - l) * size)
theorem sliced_nil {A : Option Addr} {l m c size : Nat} (hnil : A = none → c = 0) (hm : m ≤ c) : (if m = l then A else A.map (·.add (l * size))) = none → m - l = 0 := by
  intro h
  split at h
  · omega
  · have : A = none := by simpa using h
    have := hnil this
    omega
theorem own_nil {w : World} {base : Nat} {e : TypeId} {size n c : Nat} {A : Option Addr} {xs : List Value} (h : w.ownsRow base e size (.slice A n c) n xs) : A = none → c = 0 := by
  intro hA
  subst hA
  rcases h.2 with ⟨h1, _⟩ | ⟨g, cap, cur, hv, _⟩
  · simp at h1; exact h1.2
  · simp at hv
theorem grown_trans {w1 w2 w3 : World} {row : Option Nat} (h1 : w1.grownBy w2 none) (h2 : w2.grownBy w3 row) (hrow : ∀ k, row = some k → w1.heap.size ≤ k) : w1.grownBy w3 none :=
  ⟨h2.os.trans h1.os, h2.tape.trans h1.tape, h2.output.trans h1.output, Nat.le_trans h1.size h2.size, fun k hk _ => by
    rw [h2.block k (Nat.lt_of_lt_of_le hk h1.size) (fun e => by have := hrow k e.symm; omega)]
    exact h1.block k hk (by simp)⟩
theorem own_base {w : World} {B B' : Nat} {e : TypeId} {size n : Nat} {v : Value} {xs : List Value} (h : w.ownsRow B e size v n xs) (hB : B' ≤ B) : w.ownsRow B' e size v n xs := by
  refine ⟨h.1, ?_⟩
  rcases h.2 with h1 | ⟨g, cap, cur, hv, hb, r⟩
  · exact .inl h1
  · exact .inr ⟨g, cap, cur, hv, by omega, r⟩
theorem grown_refl (w : World) (row : Option Nat) : w.grownBy w row := ⟨rfl, rfl, rfl, Nat.le_refl _, fun _ _ _ => rfl⟩
theorem Rd.grown {w w' : World} {A : Option Addr} {cs : List Value} (h : Rd w A cs) (hg : w.grownBy w' none) : Rd w' A cs := by
  cases A with
  | none => exact h
  | some a =>
    by_cases hcs : cs = []
    · subst hcs; exact Rd.nil _ _
    · exact h.of_same fun b hb => by cases hb; exact hg.block _ (h.lt hcs) (by simp)
theorem Rd.owned {w : World} {base : Nat} {e : TypeId} {size n : Nat} {A : Option Addr} {c : Nat} {xs : List Value} (h : w.ownsRow base e size (.slice A n c) n xs) : Rd w A xs := by
  cases A with
  | none =>
    rcases h.2 with ⟨_, h2⟩ | ⟨g, cap, cur, hv, _⟩
    · have := h.1; rw [h2] at this; exact List.eq_nil_of_length_eq_zero (by simpa using this)
    · simp at hv
  | some a =>
    rcases h.2 with ⟨h1, _⟩ | ⟨g, cap, cur, hv, _⟩
    · simp at h1
    · simp only [Value.slice.injEq, Option.some.injEq] at hv
      have := h.cells (g := g) (by simp [Value.ownBlock, hv.1])
      rw [hv.1]
      exact this
theorem Rd.own {w : World} {base : Nat} {e : TypeId} {size n : Nat} {A : Option Addr} {c : Nat} {xs : List Value} (h : w.ownsRow base e size (.slice A n c) n xs) : Rd w A xs := by
  cases A with
  | none =>
    rcases h.2 with ⟨_, h2⟩ | ⟨g, cap, cur, hv, _⟩
    · have := h.1; rw [h2] at this; exact List.eq_nil_of_length_eq_zero (by simpa using this)
    · simp at hv
  | some a =>
    rcases h.2 with ⟨h1, _⟩ | ⟨g, cap, cur, hv, _⟩
    · simp at h1
    · simp only [Value.slice.injEq, Option.some.injEq] at hv
      have := h.cells (g := g) (by simp [Value.ownBlock, hv.1])
      rw [hv.1]
      exact this
/-- its shape -/
theorem own_form {w : World} {base : Nat} {e : TypeId} {size n : Nat} {v : Value} {xs : List Value} (h : w.ownsRow base e size v n xs) : ∃ A c, v = .slice A n c ∧ n ≤ c ∧ c ≤ maxLen := by
  rcases h.2 with ⟨h1, h2⟩ | ⟨g, cap, cur, hv, _, _, h3, h4, _⟩
  · exact ⟨none, 0, by rw [h1, h2], by omega, by simp [maxLen]⟩
  · exact ⟨_, _, hv, h3, h4⟩

theorem e_append {w : World} {base : Nat} {t ty e : TypeId} {i : TypeInfo} {z : Value} {size bytes : Nat} (ht : P.underlying t = some (.slice e)) (hi : P.info? e = some i) (hz : i.zero = some z)
    (hsize : i.size = size) (hby : i.bytes = bytes) (hzs : z.cells.size = size) (hsz : 0 < size) {v : Value} {n : Nat} {xs : List Value} (hown : w.ownsRow base e size v n xs)
    {A : Option Addr} {m c : Nat} {news : List Value} (hl : news.length = m * size) (hr : Rd w A news) (hnil : A = none → c = 0) (h1 : ∀ u ∈ news, u.oneCell' = true)
    (h63 : n + m ≤ maxLen) (hbytes : (n + m) * bytes ≤ 140737488355328) (hbase : base ≤ w.heap.size) :
    ∃ v' w', erun P (Builtin.append_ #[t, t] ty #[v, .slice A m c]) w = some (v', w') ∧ w'.ownsRow base e size v' (n + m) (xs ++ news) ∧ w.grownBy w' v.ownBlock := by
  cases A with
  | some a =>
    obtain ⟨v', w', h2, h3, h4, _⟩ := run_append_own (P := P) w base t ty e i z size bytes ht hi hz hsize hby hzs hsz v n xs hown a m c news hl hr h1 h63 hbytes hbase
    exact ⟨v', w', erun_of_run h2, h3, h4⟩
  | none =>
    have hn : news = [] := hr
    subst hn
    have hm : m = 0 := by
      have h : m * size = 0 := by simpa using hl.symm
      rcases Nat.mul_eq_zero.mp h with h | h
      · exact h
      · omega
    have hc := hnil rfl
    subst hm
    subst hc
    refine ⟨v, w, erun_of_run (run_append_owned_none (P := P) (w := w) base t ty e i size ht hi v n xs hown), by simpa using hown, ⟨rfl, rfl, rfl, Nat.le_refl _, fun _ _ _ => rfl⟩⟩
theorem e_make {w : World} {base : Nat} {t e : TypeId} {i : TypeInfo} {z : Value} {size : Nat} (ht : P.underlying t = some (.slice e)) (hi : P.info? e = some i) (hz : i.zero = some z) (hsize : i.size = size)
    (kl kc : IntKind) (n : Nat) (hbytes : i.bytes * n ≤ 281474976710656) (h63 : n ≤ maxLen) (hbase : base ≤ w.heap.size) :
    ∃ w', erun P (Instr.makeSlice t (.int kl (n : Int)) (.int kc (n : Int))) w = some (.slice (some ⟨w.heap.size, 0, none⟩) n n, w') ∧
      w'.ownsRow base e size (.slice (some ⟨w.heap.size, 0, none⟩) n n) n (madeCells z.cells (n * size)).toList ∧ w.grownBy w' none := by
  obtain ⟨w', h1, h2, h3⟩ := run_make_full (P := P) (w := w) base t e i z size ht hi hz hsize kl kc n hbytes h63 hbase
  exact ⟨w', erun_of_run h1, h2, h3⟩
/-- bytes as a list, as a text -/
def bv (l : List UInt8) : List Value := l.map fun x => .int .u8 x.toNat
@[simp] theorem length_bv (l : List UInt8) : (bv l).length = l.length := by simp [bv]
theorem bv_one (l : List UInt8) : ∀ u ∈ bv l, u.oneCell' = true := by
  intro u hu
  obtain ⟨x, _, rfl⟩ := List.mem_map.mp hu
  rfl
theorem rrun_forIn_bytes {w : World} (f : Value → ByteArray → Sem (ForInStep ByteArray)) (hf : ∀ (n : Int) (r : ByteArray), rrun P (f (.int .u8 n) r) w = some (.yield (r.push (UInt8.ofNat n.toNat)))) :
    ∀ (l : List UInt8) (s : ByteArray), rrun P (forIn (bv l) s f) w = some ⟨s.data ++ l.toArray⟩ := by
  intro l
  induction l with
  | nil => intro s; simp [bv]
  | cons x r ih =>
    intro s
    have h := ih (s.push x)
    simp only [bv, List.map_cons, List.forIn_cons, rrun_bind, hf, Option.bind_some] at h ⊢
    have hx : UInt8.ofNat (x.toNat : Int).toNat = x := by simp
    rw [hx, h]
    congr 2
    simp [ByteArray.push]
theorem e_text {w : World} {src dst e : TypeId} (hs : P.underlying src = some (.slice e)) (he : P.underlying e = some (.int .u8)) (hd : P.underlying dst = some .string)
    {A : Option Addr} {c : Nat} {l : List UInt8} {n : Nat} (hn : l.length = n) (hr : Rd w A (bv l)) : rrun P (convert src dst (.slice A n c)) w = some (.string ⟨l.toArray⟩) := by
  subst hn
  have h0 : rrun P (convert src dst (.slice A l.length c)) w = rrun P (Conv.bytesToString (.slice A l.length c)) w := by
    unfold convert
    simp only [rrun_bind, rrun_of_prun (prun_underlying hs), rrun_of_prun (prun_underlying hd), Option.bind_some, rrun_of_prun (prun_underlying he)]
  rw [h0]
  cases A with
  | none =>
    have : l = [] := by
      have h : bv l = [] := hr
      cases l with
      | nil => rfl
      | cons x r => simp [bv] at h
    subst this
    rfl
  | some a =>
    have hload : rrun P (loadCells a l.length) w = some (bv l).toArray := by
      have hc : ∀ (cs : List Value) (i : Nat), (∀ (j : Nat) (v : Value), cs[j]? = some v → w.cell? (a.add (i + j)) = some v) → cellsAt w a i cs := by
        intro cs
        induction cs with
        | nil => intro i _; trivial
        | cons v r ih => exact fun i h => ⟨by simpa using h 0 v rfl, ih (i + 1) fun j u hj => by have := h (j + 1) u (by simpa using hj); rwa [show i + 1 + j = i + (j + 1) by omega]⟩
      have := loadCellsFrom_ok (P := P) (bv l) 0 #[] (hc (bv l) 0 fun j v hj => by simpa using hr j v hj)
      simpa [loadCells] using this
    unfold Conv.bytesToString
    simp only [rrun_bind, hload, Option.bind_some, List.forIn_toArray]
    rw [rrun_forIn_bytes _ (by intro n r; simp)]
    simp
end

/-! ### blocks -/
/-- block b holds just these cells, of elements of type e -/
def Blk (w : World) (b : Nat) (e : TypeId) (cs : List Value) : Prop := w.heap[b]? = some (.cells cs.toArray e (0, 0))
theorem Blk.lt {w : World} {b : Nat} {e : TypeId} {cs : List Value} (h : Blk w b e cs) : b < w.heap.size := (Array.getElem?_eq_some_iff.mp h).1
theorem Blk.cell {w : World} {b : Nat} {e : TypeId} {cs : List Value} (h : Blk w b e cs) (i : Nat) : w.cell? ⟨b, i, none⟩ = cs[i]? := by
  unfold World.cell?; rw [h]; simp
theorem Blk.frozen {w : World} {b : Nat} {e : TypeId} {cs : List Value} (h : Blk w b e cs) (i : Nat) : w.frozen? ⟨b, i, none⟩ = false := by
  unfold World.frozen?; rw [h]; simp
theorem Blk.set {w : World} {b : Nat} {e : TypeId} {cs : List Value} (h : Blk w b e cs) (i : Nat) (v : Value) : Blk (w.setCell ⟨b, i, none⟩ v) b e (cs.set i v) := by
  unfold Blk at *
  simp [World.setCell, Array.getElem?_modify, h]
theorem Blk.drew {w : World} {b : Nat} {e : TypeId} {cs : List Value} (h : Blk w b e cs) : Blk w.drew b e cs := h
theorem Blk.new (w : World) (e : TypeId) (cs : List Value) : Blk (w.alloc (.cells cs.toArray e)) w.heap.size e cs := by
  exact heap_alloc_new w _
theorem Blk.same {w w' : World} {b : Nat} {e : TypeId} {cs : List Value} (h : Blk w b e cs) (hb : w'.heap[b]? = w.heap[b]?) : Blk w' b e cs := by
  unfold Blk at *; rw [hb]; exact h
theorem Blk.grown {w w' : World} {b : Nat} {e : TypeId} {cs : List Value} {row : Option Nat} (h : Blk w b e cs) (hg : w.grownBy w' row) (hne : row ≠ some b) : Blk w' b e cs :=
  h.same (hg.block b h.lt fun e => hne e.symm)
theorem grown_set {w : World} (b i : Nat) (v : Value) : w.grownBy (w.setCell ⟨b, i, none⟩ v) (some b) :=
  ⟨rfl, rfl, rfl, by simp, fun k _ hk => Below.heap_setCell w _ _ k fun h => hk (by rw [h])⟩
theorem grown_drew (w : World) (row : Option Nat) : w.grownBy w.drew row := ⟨rfl, rfl, rfl, Nat.le_refl _, fun _ _ _ => rfl⟩
theorem grown_weak {w w' : World} (h : w.grownBy w' none) (row : Option Nat) : w.grownBy w' row := ⟨h.os, h.tape, h.output, h.size, fun k hk _ => h.block k hk (by simp)⟩
theorem grown_step {w1 w2 w3 : World} {row : Option Nat} (h1 : w1.grownBy w2 row) (h2 : w2.grownBy w3 row) : w1.grownBy w3 row :=
  ⟨h2.os.trans h1.os, h2.tape.trans h1.tape, h2.output.trans h1.output, Nat.le_trans h1.size h2.size, fun k hk hr => (h2.block k (Nat.lt_of_lt_of_le hk h1.size) hr).trans (h1.block k hk hr)⟩
/-- what was written lies in new memory -/
theorem grown_new {w1 w2 w3 : World} {b : Nat} (h1 : w1.grownBy w2 none) (h2 : w2.grownBy w3 (some b)) (hb : w1.heap.size ≤ b) : w1.grownBy w3 none :=
  grown_trans h1 h2 fun k hk => by cases hk; exact hb
theorem below_of_grown {w w' : World} (h : w.grownBy w' none) : Below w.heap.size w w' := ⟨h.os, h.tape, h.output, h.size, fun k hk => h.block k hk (by simp)⟩
theorem own_blk {w : World} {base : Nat} {e : TypeId} {size n b : Nat} {xs : List Value} (h : w.ownsRow base e size (.slice (some ⟨b, 0, none⟩) n n) n xs) : Blk w b e xs := by
  rcases h.2 with ⟨h1, _⟩ | ⟨g, cap, cur, hv, _, hg, _, _, hs, ht⟩
  · simp at h1
  · simp only [Value.slice.injEq, Option.some.injEq, Addr.mk.injEq, and_true, true_and] at hv
    obtain ⟨rfl, rfl⟩ := hv
    have : cur.toList = xs := by rw [← ht, ← hs, ← Array.length_toList, List.take_length]
    unfold Blk
    rw [hg, ← this]
theorem blk_own {w : World} {base : Nat} {e : TypeId} {size n b : Nat} {xs : List Value} (h : Blk w b e xs) (hl : xs.length = n * size) (hb : base ≤ b) (hn : n ≤ maxLen) : w.ownsRow base e size (.slice (some ⟨b, 0, none⟩) n n) n xs :=
  ⟨hl, .inr ⟨b, n, xs.toArray, rfl, hb, h, Nat.le_refl _, hn, by simp [hl], by simp [← hl]⟩⟩
theorem Blk.rd {w : World} {b : Nat} {e : TypeId} {cs : List Value} (h : Blk w b e cs) : Rd w (some ⟨b, 0, none⟩) cs := by
  intro j v hj
  rw [addL, Nat.zero_add, h.cell]
  exact hj
@[simp] theorem cutA (n : Nat) (A : Option Addr) : (if n = 0 then A else A.map fun x => x.add 0) = A := by
  cases A <;> simp

@[simp high] theorem cell_drew (w : World) (a : Addr) : w.drew.cell? a = w.cell? a := id rfl

/-! ### loops -/
/-- a loop whose rounds lower a number; what it leaves with -/
theorem iter_down {f : List Value → World → Option Res} (Inv : Nat → List Value → World → Prop) (Q : Res → Prop)
    (step : ∀ d vs w, Inv d vs w → (∃ d' vs' w', d' < d ∧ f vs w = some (.norm vs' w') ∧ Inv d' vs' w') ∨ ∃ r, f vs w = some r ∧ Q r ∧ ∀ vs w, r ≠ .norm vs w) :
    ∀ d vs w, Inv d vs w → ∃ r, iter f vs w = some r ∧ Q r := by
  have key : ∀ d vs w, Inv d vs w → ∃ r, Rounds f vs w r ∧ Q r := by
    intro d
    induction d using Nat.strongRecOn with
    | _ d ih =>
      intro vs w h
      rcases step d vs w h with ⟨d', vs', w', h1, h2, h3⟩ | ⟨r, h1, h2, h3⟩
      · obtain ⟨r, h4, h5⟩ := ih d' h1 vs' w' h3
        exact ⟨r, .more h2 h4, h5⟩
      · cases r with
        | norm vs w => exact absurd rfl (h3 vs w)
        | exit i vs w => exact ⟨_, .exit h1, h2⟩
        | ret vs w => exact ⟨_, .ret h1, h2⟩
  intro d vs w h
  obtain ⟨r, h1, h2⟩ := key d vs w h
  exact ⟨r, iter_of_rounds h1, h2⟩
/-- a loop that counts up to n, in one world, and leaves there -/
theorem iter_up {f : List Value → World → Option Res} {w : World} (n : Nat) (st : Nat → List Value) {r : Res} (hr : ∀ vs w, r ≠ .norm vs w) (step : ∀ i, i < n → f (st i) w = some (.norm (st (i + 1)) w)) (last : f (st n) w = some r) :
    iter f (st 0) w = some r := by
  have key : ∀ d i, i + d = n → Rounds f (st i) w r := by
    intro d
    induction d with
    | zero =>
      intro i hi
      have : i = n := by omega
      subst this
      cases r with
      | norm vs w => exact absurd rfl (hr vs w)
      | exit i vs w => exact .exit last
      | ret vs w => exact .ret last
    | succ d ih => intro i hi; exact .more (step i (by omega)) (ih (i + 1) (by omega))
  exact iter_of_rounds (key n 0 (by omega))

theorem wf_i64 {x : Int} (h : (Lit.int .i64 x).wf = true) : -9223372036854775808 ≤ x ∧ x ≤ 9223372036854775807 := by
  simp [Lit.wf, IntKind.min, IntKind.max, IntKind.signed, IntKind.bits] at h
  omega
end Go.Sh
