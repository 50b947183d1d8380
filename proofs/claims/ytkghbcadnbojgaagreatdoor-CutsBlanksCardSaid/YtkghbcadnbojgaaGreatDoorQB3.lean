/- The layer 'Sh': structs that are compared. No condition but those that each statement names. -/
import Derived.Laws.StructEq
import Derived.Deep.Strs
import Derived.DataElems
import Derived.SizedLaws
import Derived.ArgAppend
import Derived.Test.YtkghbcadnbojgaaGreatDoorQB1
namespace Go.Sh
open Go Go.RowKit
set_option linter.unusedVariables false
section
variable {P : Program} (w : World)
theorem rr_equalIn_struct (d : Nat) (t : TypeId) (xs ys : Array Value) (ht : P.underlying t = some (.struct (P.fieldsOf t))) (hp : P.stoodInHeld t = false) :
    rrun P (Op.equalIn (d + 1) t (.agg xs) (.agg ys)) w = rrun P (Op.eqFields d xs ys (P.fieldsOf t).toList) w := by
  simp only [Op.equalIn, rrun_bind, rrun_of_prun (prun_underlying ht), Option.bind_some, rrun_of_prun prun_program, hp, Bool.false_eq_true, if_false]
  rw [← Array.forIn_toList]
  generalize (P.fieldsOf t).toList = fs
  clear ht
  induction fs with
  | nil => simp [Op.eqFields]
  | cons f fs ih =>
    simp only [List.forIn_cons, Op.eqFields]
    split
    · simp only [rrun_bind]
      cases rrun P (part f.type xs f.offset) w with
      | none => rfl
      | some a =>
        simp only [Option.bind_some]
        cases rrun P (part f.type ys f.offset) w with
        | none => rfl
        | some b =>
          simp only [Option.bind_some]
          cases rrun P (Op.equalIn d f.type a b) w with
          | none => rfl
          | some r =>
            cases r
            · simp
            · simpa using ih
    · simpa using ih
theorem rr_equalIn_int (d : Nat) (t : TypeId) (k k' : IntKind) (a b : Int) (h : P.underlying t = some (.int k')) : rrun P (Op.equalIn (d + 1) t (.int k a) (.int k b)) w = some (a == b) := by
  simp [Op.equalIn, rrun_bind, rrun_of_prun (prun_underlying h)]
theorem rr_equalIn_bool (d : Nat) (t : TypeId) (a b : Bool) (h : P.underlying t = some .bool) : rrun P (Op.equalIn (d + 1) t (.bool a) (.bool b)) w = some (a == b) := by
  simp [Op.equalIn, rrun_bind, rrun_of_prun (prun_underlying h)]
theorem rr_equalIn_string (d : Nat) (t : TypeId) (a b : ByteArray) (h : P.underlying t = some .string) : rrun P (Op.equalIn (d + 1) t (.string a) (.string b)) w = some (a.toList == b.toList) := by
  simp [Op.equalIn, rrun_bind, rrun_of_prun (prun_underlying h), beq_toListBytes]
theorem rr_eqFields_nil (d : Nat) (xs ys : Array Value) : rrun P (Op.eqFields d xs ys []) w = some true := by simp [Op.eqFields]
theorem rr_eqFields_cons (d : Nat) (xs ys : Array Value) (f : Field) (fs : List Field) (a b : Value) (r q : Bool) (hn : f.name ≠ "_") (h1 : rrun P (part f.type xs f.offset) w = some a) (h2 : rrun P (part f.type ys f.offset) w = some b)
    (h3 : rrun P (Op.equalIn d f.type a b) w = some r) (h4 : rrun P (Op.eqFields d xs ys fs) w = some q) : rrun P (Op.eqFields d xs ys (f :: fs)) w = some (r && q) := by
  simp only [Op.eqFields, hn, ne_eq, not_false_eq_true, if_true, rrun_bind, h1, h2, h3, Option.bind_some]
  cases r <;> simp [h4]
theorem rr_eql (t : TypeId) (x y : Operand) (xs ys : Array Value) (b : Bool) (hm : P.eqGuardType P.depth t = false) (ht : P.underlying t = some (.struct (P.fieldsOf t))) (hp : P.stoodInHeld t = false)
    (h : rrun P (Op.eqFields 9999 xs ys (P.fieldsOf t).toList) w = some b) : rrun P (do eqGuard .eql t x y (.agg xs) (.agg ys); binOp .eql t (.agg xs) (.agg ys)) w = some (.bool b) := by
  have h1 := rr_equalIn_struct (P := P) w 9999 t xs ys ht hp
  rw [h] at h1
  simp [eqGuard, rrun_bind, rrun_of_prun prun_program, hm, binOp, Op.equal, Op.maxDepth, h1]
theorem rr_neq (t : TypeId) (x y : Operand) (xs ys : Array Value) (b : Bool) (hm : P.eqGuardType P.depth t = false) (ht : P.underlying t = some (.struct (P.fieldsOf t))) (hp : P.stoodInHeld t = false)
    (h : rrun P (Op.eqFields 9999 xs ys (P.fieldsOf t).toList) w = some b) : rrun P (do eqGuard .neq t x y (.agg xs) (.agg ys); binOp .neq t (.agg xs) (.agg ys)) w = some (.bool (!b)) := by
  have h1 := rr_equalIn_struct (P := P) w 9999 t xs ys ht hp
  rw [h] at h1
  simp [eqGuard, rrun_bind, rrun_of_prun prun_program, hm, binOp, Op.equal, Op.maxDepth, h1]
end
end Go.Sh

namespace Go.Sh
open Go Go.RowKit Go.ChangeShapes Go.WideShapes
set_option linter.unusedVariables false
section
variable {H : Type} {enc : TypeId × Value → H} {P : Program} {W : World}
/-- these cells are a datum of type t -/
def Dat (enc : TypeId × Value → H) (P : Program) (W : World) (t : TypeId) (cs : List Value) : Prop := ∃ n y, DataW.trod enc P W 0 (fun _ => true) true n t cs = some y
theorem dat_int {t : TypeId} {k : IntKind} {cs : List Value} (ht : P.underlying t = some (.int k)) (h : Dat enc P W t cs) : ∃ x : Int, cs = [.int k x] ∧ (Lit.int k x).wf = true := by
  obtain ⟨n, y, h⟩ := h
  obtain ⟨x, h1, _, h2⟩ := DataW.trod_int ht h
  exact ⟨x, h1, h2⟩
theorem dat_bool {t : TypeId} {cs : List Value} (ht : P.underlying t = some .bool) (h : Dat enc P W t cs) : ∃ x : Bool, cs = [.bool x] := by
  obtain ⟨n, y, h⟩ := h
  obtain ⟨x, h1, _⟩ := DataW.trod_bool ht h
  exact ⟨x, h1⟩
theorem dat_struct {t : TypeId} {fs : Array Field} {cs : List Value} (ht : P.underlying t = some (.struct fs)) (h : Dat enc P W t cs) : cs.length = P.cellsOf t ∧ ∀ (i : Nat) (f : Field), fs[i]? = some f → Dat enc P W f.type ((cs.drop f.offset).take (P.cellsOf f.type)) := by
  obtain ⟨n, y, h⟩ := h
  obtain ⟨xs, m, _, _, hl, hx, hf⟩ := DataW.trod_struct ht h
  refine ⟨hl, fun i f hi => ?_⟩
  have h1 := hf i f hi
  have h2 : i < xs.length := by rw [hx]; exact (Array.getElem?_eq_some_iff.mp hi).1
  rw [List.getElem?_eq_getElem h2] at h1
  exact ⟨m, _, h1⟩
theorem rd_flat {a : Addr} {s : Nat} {rows : List (List Value)} (hs : ∀ r ∈ rows, r.length = s) (h : ∀ (i : Nat) (r : List Value), rows[i]? = some r → ∀ j, j < s → W.cell? ((a.add (i * s)).add j) = r[j]?) : Rd W (some a) rows.flatten := by
  induction rows generalizing a with
  | nil => exact Rd.nil _ _
  | cons r rest ih =>
    intro j v hj
    rw [List.flatten_cons] at hj
    have hr := hs r (by simp)
    by_cases hlt : j < r.length
    · rw [List.getElem?_append_left hlt] at hj
      have := h 0 r rfl j (by omega)
      rw [Nat.zero_mul, Addr.add_add, Nat.zero_add] at this
      rw [this]; exact hj
    · rw [List.getElem?_append_right (by omega)] at hj
      have := ih (a := a.add s) (fun r hr => hs r (by simp [hr])) (fun i r hi j hj => by
        have := h (i + 1) r (by simpa using hi) j hj
        rw [Addr.add_add] at this ⊢
        rw [Addr.add_add]
        rw [← this]
        congr 2
        rw [Nat.add_mul]; omega) (j - r.length) v hj
      rw [Addr.add_add] at this
      rw [← this]
      congr 2
      omega
theorem dat_slice {t e : TypeId} {cs : List Value} (ht : P.underlying t = some (.slice e)) (h : Dat enc P W t cs) :
    ∃ A len cap, cs = [.slice A len cap] ∧ len ≤ cap ∧ cap ≤ maxLen ∧ (A = none → cap = 0) ∧ ∃ rows : List (List Value), rows.length = len ∧ (∀ r ∈ rows, r.length = P.cellsOf e ∧ Dat enc P W e r) ∧ Rd W A rows.flatten := by
  obtain ⟨n, y, h⟩ := h
  rcases DataW.trod_slice ht h with ⟨rfl, _⟩ | ⟨a, len, cap, elems, rest, m, _, rfl, _, _, hlc, hcm, hel, hi, _, _⟩
  · exact ⟨none, 0, 0, rfl, Nat.le_refl _, by simp [maxLen], fun _ => rfl, [], rfl, by simp, rfl⟩
  · refine ⟨some a, len, cap, rfl, hlc, hcm, fun h => by simp at h, ?_⟩
    have each : ∀ i, i < len → ∃ r, W.cells? 0 (a.add (i * P.cellsOf e)) (P.cellsOf e) = some r ∧ Dat enc P W e r := by
      intro i hlt
      have h1 := hi i hlt
      rw [List.getElem?_eq_getElem (by omega), Option.bind_eq_some_iff] at h1
      obtain ⟨r, h2, h3⟩ := h1
      exact ⟨r, h2, m, _, h3⟩
    have all : ∀ k, k ≤ len → ∃ rows : List (List Value), rows.length = k ∧ (∀ r ∈ rows, Dat enc P W e r) ∧ ∀ (i : Nat) (r : List Value), rows[i]? = some r → W.cells? 0 (a.add (i * P.cellsOf e)) (P.cellsOf e) = some r := by
      intro k
      induction k with
      | zero => exact fun _ => ⟨[], rfl, by simp, by simp⟩
      | succ k ih =>
        intro hk
        obtain ⟨rows, h1, h2, h3⟩ := ih (by omega)
        obtain ⟨r, h4, h5⟩ := each k (by omega)
        refine ⟨rows ++ [r], by simp [h1], ?_, ?_⟩
        · intro q hq
          simp only [List.mem_append, List.mem_singleton] at hq
          rcases hq with hq | rfl
          · exact h2 q hq
          · exact h5
        · intro i q hq
          by_cases hik : i < k
          · rw [List.getElem?_append_left (by omega)] at hq
            exact h3 i q hq
          · have : i = k := by
              have := (List.getElem?_eq_some_iff.mp hq).1
              simp at this
              omega
            subst this
            rw [List.getElem?_append_right (by omega), h1, Nat.sub_self] at hq
            simp at hq
            subst hq
            exact h4
    obtain ⟨rows, h1, h2, h3⟩ := all len (Nat.le_refl _)
    have hlen : ∀ r ∈ rows, r.length = P.cellsOf e := by
      intro r hr
      obtain ⟨i, hi⟩ := List.getElem?_of_mem hr
      exact (World.cells?_some (h3 i r hi)).2.1
    refine ⟨rows, h1, fun r hr => ⟨hlen r hr, h2 r hr⟩, rd_flat hlen fun i r hi j hj => ?_⟩
    exact (World.cells?_some (h3 i r hi)).2.2 j hj
theorem dat_of {t : TypeId} {v : Value} {d : DataW H} {ps : List MemPlace} (h : DataW.Trod enc P W 0 (fun _ => true) true t v d ps) : Dat enc P W t v.cells.toList := by
  obtain ⟨n, h⟩ := h
  exact ⟨n, _, h⟩
theorem choose_rows {α : Type} (f : α → List Value) (Q : α → Prop) {rows : List (List Value)} (h : ∀ r ∈ rows, ∃ q, r = f q ∧ Q q) : ∃ qs : List α, rows = qs.map f ∧ qs.length = rows.length ∧ ∀ q ∈ qs, Q q := by
  induction rows with
  | nil => exact ⟨[], rfl, rfl, by simp⟩
  | cons r rest ih =>
    obtain ⟨qs, h1, h2, h3⟩ := ih fun r hr => h r (by simp [hr])
    obtain ⟨q, h4, h5⟩ := h r (by simp)
    refine ⟨q :: qs, by simp [h1, h4], by simp [h2], ?_⟩
    intro p hp
    simp only [List.mem_cons] at hp
    rcases hp with rfl | hp
    · exact h5
    · exact h3 p hp
/-- bytes that came in -/
theorem dat_bytes {t e : TypeId} {cs : List Value} (ht : P.underlying t = some (.slice e)) (he : P.underlying e = some (.int .u8)) (hc : P.cellsOf e = 1) (h : Dat enc P W t cs) :
    ∃ (A : Option Addr) (n c : Nat) (l : List UInt8), cs = [.slice A n c] ∧ l.length = n ∧ n ≤ c ∧ c ≤ maxLen ∧ (A = none → c = 0) ∧ Rd W A (bv l) := by
  obtain ⟨A, n, c, rfl, h1, h2, h3, rows, h4, h5, h6⟩ := dat_slice ht h
  obtain ⟨l, rfl, hl, _⟩ := choose_rows (fun x : UInt8 => [Value.int .u8 x.toNat]) (fun _ => True) (rows := rows) (by
    intro r hr
    obtain ⟨_, hd⟩ := h5 r hr
    obtain ⟨x, rfl, hw⟩ := dat_int he hd
    refine ⟨UInt8.ofNat x.toNat, ?_, trivial⟩
    simp [Lit.wf, IntKind.min, IntKind.max, IntKind.signed, IntKind.bits] at hw
    simp
    omega)
  refine ⟨A, n, c, l, rfl, hl.trans h4, h1, h2, h3, ?_⟩
  have e : (l.map fun x : UInt8 => [Value.int .u8 x.toNat]).flatten = bv l := by
    clear h4 h5 h6 hl
    induction l with
    | nil => rfl
    | cons x r ih => simp [bv] at ih ⊢; exact ih
  rwa [e] at h6
/-- ints that came in -/
theorem dat_ints {t e : TypeId} {k : IntKind} {cs : List Value} (ht : P.underlying t = some (.slice e)) (he : P.underlying e = some (.int k)) (h : Dat enc P W t cs) :
    ∃ (A : Option Addr) (n c : Nat) (l : List Int), cs = [.slice A n c] ∧ l.length = n ∧ n ≤ c ∧ c ≤ maxLen ∧ (A = none → c = 0) ∧ (∀ x ∈ l, (Lit.int k x).wf = true) ∧ Rd W A (l.map (Value.int k)) := by
  obtain ⟨A, n, c, rfl, h1, h2, h3, rows, h4, h5, h6⟩ := dat_slice ht h
  obtain ⟨l, rfl, hl, hw⟩ := choose_rows (fun x : Int => [Value.int k x]) (fun x => (Lit.int k x).wf = true) (rows := rows) (by
    intro r hr
    obtain ⟨_, hd⟩ := h5 r hr
    exact dat_int he hd)
  refine ⟨A, n, c, l, rfl, hl.trans h4, h1, h2, h3, hw, ?_⟩
  have e : (l.map fun x : Int => [Value.int k x]).flatten = l.map (Value.int k) := by
    clear h4 h5 h6 hl hw
    induction l with
    | nil => rfl
    | cons x r ih => simpa using ih
  rwa [e] at h6
theorem sized_rows {base : Nat} {spare : Nat → Bool} {held : Bool} {t e : TypeId} {a : Option Addr} {len cap : Nat} {d : DataW H} {ps : List MemPlace} {ts : List TypeId} {ds : List (DataW H)} {j : Nat}
    (hsz : (DataW.weightsEach P ts ds).all (· ≤ reachBytes) = true) (ht : ts[j]? = some t) (hd : ds[j]? = some d) (hu : P.underlying t = some (.slice e)) {B : Nat} (hB : P.bytesOf e = B)
    (h : DataW.Trod enc P W base spare held t (.slice a len cap) d ps) : len * B ≤ 140737488351232 := by
  obtain ⟨fuel, hf⟩ := h
  rcases DataW.trod_slice hu hf with ⟨hcs, _⟩ | ⟨x, l, c, elems, rest, m, _, hcs, hx, _, _, _, hel, _, _, _⟩
  · have h0 : len = 0 := by simp [Value.cells] at hcs; exact hcs.2.1
    subst h0
    omega
  · have hcs' : len = l := by simp [Value.cells] at hcs; exact hcs.2.1
    subst hcs'
    obtain ⟨rfl, _⟩ := Prod.mk.inj hx
    have z := sized_slice hsz ht hd hu
    rw [hB] at z
    refine Nat.le_trans (Nat.mul_le_mul_right _ ?_) z
    simp
    omega
end
end Go.Sh

namespace Go.Sh
open Go Go.RowKit
set_option linter.unusedVariables false
/-- rows, each in memory of its own: a slice, and what it holds -/
structure Rows (w : World) (base : Nat) (e : TypeId) (q : List (Value × List Value)) : Prop where
  own : ∀ p ∈ q, w.ownsRow base e 1 p.1 p.2.length p.2
  dis : ∀ (i j : Nat) p p', q[i]? = some p → q[j]? = some p' → i ≠ j → ∀ k, p.1.ownBlock = some k → p'.1.ownBlock ≠ some k
def rfp (q : List (Value × List Value)) : Nat → Prop := fun k => ∃ p ∈ q, p.1.ownBlock = some k
section
variable {w w' : World} {base : Nat} {e e' : TypeId} {q : List (Value × List Value)} {S : Nat → Prop}
theorem Rows.nil : Rows w base e [] := ⟨by simp, by simp⟩
theorem Rows.grew (h : Rows w base e q) (hg : Grew S w w') (hn : ∀ k, rfp q k → ¬ S k) : Rows w' base e q :=
  ⟨fun p hp => own_grew (h.own p hp) hg fun k hk => hn k ⟨p, hp, hk⟩, h.dis⟩
theorem Rows.new (h : Rows w base e q) (hg : w.grownBy w' none) : Rows w' base e q := h.grew (grew_new (S := fun _ => False) hg) fun _ _ h => h
theorem Rows.ge (h : Rows w base e q) {k : Nat} (hk : rfp q k) : base ≤ k ∧ k < w.heap.size := by
  obtain ⟨p, hp, hk⟩ := hk
  exact (h.own p hp).lt k hk
theorem Rows.ne_blk (h : Rows w base e q) {b : Nat} {cs : List Value} (hb : Blk w b e' cs) (hne : e ≠ e') : ¬ rfp q b := by
  rintro ⟨p, hp, hk⟩
  exact own_blk_ne (h.own p hp) hb hne hk
theorem Rows.ne_own (h : Rows w base e q) {base' size n : Nat} {v : Value} {xs : List Value} (ho : w.ownsRow base' e' size v n xs) (hne : e ≠ e') {k : Nat} (hk : v.ownBlock = some k) : ¬ rfp q k := by
  rintro ⟨p, hp, hk'⟩
  exact own_own_ne (h.own p hp) ho hne hk' hk
theorem Rows.ne_rows (h : Rows w base e q) {base' : Nat} {q' : List (Value × List Value)} (h' : Rows w base' e' q') (hne : e ≠ e') {k : Nat} (hk : rfp q' k) : ¬ rfp q k := by
  obtain ⟨p, hp, hk'⟩ := hk
  exact h.ne_own (h'.own p hp) hne hk'
theorem Rows.push (h : Rows w base e q) {p : Value × List Value} (o : w.ownsRow base e 1 p.1 p.2.length p.2) (hd : ∀ k, p.1.ownBlock = some k → ¬ rfp q k) : Rows w base e (q ++ [p]) := by
  refine ⟨fun p' hp => ?_, fun i j x y hi hj hne k hx hy => ?_⟩
  · simp only [List.mem_append, List.mem_singleton] at hp
    rcases hp with hp | rfl
    · exact h.own p' hp
    · exact o
  · have li := (List.getElem?_eq_some_iff.mp hi).1
    have lj := (List.getElem?_eq_some_iff.mp hj).1
    simp only [List.length_append, List.length_singleton] at li lj
    by_cases i1 : i < q.length
    · rw [List.getElem?_append_left i1] at hi
      by_cases j1 : j < q.length
      · rw [List.getElem?_append_left j1] at hj
        exact h.dis i j x y hi hj hne k hx hy
      · rw [List.getElem?_append_right (by omega), show j - q.length = 0 by omega] at hj
        simp at hj
        subst hj
        exact hd k hy ⟨x, List.mem_of_getElem? hi, hx⟩
    · rw [List.getElem?_append_right (by omega), show i - q.length = 0 by omega] at hi
      simp at hi
      subst hi
      by_cases j1 : j < q.length
      · rw [List.getElem?_append_left j1] at hj
        exact hd k hx ⟨y, List.mem_of_getElem? hj, hy⟩
      · omega
theorem Rows.set (h : Rows w base e q) {i : Nat} {p p' : Value × List Value} (hi : q[i]? = some p) (hg : Grew (fun k => p.1.ownBlock = some k) w w') (o : w'.ownsRow base e 1 p'.1 p'.2.length p'.2)
    (hk : ∀ k, p'.1.ownBlock = some k → p.1.ownBlock = some k ∨ w.heap.size ≤ k) : Rows w' base e (q.set i p') := by
  have hil := (List.getElem?_eq_some_iff.mp hi).1
  have other : ∀ j x, q[j]? = some x → i ≠ j → ∀ k, x.1.ownBlock = some k → p.1.ownBlock ≠ some k := fun j x hj hne k hx hp => h.dis i j p x hi hj hne k hp hx
  refine ⟨fun x hx => ?_, fun a b x y ha hb hne k hx hy => ?_⟩
  · obtain ⟨j, hj⟩ := List.getElem?_of_mem hx
    by_cases hij : i = j
    · subst hij
      rw [List.getElem?_set_self hil] at hj
      cases hj
      exact o
    · rw [List.getElem?_set_ne hij] at hj
      exact own_grew (h.own x (List.mem_of_getElem? hj)) hg fun k hk => other j x hj hij k hk
  · by_cases hia : i = a
    · subst hia
      rw [List.getElem?_set_self hil] at ha
      cases ha
      rw [List.getElem?_set_ne hne] at hb
      rcases hk k hx with h1 | h1
      · exact other b y hb hne k hy h1
      · have := ((h.own y (List.mem_of_getElem? hb)).lt k hy).2; omega
    · rw [List.getElem?_set_ne hia] at ha
      by_cases hib : i = b
      · subst hib
        rw [List.getElem?_set_self hil] at hb
        cases hb
        rcases hk k hy with h1 | h1
        · exact other a x ha hia k hx h1
        · have := ((h.own x (List.mem_of_getElem? ha)).lt k hx).2; omega
      · rw [List.getElem?_set_ne hib] at hb
        exact h.dis a b x y ha hb hne k hx hy
theorem Rows.part (h : Rows w base e q) {i : Nat} {p : Value × List Value} (hi : q[i]? = some p) : w.ownsRow base e 1 p.1 p.2.length p.2 := h.own p (List.mem_of_getElem? hi)
end
/-- one element put behind a row of one-cell elements, out of a new block -/
theorem own_push {P : Program} {w : World} {base : Nat} {t ty e : TypeId} {i : TypeInfo} {z : Value} {bytes : Nat} (ht : P.underlying t = some (.slice e)) (hi : P.info? e = some i) (hz : i.zero = some z)
    (hsize : i.size = 1) (hby : i.bytes = bytes) (hzs : z.cells.size = 1) {v : Value} {n : Nat} {xs : List Value} (hown : w.ownsRow base e 1 v n xs) {x : Value} (ho : x.oneCell' = true)
    (h63 : n + 1 ≤ maxLen) (hbytes : (n + 1) * bytes ≤ 140737488355328) (hbase : base ≤ w.heap.size) :
    ∃ v' w', erun P (Builtin.append_ #[t, t] ty #[v, .slice (some ⟨w.heap.size, 0, none⟩) 1 1]) (w.alloc (.cells #[x] e)) = some (v', w') ∧ w'.ownsRow base e 1 v' (n + 1) (xs ++ [x]) ∧ w.grownBy w' v.ownBlock ∧ (∀ k, v'.ownBlock = some k → v.ownBlock = some k ∨ w.heap.size ≤ k) := by
  have g1 := World.grownBy_alloc w (.cells #[x] e) none
  have r1 : Rd (w.alloc (.cells #[x] e)) (some ⟨w.heap.size, 0, none⟩) [x] := by
    intro j v hj
    rw [addL, Nat.zero_add, World.cell?_alloc_new]
    simpa using hj
  obtain ⟨v', w', h1, h2, h3, h4⟩ := e_append2 (P := P) (ty := ty) ht hi hz hsize hby hzs (by decide) (hown.alloc (.cells #[x] e)) (m := 1) (c := 1) (news := [x]) rfl r1 (fun h => by cases h) (by simpa using ho) h63 hbytes (by simp; omega)
  exact ⟨v', w', h1, h2, grown_step (grown_weak g1 _) h3, fun k hk => (h4 k hk).imp id fun h => by simp at h; omega⟩
end Go.Sh

namespace Go.Sh
open Go Go.RowKit
set_option linter.unusedVariables false
set_option linter.unusedSimpArgs false
theorem iter_once {f : List Value → World → Option Res} {vs vs' : List Value} {w w' : World} (h : f vs w = some (.norm vs' w')) {r : Res} (h' : iter f vs' w' = some r) : iter f vs w = some r := iter_of_rounds (.more h (rounds_of_iter h'))
theorem own_rebase {w : World} {base B : Nat} {e : TypeId} {size n : Nat} {v : Value} {xs : List Value} (h : w.ownsRow base e size v n xs) (hB : ∀ k, v.ownBlock = some k → B ≤ k) : w.ownsRow B e size v n xs := by
  obtain ⟨h0, h1⟩ := h
  refine ⟨h0, ?_⟩
  rcases h1 with h1 | ⟨g, cap, cur, rfl, h2, h3⟩
  · exact .inl h1
  · exact .inr ⟨g, cap, cur, rfl, hB g rfl, h3⟩
/-- one element put behind a row that has no room: the longer one lies in new memory -/
theorem own_push_full {P : Program} {w : World} {base : Nat} {t ty e : TypeId} {i : TypeInfo} {z : Value} {bytes : Nat} (ht : P.underlying t = some (.slice e)) (hi : P.info? e = some i) (hz : i.zero = some z)
    (hsize : i.size = 1) (hby : i.bytes = bytes) (hzs : z.cells.size = 1) {A : Option Addr} {n : Nat} {xs : List Value} (hown : w.ownsRow base e 1 (.slice A n n) n xs) {x : Value} (ho : x.oneCell' = true)
    (h63 : n + 1 ≤ maxLen) (hbytes : (n + 1) * bytes ≤ 140737488355328) (hbase : base ≤ w.heap.size) :
    ∃ v' w', erun P (Builtin.append_ #[t, t] ty #[.slice A n n, .slice (some ⟨w.heap.size, 0, none⟩) 1 1]) (w.alloc (.cells #[x] e)) = some (v', w') ∧ w'.ownsRow w.heap.size e 1 v' (n + 1) (xs ++ [x]) ∧ w.grownBy w' none := by
  have g1 := World.grownBy_alloc w (.cells #[x] e) none
  have r1 : Rd (w.alloc (.cells #[x] e)) (some ⟨w.heap.size, 0, none⟩) [x] := by
    intro j v hj
    rw [addL, Nat.zero_add, World.cell?_alloc_new]
    simpa using hj
  have own1 := hown.alloc (.cells #[x] e)
  rcases own1.2 with ⟨he, hn⟩ | ⟨g, cap, cur, hv, hbg, hg, hnc, hcm, hcs, htake⟩
  · subst hn
    have hx : xs = [] := by have := hown.1; simpa using this
    subst hx
    rw [he]
    obtain ⟨v2, w2, k2, k3, k4⟩ := e_append (P := P) ht hi hz hsize hby hzs (by decide) (World.ownsRow_nil (w.alloc (.cells #[x] e)) w.heap.size e 1) (ty := ty) (A := some ⟨w.heap.size, 0, none⟩) (m := 1) (c := 1) (news := [x]) rfl r1 (fun h => by cases h) (by simpa using ho) (by omega) (by omega) (by simp)
    exact ⟨v2, w2, k2, by simpa using k3, grown_trans g1 k4 fun k hk => by cases hk⟩
  · cases hv
    have holds : ∀ j u, xs[j]? = some u → (w.alloc (.cells #[x] e)).cell? ((⟨g, 0, none⟩ : Addr).add j) = some u := own1.cells (g := g) rfl
    have hsmall : n + 1 ≤ 9223372036854775807 := by simp only [maxLen] at h63; omega
    have run := erun_of_run (run_append_grow (P := P) (w.alloc (.cells #[x] e)) t ty e i z ht hi hz ⟨g, 0, none⟩ n n xs (by rw [hsize]; exact own1.1) holds ⟨w.heap.size, 0, none⟩ 1 1 [x] (by simp [hsize]) r1 (by omega) (by omega) (growslice_fits (by omega) (by rw [hby]; exact hbytes)))
    obtain ⟨v2, w2, k2, k3, k4⟩ := e_append (P := P) ht hi hz hsize hby hzs (by decide) own1 (ty := ty) (A := some ⟨w.heap.size, 0, none⟩) (m := 1) (c := 1) (news := [x]) rfl r1 (fun h => by cases h) (by simpa using ho) h63 hbytes (by simp; omega)
    rw [k2] at run
    obtain ⟨rfl, rfl⟩ := Prod.mk.inj (Option.some.inj run)
    refine ⟨_, _, k2, own_rebase k3 fun k hk => ?_, grown_trans g1 (grown_step (grown_drew _ none) (World.grownBy_alloc _ _ none)) (by simp)⟩
    simp [Value.ownBlock] at hk
    omega

end Go.Sh

namespace Go.Sh
open Go Go.RowKit
set_option linter.unusedVariables false
set_option linter.unusedSimpArgs false
/-- an assertion about blocks that are newer than base -/
structure Asn (base : Nat) where
  at_ : (Nat → Prop) → World → Prop
  frame : ∀ {S : Nat → Prop} {w w' : World} {T : Nat → Prop}, at_ S w → Grew T w w' → (∀ k, S k → ¬ T k) → at_ S w'
  rng : ∀ {S : Nat → Prop} {w : World}, at_ S w → ∀ k, S k → base ≤ k ∧ k < w.heap.size
variable {base : Nat}
theorem Asn.ext' {P Q : Asn base} (h : ∀ S w, P.at_ S w ↔ Q.at_ S w) : P = Q := by
  cases P; cases Q
  congr
  funext S w
  exact propext (h S w)
/-- nothing -/
def emp : Asn base := ⟨fun S _ => S = fun _ => False, fun h _ _ => h, fun h k hk => by subst h; exact hk.elim⟩
/-- a fact -/
def fact (p : Prop) : Asn base := ⟨fun S _ => p ∧ S = fun _ => False, fun h _ _ => h, fun h k hk => by rw [h.2] at hk; exact hk.elim⟩
/-- for some -/
def some_ {α : Type} (P : α → Asn base) : Asn base := ⟨fun S w => ∃ a, (P a).at_ S w, fun ⟨a, h⟩ hg hs => ⟨a, (P a).frame h hg hs⟩, fun ⟨a, h⟩ k hk => (P a).rng h k hk⟩
def StarAt (P Q : Asn base) (S : Nat → Prop) (w : World) : Prop := ∃ A B : Nat → Prop, (∀ k, A k → ¬ B k) ∧ S = (fun k => A k ∨ B k) ∧ P.at_ A w ∧ Q.at_ B w
theorem starAt_frame {P Q : Asn base} {S : Nat → Prop} {w w' : World} {T : Nat → Prop} (h : StarAt P Q S w) (hg : Grew T w w') (hs : ∀ k, S k → ¬ T k) : StarAt P Q S w' := by
  obtain ⟨A, B, d, e, p, q⟩ := h
  exact ⟨A, B, d, e, P.frame p hg fun k hk => hs k (by rw [e]; exact .inl hk), Q.frame q hg fun k hk => hs k (by rw [e]; exact .inr hk)⟩
theorem starAt_rng {P Q : Asn base} {S : Nat → Prop} {w : World} (h : StarAt P Q S w) (k : Nat) (hk : S k) : base ≤ k ∧ k < w.heap.size := by
  obtain ⟨A, B, d, e, p, q⟩ := h
  rw [e] at hk
  rcases hk with hk | hk
  · exact P.rng p k hk
  · exact Q.rng q k hk
/-- beside -/
def star (P Q : Asn base) : Asn base := ⟨StarAt P Q, starAt_frame, starAt_rng⟩
instance : Mul (Asn base) := ⟨star⟩
theorem star_comm (P Q : Asn base) : P * Q = Q * P := by
  apply Asn.ext'
  intro S w
  constructor
  · rintro ⟨A, B, d, e, p, q⟩
    exact ⟨B, A, fun k hb ha => d k ha hb, by rw [e]; funext k; exact propext or_comm, q, p⟩
  · rintro ⟨A, B, d, e, p, q⟩
    exact ⟨B, A, fun k hb ha => d k ha hb, by rw [e]; funext k; exact propext or_comm, q, p⟩
theorem star_assoc (P Q R : Asn base) : (P * Q) * R = P * (Q * R) := by
  apply Asn.ext'
  intro S w
  constructor
  · rintro ⟨X, C, d, e, ⟨A, B, d', e', p, q⟩, r⟩
    subst e'
    refine ⟨A, fun k => B k ∨ C k, fun k ha hbc => ?_, by rw [e]; funext k; exact propext or_assoc, p, B, C, fun k hb hc => d k (.inr hb) hc, rfl, q, r⟩
    rcases hbc with hb | hc
    · exact d' k ha hb
    · exact d k (.inl ha) hc
  · rintro ⟨A, X, d, e, p, B, C, d', e', q, r⟩
    subst e'
    refine ⟨fun k => A k ∨ B k, C, fun k hab hc => ?_, by rw [e]; funext k; exact propext or_assoc.symm, ⟨A, B, fun k ha hb => d k ha (.inl hb), rfl, p, q⟩, r⟩
    rcases hab with ha | hb
    · exact d k ha (.inr hc)
    · exact d' k hb hc
theorem emp_star (P : Asn base) : emp * P = P := by
  apply Asn.ext'
  intro S w
  constructor
  · rintro ⟨A, B, d, e, p, q⟩
    have hA : A = fun _ => False := p
    subst hA
    have : S = B := by rw [e]; funext k; simp
    rw [this]; exact q
  · intro q
    exact ⟨fun _ => False, S, fun k h => h.elim, by funext k; simp, rfl, q⟩
theorem star_emp (P : Asn base) : P * emp = P := by rw [star_comm, emp_star]
instance : Std.Associative (α := Asn base) (· * ·) := ⟨star_assoc⟩
instance : Std.Commutative (α := Asn base) (· * ·) := ⟨star_comm⟩
theorem fact_true (p : Prop) (h : p) : (fact p : Asn base) = emp := Asn.ext' fun S w => ⟨fun x => x.2, fun x => ⟨h, x⟩⟩
theorem star_some {α : Type} (P : α → Asn base) (R : Asn base) : some_ P * R = some_ fun a => P a * R := by
  apply Asn.ext'
  intro S w
  constructor
  · rintro ⟨A, B, d, e, ⟨a, p⟩, q⟩
    exact ⟨a, A, B, d, e, p, q⟩
  · rintro ⟨a, A, B, d, e, p, q⟩
    exact ⟨A, B, d, e, ⟨a, p⟩, q⟩
/-- one beside the other, for each of a list -/
def all {α : Type} (f : α → Asn base) : List α → Asn base
  | [] => emp
  | a :: l => f a * all f l
theorem all_append {α : Type} (f : α → Asn base) (l l' : List α) : all f (l ++ l') = all f l * all f l' := by
  induction l with
  | nil => simp [all, emp_star]
  | cons a l ih => simp only [List.cons_append, all, ih, star_assoc]
theorem all_get {α : Type} (f : α → Asn base) {l : List α} {i : Nat} {a : α} (h : l[i]? = some a) : all f l = f a * all f (l.eraseIdx i) := by
  induction l generalizing i with
  | nil => simp at h
  | cons b l ih =>
    cases i with
    | zero => simp at h; subst h; simp [all]
    | succ i =>
      simp at h
      simp only [all, List.eraseIdx_cons_succ, ih h]
      ac_rfl
theorem all_set {α : Type} (f : α → Asn base) {l : List α} {i : Nat} (h : i < l.length) (a' : α) : all f (l.set i a') = f a' * all f (l.eraseIdx i) := by
  induction l generalizing i with
  | nil => simp at h
  | cons b l ih =>
    cases i with
    | zero => simp [all]
    | succ i =>
      simp at h
      simp only [all, List.eraseIdx_cons_succ, List.set_cons_succ, ih h]
      ac_rfl

/-- a block, with its cells -/
def blkA (b : Nat) (e : TypeId) (cs : List Value) : Asn base := ⟨fun S w => Blk w b e cs ∧ base ≤ b ∧ S = fun k => k = b, fun ⟨h, h2, h3⟩ hg hs => ⟨h.grew hg (hs b (by rw [h3])), h2, h3⟩, fun ⟨h, h2, h3⟩ k hk => by rw [h3] at hk; cases hk; exact ⟨h2, h.lt⟩⟩
/-- a row with room of its own -/
def rowA (e : TypeId) (sz : Nat) (v : Value) (n : Nat) (xs : List Value) : Asn base := ⟨fun S w => w.ownsRow base e sz v n xs ∧ S = fun k => v.ownBlock = some k, fun ⟨h, h3⟩ hg hs => ⟨own_grew h hg fun k hk => hs k (by rw [h3]; exact hk), h3⟩, fun ⟨h, h3⟩ k hk => by rw [h3] at hk; exact h.lt k hk⟩
/-- a row that came out, clipped to what it holds -/
def clipA (e : TypeId) (sz : Nat) (v : Value) (n : Nat) (xs : List Value) : Asn base := ⟨fun S w => (∃ A c, v = .slice A n n ∧ n ≤ c ∧ w.ownsRow base e sz (.slice A n c) n xs) ∧ S = fun k => v.ownBlock = some k,
  fun ⟨⟨A, c, h1, h2, h⟩, h3⟩ hg hs => ⟨⟨A, c, h1, h2, own_grew h hg fun k hk => hs k (by rw [h3, h1]; cases A <;> exact hk)⟩, h3⟩,
  fun ⟨⟨A, c, h1, h2, h⟩, h3⟩ k hk => by rw [h3, h1] at hk; exact h.lt k (by cases A <;> exact hk)⟩

/-- the state: since W nothing older has changed, and the parts stand as X says -/
def Sat (W : World) (X : Asn W.heap.size) (w : World) : Prop := Grew (fun _ => False) W w ∧ ∃ S, X.at_ S w
/-- what a run does to P, whatever lies beside it -/
def Step {α : Type} (W : World) (P : Asn W.heap.size) (r : World → Option (α × World)) (Q : α → Asn W.heap.size) : Prop :=
  ∀ S w, Grew (fun _ => False) W w → P.at_ S w → ∃ v w' S', r w = some (v, w') ∧ (Q v).at_ S' w' ∧ Grew S w w' ∧ ∀ k, S' k → S k ∨ w.heap.size ≤ k
section
variable {W w w' : World} {P Q R X Y : Asn W.heap.size} {α : Type}
theorem Sat.sub (s : Sat W X w) (h : ∀ S w, X.at_ S w → ∃ S', Y.at_ S' w) : Sat W Y w := by
  obtain ⟨g, S, x⟩ := s
  exact ⟨g, h S w x⟩
theorem Sat.eq (s : Sat W X w) (h : X = Y) : Sat W Y w := h ▸ s
theorem Sat.left (s : Sat W (P * R) w) : Sat W P w := s.sub fun S w ⟨A, B, d, e, p, q⟩ => ⟨A, p⟩
theorem Sat.right (s : Sat W (P * R) w) : Sat W R w := s.sub fun S w ⟨A, B, d, e, p, q⟩ => ⟨B, q⟩
theorem Sat.size (s : Sat W X w) : W.heap.size ≤ w.heap.size := s.1.size
theorem Sat.drew (s : Sat W X w) : Sat W X w.drew := by
  obtain ⟨g, S, x⟩ := s
  exact ⟨g.step (Grew.drew _ _), S, X.frame x (Grew.drew (fun _ => False) w) fun k _ h => h⟩
theorem Sat.getFact {p : Prop} (s : Sat W (fact p * R) w) : p ∧ Sat W R w := by
  refine ⟨?_, s.right⟩
  obtain ⟨g, S, A, B, d, e, p, q⟩ := s
  exact p.1
theorem Sat.addFact {p : Prop} (s : Sat W R w) (h : p) : Sat W (fact p * R) w := by rw [fact_true p h, emp_star]; exact s
theorem Sat.forSome {β : Type} {P : β → Asn W.heap.size} (s : Sat W (some_ P * R) w) : ∃ a, Sat W (P a * R) w := by
  rw [star_some] at s
  obtain ⟨g, S, a, h⟩ := s
  exact ⟨a, g, S, h⟩
theorem Sat.forSome0 {β : Type} {P : β → Asn W.heap.size} (s : Sat W (some_ P) w) : ∃ a, Sat W (P a) w := by
  obtain ⟨g, S, a, h⟩ := s
  exact ⟨a, g, S, h⟩
theorem Sat.grown (s : Sat W X w) (hg : w.grownBy w' none) : Sat W X w' := by
  obtain ⟨g, S, x⟩ := s
  exact ⟨g.step (grew_new hg), S, X.frame x (grew_new (S := fun _ => False) hg) fun k _ h => h⟩
theorem Sat.blk {b : Nat} {e : TypeId} {cs : List Value} (s : Sat W (blkA b e cs * R) w) : Blk w b e cs := by
  obtain ⟨g, S, h, _⟩ := s.left
  exact h
theorem Sat.row {e : TypeId} {sz n : Nat} {v : Value} {xs : List Value} (s : Sat W (rowA e sz v n xs * R) w) : w.ownsRow W.heap.size e sz v n xs := by
  obtain ⟨g, S, h, _⟩ := s.left
  exact h
theorem Sat.clip {e : TypeId} {sz n : Nat} {v : Value} {xs : List Value} (s : Sat W (clipA e sz v n xs * R) w) : ∃ A c, v = .slice A n n ∧ n ≤ c ∧ w.ownsRow W.heap.size e sz (.slice A n c) n xs := by
  obtain ⟨g, S, h, _⟩ := s.left
  exact h
theorem Step.on {r : World → Option (α × World)} {Q : α → Asn W.heap.size} (h : Step W P r Q) (s : Sat W (P * R) w) : ∃ v w', r w = some (v, w') ∧ Sat W (Q v * R) w' ∧ w.heap.size ≤ w'.heap.size := by
  obtain ⟨g, S, A, B, d, e, p, q⟩ := s
  obtain ⟨v, w', S', h1, h2, h3, h4⟩ := h A w g p
  refine ⟨v, w', h1, ⟨g.trans h3 fun k hk => .inr (P.rng p k hk).1, fun k => S' k ∨ B k, S', B, fun k hs hb => ?_, rfl, h2, R.frame q h3 fun k hb ha => d k ha hb⟩, h3.size⟩
  rcases h4 k hs with h5 | h5
  · exact d k h5 hb
  · have := (R.rng q k hb).2; omega
theorem Step.on1 {r : World → Option (α × World)} {Q : α → Asn W.heap.size} (h : Step W P r Q) (s : Sat W P w) : ∃ v w', r w = some (v, w') ∧ Sat W (Q v) w' := by
  obtain ⟨v, w', h1, h2, _⟩ := h.on (R := emp) (by rw [star_emp]; exact s)
  rw [star_emp] at h2
  exact ⟨v, w', h1, h2⟩
/-- a step at P, found within X -/
theorem Step.at {r : World → Option (α × World)} {Q : α → Asn W.heap.size} (h : Step W P r Q) (s : Sat W X w) (e : X = P * R) : ∃ v w', r w = some (v, w') ∧ Sat W (Q v * R) w' ∧ w.heap.size ≤ w'.heap.size := h.on (s.eq e)
/-- a step with what lies beside it is a step -/
theorem Step.star {r : World → Option (α × World)} {Q : α → Asn W.heap.size} (h : Step W P r Q) (R : Asn W.heap.size) : Step W (P * R) r (fun v => Q v * R) := by
  rintro S w g ⟨A, B, d, e, p, q⟩
  obtain ⟨v, w', S', h1, h2, h3, h4⟩ := h A w g p
  refine ⟨v, w', fun k => S' k ∨ B k, h1, ⟨S', B, fun k hs hb => ?_, rfl, h2, R.frame q h3 fun k hb ha => d k ha hb⟩, h3.weak fun k hk => .inl (by rw [e]; exact .inl hk), fun k hk => ?_⟩
  · rcases h4 k hs with h5 | h5
    · exact d k h5 hb
    · have := (R.rng q k hb).2; omega
  · rcases hk with hk | hk
    · rcases h4 k hk with h5 | h5
      · exact .inl (by rw [e]; exact .inl h5)
      · exact .inr h5
    · exact .inl (by rw [e]; exact .inr hk)
/-- new memory -/
theorem Sat.newBlk (s : Sat W R w) (e : TypeId) (cs : List Value) : Sat W (blkA w.heap.size e cs * R) (w.alloc (.cells cs.toArray e)) := by
  obtain ⟨g, S, x⟩ := s
  have ga := World.grownBy_alloc w (.cells cs.toArray e) none
  exact ⟨g.step (grew_new ga), fun k => k = w.heap.size ∨ S k, fun k => k = w.heap.size, S, fun k hk hs => by have := (R.rng x k hs).2; omega, rfl, ⟨Blk.new w e cs, g.size, rfl⟩, R.frame x (grew_new (S := fun _ => False) ga) fun k _ h => h⟩
/-- a row in new memory -/
theorem Sat.newRow (s : Sat W R w) (hg : w.grownBy w' none) {e : TypeId} {sz n : Nat} {v : Value} {xs : List Value} (h : w'.ownsRow w.heap.size e sz v n xs) : Sat W (rowA e sz v n xs * R) w' := by
  obtain ⟨g, S, x⟩ := s
  refine ⟨g.step (grew_new hg), fun k => v.ownBlock = some k ∨ S k, fun k => v.ownBlock = some k, S, fun k hk hs => ?_, rfl, ⟨own_rebase h fun k hk => Nat.le_trans g.size (h.lt k hk).1, rfl⟩, R.frame x (grew_new (S := fun _ => False) hg) fun k _ h => h⟩
  have := (R.rng x k hs).2
  have := (h.lt k hk).1
  omega
/-- none -/
theorem Sat.nilRow (s : Sat W R w) (e : TypeId) (sz : Nat) : Sat W (rowA e sz (.slice none 0 0) 0 [] * R) w := s.newRow (grown_refl _ _) (World.ownsRow_nil w w.heap.size e sz)
theorem Sat.row_clip {e : TypeId} {sz n : Nat} {A : Option Addr} {c : Nat} {xs : List Value} (s : Sat W (rowA e sz (.slice A n c) n xs * R) w) (hc : n ≤ c) : Sat W (clipA e sz (.slice A n n) n xs * R) w :=
  s.sub fun S w ⟨X, B, d, e, p, q⟩ => ⟨S, X, B, d, e, ⟨⟨A, c, rfl, hc, p.1⟩, by rw [p.2]; cases A <;> rfl⟩, q⟩
/-- a write of a cell of a block -/
theorem Sat.store {b : Nat} {e : TypeId} {cs cs' : List Value} (s : Sat W (blkA b e cs * R) w) (i : Nat) (v : Value) (h : cs.set i v = cs') : Sat W (blkA b e cs' * R) (w.setCell ⟨b, i, none⟩ v) := by
  obtain ⟨g, S, A, B, d, e, ⟨p, hb, hA⟩, q⟩ := s
  subst hA
  have hg := grew_set (S := fun k => k = b) w i v rfl
  exact ⟨g.trans hg fun k hk => .inr (hk ▸ hb), fun k => k = b ∨ B k, fun k => k = b, B, d, rfl, ⟨p.store2 i v h, hb, rfl⟩, R.frame q hg fun k hB hk => d k hk hB⟩
/-- a row is changed by a run that has its block alone -/
theorem Sat.rowStep {e : TypeId} {sz n n' : Nat} {v v' : Value} {xs xs' : List Value} (s : Sat W (rowA e sz v n xs * R) w) (hg : w.grownBy w' v.ownBlock) (h : w'.ownsRow W.heap.size e sz v' n' xs') (hk : ∀ k, v'.ownBlock = some k → v.ownBlock = some k ∨ w.heap.size ≤ k) : Sat W (rowA e sz v' n' xs' * R) w' := by
  obtain ⟨g, S, A, B, d, e, ⟨p, hA⟩, q⟩ := s
  subst hA
  have hg' : Grew (fun k => v.ownBlock = some k) w w' := grew_of hg fun k hk => .inl hk
  refine ⟨g.trans hg' fun k hk => .inr (p.lt k hk).1, fun k => v'.ownBlock = some k ∨ B k, fun k => v'.ownBlock = some k, B, fun k h1 h2 => ?_, rfl, ⟨h, rfl⟩, R.frame q hg' fun k hB hk => d k hk hB⟩
  rcases hk k h1 with h3 | h3
  · exact d k h3 h2
  · have := (R.rng q k h2).2; omega
theorem Sat.alloc_ge (s : Sat W X w) (o : Obj) : Sat W X (w.alloc o) := s.grown (World.grownBy_alloc w o none)
end
end Go.Sh
namespace Go.Sh
open Go Go.RowKit
set_option linter.unusedVariables false
set_option linter.unusedSimpArgs false
section
variable {W w w' : World} {P Q R X Y : Asn W.heap.size}
theorem star_left_comm (P Q R : Asn W.heap.size) : P * (Q * R) = Q * (P * R) := by ac_rfl
theorem Sat.swap (s : Sat W (P * (Q * R)) w) : Sat W (Q * (P * R)) w := s.eq (star_left_comm _ _ _)
/-- the third first -/
theorem Sat.swap3 (s : Sat W (P * (Q * (X * R))) w) : Sat W (X * (P * (Q * R))) w := s.eq (by ac_rfl)
/-- the first third -/
theorem Sat.back3 (s : Sat W (X * (P * (Q * R))) w) : Sat W (P * (Q * (X * R))) w := s.eq (by ac_rfl)
theorem Sat.fold {β : Type} {P : β → Asn W.heap.size} {b : β} (s : Sat W (P b * R) w) : Sat W (some_ P * R) w := s.sub fun S w ⟨A, B, d, e, p, q⟩ => ⟨S, A, B, d, e, ⟨b, p⟩, q⟩
theorem Sat.cell {b : Nat} {e : TypeId} {cs : List Value} (s : Sat W (blkA b e cs * R) w) (i : Nat) {v : Value} (h : cs[i]? = some v) : w.cell? ⟨b, i, none⟩ = some v := s.blk.cell_eq i h
theorem Sat.frozen {b : Nat} {e : TypeId} {cs : List Value} (s : Sat W (blkA b e cs * R) w) (i : Nat) : w.frozen? ⟨b, i, none⟩ = false := s.blk.frozen i
theorem Sat.drop2 (s : Sat W (P * (Q * R)) w) : Sat W (P * R) w := s.swap.right
end
end Go.Sh

namespace Go.Sh
open Go Go.RowKit
set_option linter.unusedVariables false
set_option linter.unusedSimpArgs false
theorem Grew.none2 {base : Nat} {w0 w : World} (h : Grew (fun k => base ≤ k) w0 w) (hb : w0.heap.size ≤ base) : w0.grownBy w none := h.toNew fun k hk => Nat.le_trans hb hk
section
variable {P : Program}
/-- a value of several cells, over a part of a block -/
theorem Blk.storeAll {w : World} {b : Nat} {e : TypeId} {cs : List Value} (h : Blk w b e cs) {t : TypeId} {i : TypeInfo} (hi : P.info? t = some i) {o : Nat} {v : Value} {vs : List Value} (hv : v.cells = vs.toArray) (hs : vs.length = i.size) (hfit : o + vs.length ≤ cs.length) (ho : ∀ u ∈ vs, u.oneCell' = true)
    {cs' : List Value} (hcs : cs.take o ++ vs ++ cs.drop (o + vs.length) = cs') : ∃ w', erun P (Instr.storeAt t (.pointer (some ⟨b, o, none⟩)) v) w = some ((), w') ∧ Blk w' b e cs' ∧ w.grownBy w' (some b) := by
  subst hcs
  have key := run_storeCells_at (P := P) b o e vs 0 cs.toArray w h (by simpa using hfit) ho
  refine ⟨_, erun_of_run ?_, setRow_heap w b cs.toArray _ e (0, 0) h, ⟨rfl, rfl, rfl, by simp [World.setRow], fun k _ hk => ?_⟩⟩
  · unfold Instr.storeAt storeVar
    have e1 : (Instr.sureAddr (.pointer (some ⟨b, o, none⟩))).run P w = .ok ⟨b, o, none⟩ w := rfl
    rw [run_ok e1, run_ok (prun_run (prun_sizeOf hi) w), hv]
    simp only [List.size_toArray, hs, ne_eq, not_true_eq_false, if_false]
    have : (do pure PUnit.unit; storeCells ⟨b, o, none⟩ vs : Sem Unit) = storeCells ⟨b, o, none⟩ vs := rfl
    simpa [hs] using key
  · have hne : b ≠ k := fun e => hk (by rw [e])
    simp [World.setRow, Array.getElem?_modify, hne]
end
end Go.Sh

namespace Go.Sh
open Go Go.RowKit
set_option linter.unusedVariables false
set_option linter.unusedSimpArgs false
/-- a run that changes what one clipped row holds -/
theorem Sat.clipStep {W w : World} {X : Asn W.heap.size} {e : TypeId} {sz n : Nat} {v : Value} {xs : List Value} (s : Sat W (clipA e sz v n xs * X) w) : ∃ A c, v = .slice A n n ∧ n ≤ c ∧ w.ownsRow W.heap.size e sz (.slice A n c) n xs ∧
    ∀ w' xs', w.grownBy w' v.ownBlock → w'.ownsRow W.heap.size e sz (.slice A n c) n xs' → Sat W (clipA e sz v n xs' * X) w' := by
  obtain ⟨g, S, T, B, d, e, ⟨⟨A, c, hv, hc, p⟩, hT⟩, q⟩ := s
  subst hT
  refine ⟨A, c, hv, hc, p, fun w' xs' hg h => ?_⟩
  have hg' : Grew (fun k => v.ownBlock = some k) w w' := grew_of hg fun k hk => .inl hk
  exact ⟨g.trans hg' fun k hk => .inr (p.lt k (by rw [hv] at hk; cases A <;> exact hk)).1, fun k => v.ownBlock = some k ∨ B k, fun k => v.ownBlock = some k, B, d, rfl, ⟨⟨A, c, hv, hc, h⟩, rfl⟩, X.frame q hg' fun k hB hk => d k hk hB⟩
/-- one cell of a row that is owned -/
theorem own_put {P : Program} {w : World} {base n c sz : Nat} {e : TypeId} {A : Option Addr} {xs : List Value} (h : w.ownsRow base e sz (.slice A n c) n xs) {t : TypeId} {i : TypeInfo} (hi : P.info? t = some i) (hs : i.size = 1) {j : Nat} (hj : j < n * sz) {v : Value} (hv : v.cells = #[v]) (ho : v.oneCell' = true) :
    ∃ a w', A = some a ∧ base ≤ a.block ∧ erun P (Instr.storeAt t (.pointer (some (a.add j))) v) w = some ((), w') ∧ w'.ownsRow base e sz (.slice A n c) n (xs.set j v) ∧ w.grownBy w' (some a.block) := by
  rcases h.2 with ⟨h1, h2⟩ | ⟨g, cap, cur, hv', hb, _⟩
  · subst h2; simp at hj
  · simp only [Value.slice.injEq, true_and] at hv'
    obtain ⟨rfl, rfl⟩ := hv'
    have hx : xs.length = n * sz := h.1
    have hc := h.cellAt j hj
    rw [List.getElem?_eq_getElem (by omega)] at hc
    obtain ⟨s1, s2⟩ := h.stored j v
    exact ⟨_, _, rfl, hb, by rw [addL, Nat.zero_add]; exact store_one hi hs hv ho hc (h.frozenAt j), s1, s2⟩
/-- some cells of a row that is owned, at once -/
theorem own_putAll {P : Program} {w : World} {base n c sz : Nat} {e : TypeId} {A : Option Addr} {xs : List Value} (h : w.ownsRow base e sz (.slice A n c) n xs) {t : TypeId} {i : TypeInfo} (hi : P.info? t = some i) {j : Nat} {v : Value} {vs : List Value} (hv : v.cells = vs.toArray) (hs : vs.length = i.size) (hj : j + vs.length ≤ n * sz) (hpos : 0 < n) (ho : ∀ u ∈ vs, u.oneCell' = true) :
    ∃ a w', A = some a ∧ base ≤ a.block ∧ erun P (Instr.storeAt t (.pointer (some (a.add j))) v) w = some ((), w') ∧ w'.ownsRow base e sz (.slice A n c) n (xs.take j ++ vs ++ xs.drop (j + vs.length)) ∧ w.grownBy w' (some a.block) := by
  rcases h.2 with ⟨h1, h2⟩ | ⟨g, cap, cur, hv', hb, hg, hnc, hcm, hcs, htake⟩
  · omega
  · simp only [Value.slice.injEq, true_and] at hv'
    obtain ⟨rfl, rfl⟩ := hv'
    have hx : xs.length = n * sz := h.1
    have hle : n * sz ≤ c * sz := Nat.mul_le_mul_right _ hnc
    have hcl : cur.toList.length = c * sz := by rw [Array.length_toList, hcs]
    obtain ⟨w', h1, h2, h3⟩ := Blk.storeAll (P := P) (w := w) (b := g) (e := e) (cs := cur.toList) (by unfold Blk; simpa using hg) hi (o := j) hv hs (by omega) ho rfl
    refine ⟨_, w', rfl, hb, by rw [addL, Nat.zero_add]; exact h1, ⟨?_, .inr ⟨g, c, _, rfl, hb, h2, hnc, hcm, ?_, ?_⟩⟩, h3⟩
    · simp only [List.length_append, List.length_take, List.length_drop]; omega
    · simp only [List.size_toArray, List.length_append, List.length_take, List.length_drop]; omega
    · rw [← htake]
      have l1 : (cur.toList.take j).length = j := by rw [List.length_take]; omega
      simp only []
      rw [List.take_append, List.take_of_length_le (by rw [List.length_append, l1]; omega), List.length_append, l1, List.take_take, Nat.min_eq_left (by omega), List.drop_take]
theorem Sat.clipPut {P : Program} {W w : World} {X : Asn W.heap.size} {e : TypeId} {sz n : Nat} {v : Value} {xs : List Value} (s : Sat W (clipA e sz v n xs * X) w) {t : TypeId} {i : TypeInfo} (hi : P.info? t = some i) (hs : i.size = 1) {j : Nat} (hj : j < n * sz) {u : Value} (hv : u.cells = #[u]) (ho : u.oneCell' = true) :
    ∃ a w', v = .slice (some a) n n ∧ erun P (Instr.storeAt t (.pointer (some (a.add j))) u) w = some ((), w') ∧ Sat W (clipA e sz v n (xs.set j u) * X) w' := by
  obtain ⟨A, c, rfl, hc, p, k⟩ := s.clipStep
  obtain ⟨a, w', rfl, _, h1, h2, h3⟩ := own_put (P := P) p hi hs hj hv ho
  exact ⟨a, w', rfl, h1, k w' _ h3 h2⟩
theorem Sat.clipPutAll {P : Program} {W w : World} {X : Asn W.heap.size} {e : TypeId} {sz n : Nat} {v : Value} {xs : List Value} (s : Sat W (clipA e sz v n xs * X) w) {t : TypeId} {i : TypeInfo} (hi : P.info? t = some i) {j : Nat} {u : Value} {vs : List Value} (hv : u.cells = vs.toArray) (hs : vs.length = i.size) (hj : j + vs.length ≤ n * sz) (hpos : 0 < n) (ho : ∀ u ∈ vs, u.oneCell' = true) :
    ∃ a w', v = .slice (some a) n n ∧ erun P (Instr.storeAt t (.pointer (some (a.add j))) u) w = some ((), w') ∧ Sat W (clipA e sz v n (xs.take j ++ vs ++ xs.drop (j + vs.length)) * X) w' := by
  obtain ⟨A, c, rfl, hc, p, k⟩ := s.clipStep
  obtain ⟨a, w', rfl, _, h1, h2, h3⟩ := own_putAll (P := P) p hi hv hs hj hpos ho
  exact ⟨a, w', rfl, h1, k w' _ h3 h2⟩
/-- one cell of a row -/
theorem Sat.put {P : Program} {W w : World} {X : Asn W.heap.size} {e : TypeId} {sz n : Nat} {v : Value} {xs : List Value} (s : Sat W (rowA e sz v n xs * X) w) {t : TypeId} {i : TypeInfo} (hi : P.info? t = some i) (hs : i.size = 1) {j : Nat} (hj : j < n * sz) {u : Value} (hv : u.cells = #[u]) (ho : u.oneCell' = true) :
    ∃ a c w', v = .slice (some a) n c ∧ erun P (Instr.storeAt t (.pointer (some (a.add j))) u) w = some ((), w') ∧ Sat W (rowA e sz v n (xs.set j u) * X) w' := by
  obtain ⟨A, c, rfl, hc⟩ := own_form s.row
  obtain ⟨a, w', rfl, _, h1, h2, h3⟩ := own_put (P := P) s.row hi hs hj hv ho
  exact ⟨a, c, w', rfl, h1, s.rowStep h3 h2 fun k hk => .inl hk⟩
section
variable {P : Program} {W w : World} {X : Asn W.heap.size}
/-- an element put behind a row -/
theorem Sat.push {t ty e : TypeId} {i : TypeInfo} {z : Value} {size bytes : Nat} (ht : P.underlying t = some (.slice e)) (hi : P.info? e = some i) (hz : i.zero = some z) (hsize : i.size = size) (hby : i.bytes = bytes) (hzs : z.cells.size = size) (hsz : 0 < size)
    {v : Value} {n : Nat} {xs : List Value} (x : Sat W (rowA e size v n xs * X) w) {news : List Value} (hl : news.length = size) (h1 : ∀ u ∈ news, u.oneCell' = true) (hm : n + 1 ≤ maxLen) (hbytes : (n + 1) * bytes ≤ 140737488355328) :
    ∃ v' w', erun P (Builtin.append_ #[t, t] ty #[v, .slice (some ⟨w.heap.size, 0, none⟩) 1 1]) (w.alloc (.cells news.toArray e)) = some (v', w') ∧ Sat W (rowA e size v' (n + 1) (xs ++ news) * X) w' := by
  have x1 := x.alloc_ge (.cells news.toArray e)
  have r1 : Rd (w.alloc (.cells news.toArray e)) (some ⟨w.heap.size, 0, none⟩) news := by
    intro j v hj
    rw [addL, Nat.zero_add, World.cell?_alloc_new]
    simpa using hj
  obtain ⟨v', w', k1, k2, k3, k4⟩ := e_append2 (P := P) (ty := ty) ht hi hz hsize hby hzs hsz x1.row (m := 1) (c := 1) (news := news) (by omega) r1 (fun h => by cases h) h1 hm hbytes x1.size
  exact ⟨v', w', k1, x1.rowStep k3 k2 k4⟩
/-- an element put behind a row that came out clipped: the longer one lies in new memory -/
theorem Sat.pushClip {t ty e : TypeId} {i : TypeInfo} {z : Value} {size bytes : Nat} (ht : P.underlying t = some (.slice e)) (hi : P.info? e = some i) (hz : i.zero = some z) (hsize : i.size = size) (hby : i.bytes = bytes) (hzs : z.cells.size = size) (hsz : 0 < size)
    {v : Value} {n : Nat} {xs : List Value} (x : Sat W (clipA e size v n xs * X) w) {news : List Value} (hl : news.length = size) (h1 : ∀ u ∈ news, u.oneCell' = true) (hm : n + 1 ≤ maxLen) (hbytes : (n + 1) * bytes ≤ 140737488355328) :
    ∃ v' w', erun P (Builtin.append_ #[t, t] ty #[v, .slice (some ⟨w.heap.size, 0, none⟩) 1 1]) (w.alloc (.cells news.toArray e)) = some (v', w') ∧ Sat W (rowA e size v' (n + 1) (xs ++ news) * X) w' := by
  have x1 := x.alloc_ge (.cells news.toArray e)
  have g1 := World.grownBy_alloc w (.cells news.toArray e) none
  obtain ⟨A, c, rfl, hc, own1⟩ := x1.clip
  have r1 : Rd (w.alloc (.cells news.toArray e)) (some ⟨w.heap.size, 0, none⟩) news := by
    intro j v hj
    rw [addL, Nat.zero_add, World.cell?_alloc_new]
    simpa using hj
  have hxs : xs.length = n * size := own1.1
  rcases own1.2 with ⟨he, hn⟩ | ⟨g, cap, cur, hv, hbg, hg, hnc, hcm, hcs, htake⟩
  · subst hn
    have hx : xs = [] := List.eq_nil_of_length_eq_zero (by omega)
    subst hx
    simp only [Value.slice.injEq] at he
    obtain ⟨rfl, _, _⟩ := he
    obtain ⟨v2, w2, k2, k3, k4⟩ := e_append (P := P) ht hi hz hsize hby hzs hsz (World.ownsRow_nil (w.alloc (.cells news.toArray e)) (w.alloc (.cells news.toArray e)).heap.size e size) (ty := ty) (A := some ⟨w.heap.size, 0, none⟩) (m := 1) (c := 1) (news := news) (by omega) r1 (fun h => by cases h) h1 (by omega) (by omega) (Nat.le_refl _)
    exact ⟨v2, w2, k2, x1.right.newRow k4 k3⟩
  · simp only [Value.slice.injEq, true_and] at hv
    obtain ⟨rfl, rfl⟩ := hv
    subst hsize
    subst hby
    have holds : ∀ j u, xs[j]? = some u → (w.alloc (.cells news.toArray e)).cell? ((⟨g, 0, none⟩ : Addr).add j) = some u := own1.cells (g := g) rfl
    obtain ⟨v', w', k1, k2, k3⟩ := run_append_arg_grows (P := P) (w.alloc (.cells news.toArray e)) t ty e i z i.size i.bytes ht hi hz rfl rfl hzs hsz ⟨g, 0, none⟩ n n xs hxs holds ⟨w.heap.size, 0, none⟩ 1 1 news (by omega) r1 (by omega) (by omega) hbytes
    exact ⟨v', w', erun_of_run k1, x1.right.newRow k3 k2⟩
end
end Go.Sh

namespace Go.Sh
open Go Go.RowKit
set_option linter.unusedVariables false
set_option linter.unusedSimpArgs false
/-- a string of these bytes -/
abbrev st (l : List UInt8) : Value := .string ⟨l.toArray⟩
theorem st_size (l : List UInt8) : (⟨l.toArray⟩ : ByteArray).size = l.length := by simp [ByteArray.size]
section
variable {P : Program}
theorem str_len {t : TypeId} (ht : P.underlying t = some .string) (ty : TypeId) (l : List UInt8) : prun P (Builtin.len_ #[t] ty #[st l]) = some (.int .i64 l.length) := by
  rw [len_string ht, st_size]
theorem str_index {t : TypeId} (ht : P.underlying t = some .string) (l : List UInt8) (k : IntKind) (i : Nat) (h : i < l.length) : prun P (Instr.index t (st l) (.int k i)) = some (.int .u8 (l[i]).toNat) := by
  have e : (⟨l.toArray⟩ : ByteArray)[i]? = some l[i] := by
    rw [getElem?_pos _ _ (by simpa [ByteArray.size] using h)]
    rfl
  unfold Instr.index
  have h0 : (0 : Int) ≤ i := by omega
  simp [prun_bind, prun_underlying ht, asIntOf, h0, e]
theorem str_slice {t : TypeId} (ht : P.underlying t = some .string) (s : ByteArray) (lo hi : Option Value) (l h m : Nat) (hb : prun P (Instr.sliceBounds false s.size s.size lo hi none) = some (l, h, m)) : prun P (Instr.sliceAt t (.string s) lo hi none) = some (.string (s.extract l h)) := by
  unfold Instr.sliceAt
  simp only [prun_bind, prun_underlying ht, Option.bind_some]
  unfold Instr.slice
  simp [prun_bind, prun_underlying ht, hb]
theorem toList_st (l : List UInt8) : (⟨l.toArray⟩ : ByteArray).toList = l := by
  rw [show (⟨l.toArray⟩ : ByteArray).toList = (⟨l.toArray⟩ : ByteArray).data.toList from by simp]
theorem st_extract (l : List UInt8) (i j : Nat) : (⟨l.toArray⟩ : ByteArray).extract i j = ⟨((l.drop i).take (j - i)).toArray⟩ := by
  apply ByteArray.ext
  simp [ByteArray.data_extract]
theorem str_from {t : TypeId} (ht : P.underlying t = some .string) (l : List UInt8) (k : IntKind) (i : Nat) (h : i ≤ l.length) : prun P (Instr.sliceAt t (st l) (some (.int k i)) none none) = some (st (l.drop i)) := by
  rw [str_slice ht _ _ _ i l.length l.length, st_extract, List.take_of_length_le (by simp)]
  unfold Instr.sliceBounds
  rw [st_size]
  simp [prun_bind, bound_ok k i l.length _ (by omega) (by omega)]
theorem str_part {t : TypeId} (ht : P.underlying t = some .string) (l : List UInt8) (k k' : IntKind) (i j : Nat) (h : i ≤ j) (h' : j ≤ l.length) : prun P (Instr.sliceAt t (st l) (some (.int k i)) (some (.int k' j)) none) = some (st ((l.drop i).take (j - i))) := by
  rw [str_slice ht _ _ _ i j l.length, st_extract]
  unfold Instr.sliceBounds
  rw [st_size]
  simp [prun_bind, bound_ok k' j l.length _ (by omega) (by omega), bound_ok k i j _ (by omega) (by omega)]
theorem str_add {t : TypeId} (ht : P.underlying t = some .string) (x y : Operand) (a b : List UInt8) (h : a.length + b.length ≤ 9223372036854775807) : prun P (do eqGuard .add t x y (st a) (st b); binOp .add t (st a) (st b)) = some (st (a ++ b)) := by
  have h1 : ¬ (9223372036854775807 : Int) < (a.length : Int) + (b.length : Int) := by omega
  have e : (⟨a.toArray⟩ ++ ⟨b.toArray⟩ : ByteArray) = ⟨(a ++ b).toArray⟩ := by
    apply ByteArray.ext
    simp
  simp [eqGuard, binOp, Op.stringOp, IntKind.max, IntKind.signed, IntKind.bits]
  rw [st_size, st_size, if_neg h1, e]
  rfl
theorem str_eql {t : TypeId} (x y : Operand) (a b : List UInt8) : prun P (do eqGuard .eql t x y (st a) (st b); binOp .eql t (st a) (st b)) = some (.bool (decide (a = b))) := by
  have key : prun P (Op.stringOp .eql ⟨a.toArray⟩ ⟨b.toArray⟩) = some (.bool (decide (a = b))) := by
    simp only [Op.stringOp, toList_st]
    by_cases hab : a = b
    · simp [hab]
    · simp [hab]
  simpa [eqGuard, binOp, Op.equal, Op.maxDepth] using key
theorem str_neq {t : TypeId} (x y : Operand) (a b : List UInt8) : prun P (do eqGuard .neq t x y (st a) (st b); binOp .neq t (st a) (st b)) = some (.bool (decide (a ≠ b))) := by
  have key : prun P (Op.stringOp .neq ⟨a.toArray⟩ ⟨b.toArray⟩) = some (.bool (decide (a ≠ b))) := by
    simp only [Op.stringOp, toList_st]
    by_cases hab : a = b
    · simp [hab]
    · simp [hab]
  simpa [eqGuard, binOp, Op.equal, Op.maxDepth] using key
theorem str_range {t : TypeId} (ht : P.underlying t = some .string) (s : ByteArray) (w : World) : erun P (Instr.range t (.string s)) w = some (.pointer (some ⟨w.heap.size, 0, none⟩), w.alloc (.stringIter s 0)) := by
  apply erun_of_run
  unfold Instr.range
  rw [run_ok (prun_run (prun_underlying ht) w)]
  rfl
end
/-- a walk over a string -/
def iterA {base : Nat} (r : Nat) (s : ByteArray) (pos : Nat) : Asn base := ⟨fun S w => w.heap[r]? = some (.stringIter s pos) ∧ base ≤ r ∧ S = fun k => k = r,
  fun ⟨h, h2, h3⟩ hg hs => ⟨(hg.block r (Array.getElem?_eq_some_iff.mp h).1 (hs r (by rw [h3]))).trans h, h2, h3⟩,
  fun ⟨h, h2, h3⟩ k hk => by rw [h3] at hk; cases hk; exact ⟨h2, (Array.getElem?_eq_some_iff.mp h).1⟩⟩
section
variable {P : Program} {W w : World} {X : Asn W.heap.size} {r : Nat} {s : ByteArray} {pos : Nat}
theorem Sat.newIter (x : Sat W X w) (s : ByteArray) : Sat W (iterA w.heap.size s 0 * X) (w.alloc (.stringIter s 0)) := by
  obtain ⟨g, S, x⟩ := x
  have ga := World.grownBy_alloc w (.stringIter s 0) none
  exact ⟨g.step (grew_new ga), fun k => k = w.heap.size ∨ S k, fun k => k = w.heap.size, S, fun k hk hs => by have := (X.rng x k hs).2; omega, rfl, ⟨heap_alloc_new w _, g.size, rfl⟩, X.frame x (grew_new (S := fun _ => False) ga) fun k _ h => h⟩
theorem Sat.iterEnd (x : Sat W (iterA r s pos * X) w) (ty : TypeId) (h : ¬ pos < s.size) : erun P (Instr.next (.pointer (some ⟨r, 0, none⟩)) true ty) w = some (.tuple #[.bool false], w) := by
  obtain ⟨g, S, hr, _⟩ := x.left
  apply erun_of_run
  simp [Instr.next, getObj, Sem.run, hr, h]
theorem Sat.iterNext (x : Sat W (iterA r s pos * X) w) (ty : TypeId) (h : pos < s.size) : ∃ w', erun P (Instr.next (.pointer (some ⟨r, 0, none⟩)) true ty) w = some (.tuple #[.bool true, .int .i64 pos, .int .i32 (Utf8.decode s pos).1], w') ∧ Sat W (iterA r s (pos + (Utf8.decode s pos).2) * X) w' := by
  obtain ⟨g, S, A, B, d, e, ⟨hr, hb, hA⟩, q⟩ := x
  subst hA
  have hlt := (Array.getElem?_eq_some_iff.mp hr).1
  obtain ⟨w', hw'⟩ : ∃ w', w' = { w with heap := w.heap.setIfInBounds r (.stringIter s (pos + (Utf8.decode s pos).2)) } := ⟨_, rfl⟩
  have hg : Grew (fun k => k = r) w w' := by
    subst hw'
    refine ⟨rfl, rfl, rfl, by simp, fun k _ hk => ?_⟩
    have : r ≠ k := fun e => hk e.symm
    simp [Array.getElem?_setIfInBounds, this]
  refine ⟨w', erun_of_run ?_, g.trans hg fun k hk => .inr (hk ▸ hb), fun k => k = r ∨ B k, fun k => k = r, B, d, rfl, ⟨?_, hb, rfl⟩, X.frame q hg fun k hB hk => d k hk hB⟩
  · subst hw'
    simp [Instr.next, getObj, setObj, Sem.run, hr, h, goInt, Result.andThen]
  · subst hw'
    simp [Array.getElem?_setIfInBounds, hlt]
end
end Go.Sh

