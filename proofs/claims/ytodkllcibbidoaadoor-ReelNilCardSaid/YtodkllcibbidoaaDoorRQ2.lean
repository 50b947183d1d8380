/- The layer 'Sh': structs that are compared. No condition but those that each statement names. -/
import Derived.Laws.StructEq
import Derived.Deep.Strs
import Derived.DataElems
import Derived.SizedLaws
import Derived.ArgAppend
import Derived.RangeFuncLeaves
import Derived.RangeFuncRecord
import Derived.RangeFuncFrom
import Derived.LaidLaws
import Derived.Lib.LaidTab
import Derived.Lay
import Derived.LaidHandle
import Derived.Test.YtodkllcibbidoaaDoorRQ1
namespace Go.Sh
open Go Go.RowKit
set_option linter.unusedVariables false
section
variable {P : Program} (w : World)
theorem rr_equalIn_struct (d : Nat) (t : TypeId) (xs ys : Array Value) (ht : P.underlying t = some (.struct (P.fieldsOf t))) (hp : P.stoodInHeld t = false) :
    rrun P (Op.equalIn (d + 1) t (.agg xs) (.agg ys)) w = rrun P (Op.eqFields d xs ys (P.fieldsOf t).toList) w := by
  simp only [Op.equalIn, rrun_bind, rrun_of_prun (prun_underlying ht), Option.bind_some, rrun_of_prun prun_program, hp, Bool.false_eq_true, if_false]
  rw [← Array.forIn_toList]
  generalize (P.fieldsOf t).toList = fs
  clear ht
  induction fs with
  | nil => simp [Op.eqFields]
  | cons f fs ih =>
    simp only [List.forIn_cons, Op.eqFields]
    split
    · simp only [rrun_bind]
      cases rrun P (part f.type xs f.offset) w with
      | none => rfl
      | some a =>
        simp only [Option.bind_some]
        cases rrun P (part f.type ys f.offset) w with
        | none => rfl
        | some b =>
          simp only [Option.bind_some]
          cases rrun P (Op.equalIn d f.type a b) w with
          | none => rfl
          | some r =>
            cases r
            · simp
            · simpa using ih
    · simpa using ih
theorem rr_equalIn_int (d : Nat) (t : TypeId) (k k' : IntKind) (a b : Int) (h : P.underlying t = some (.int k')) : rrun P (Op.equalIn (d + 1) t (.int k a) (.int k b)) w = some (a == b) := by
  simp [Op.equalIn, rrun_bind, rrun_of_prun (prun_underlying h)]
theorem rr_eqFields_nil (d : Nat) (xs ys : Array Value) : rrun P (Op.eqFields d xs ys []) w = some true := by simp [Op.eqFields]
theorem rr_eqFields_cons (d : Nat) (xs ys : Array Value) (f : Field) (fs : List Field) (a b : Value) (r q : Bool) (hn : f.name ≠ "_") (h1 : rrun P (part f.type xs f.offset) w = some a) (h2 : rrun P (part f.type ys f.offset) w = some b)
    (h3 : rrun P (Op.equalIn d f.type a b) w = some r) (h4 : rrun P (Op.eqFields d xs ys fs) w = some q) : rrun P (Op.eqFields d xs ys (f :: fs)) w = some (r && q) := by
  simp only [Op.eqFields, hn, ne_eq, not_false_eq_true, if_true, rrun_bind, h1, h2, h3, Option.bind_some]
  cases r <;> simp [h4]
theorem rr_eql (t : TypeId) (x y : Operand) (xs ys : Array Value) (b : Bool) (hm : P.eqGuardType P.depth t = false) (ht : P.underlying t = some (.struct (P.fieldsOf t))) (hp : P.stoodInHeld t = false)
    (h : rrun P (Op.eqFields 9999 xs ys (P.fieldsOf t).toList) w = some b) : rrun P (do eqGuard .eql t x y (.agg xs) (.agg ys); binOp .eql t (.agg xs) (.agg ys)) w = some (.bool b) := by
  have h1 := rr_equalIn_struct (P := P) w 9999 t xs ys ht hp
  rw [h] at h1
  simp [eqGuard, rrun_bind, rrun_of_prun prun_program, hm, binOp, Op.equal, Op.maxDepth, h1]
end
end Go.Sh

namespace Go.Sh
open Go Go.RowKit Go.ChangeShapes Go.WideShapes
set_option linter.unusedVariables false
section
variable {H : Type} {enc : TypeId × Value → H} {P : Program} {W : World}
/-- these cells are a datum of type t -/
def Dat (enc : TypeId × Value → H) (P : Program) (W : World) (t : TypeId) (cs : List Value) : Prop := ∃ n y, DataW.trod enc P W 0 (fun _ => true) true n t cs = some y
theorem dat_int {t : TypeId} {k : IntKind} {cs : List Value} (ht : P.underlying t = some (.int k)) (h : Dat enc P W t cs) : ∃ x : Int, cs = [.int k x] ∧ (Lit.int k x).wf = true := by
  obtain ⟨n, y, h⟩ := h
  obtain ⟨x, h1, _, h2⟩ := DataW.trod_int ht h
  exact ⟨x, h1, h2⟩
theorem dat_struct {t : TypeId} {fs : Array Field} {cs : List Value} (ht : P.underlying t = some (.struct fs)) (h : Dat enc P W t cs) : cs.length = P.cellsOf t ∧ ∀ (i : Nat) (f : Field), fs[i]? = some f → Dat enc P W f.type ((cs.drop f.offset).take (P.cellsOf f.type)) := by
  obtain ⟨n, y, h⟩ := h
  obtain ⟨xs, m, _, _, hl, hx, hf⟩ := DataW.trod_struct ht h
  refine ⟨hl, fun i f hi => ?_⟩
  have h1 := hf i f hi
  have h2 : i < xs.length := by rw [hx]; exact (Array.getElem?_eq_some_iff.mp hi).1
  rw [List.getElem?_eq_getElem h2] at h1
  exact ⟨m, _, h1⟩
theorem dat_of {t : TypeId} {v : Value} {d : DataW H} {ps : List MemPlace} (h : DataW.Trod enc P W 0 (fun _ => true) true t v d ps) : Dat enc P W t v.cells.toList := by
  obtain ⟨n, h⟩ := h
  exact ⟨n, _, h⟩
end
end Go.Sh

namespace Go.Sh
open Go Go.RowKit
set_option linter.unusedVariables false
/-- rows, each in memory of its own: a slice, and what it holds -/
structure Rows (w : World) (base : Nat) (e : TypeId) (q : List (Value × List Value)) : Prop where
  own : ∀ p ∈ q, w.ownsRow base e 1 p.1 p.2.length p.2
  dis : ∀ (i j : Nat) p p', q[i]? = some p → q[j]? = some p' → i ≠ j → ∀ k, p.1.ownBlock = some k → p'.1.ownBlock ≠ some k
def rfp (q : List (Value × List Value)) : Nat → Prop := fun k => ∃ p ∈ q, p.1.ownBlock = some k
section
variable {w w' : World} {base : Nat} {e e' : TypeId} {q : List (Value × List Value)} {S : Nat → Prop}
theorem Rows.nil : Rows w base e [] := ⟨by simp, by simp⟩
theorem Rows.grew (h : Rows w base e q) (hg : Grew S w w') (hn : ∀ k, rfp q k → ¬ S k) : Rows w' base e q :=
  ⟨fun p hp => own_grew (h.own p hp) hg fun k hk => hn k ⟨p, hp, hk⟩, h.dis⟩
theorem Rows.new (h : Rows w base e q) (hg : w.grownBy w' none) : Rows w' base e q := h.grew (grew_new (S := fun _ => False) hg) fun _ _ h => h
theorem Rows.ge (h : Rows w base e q) {k : Nat} (hk : rfp q k) : base ≤ k ∧ k < w.heap.size := by
  obtain ⟨p, hp, hk⟩ := hk
  exact (h.own p hp).lt k hk
theorem Rows.push (h : Rows w base e q) {p : Value × List Value} (o : w.ownsRow base e 1 p.1 p.2.length p.2) (hd : ∀ k, p.1.ownBlock = some k → ¬ rfp q k) : Rows w base e (q ++ [p]) := by
  refine ⟨fun p' hp => ?_, fun i j x y hi hj hne k hx hy => ?_⟩
  · simp only [List.mem_append, List.mem_singleton] at hp
    rcases hp with hp | rfl
    · exact h.own p' hp
    · exact o
  · have li := (List.getElem?_eq_some_iff.mp hi).1
    have lj := (List.getElem?_eq_some_iff.mp hj).1
    simp only [List.length_append, List.length_singleton] at li lj
    by_cases i1 : i < q.length
    · rw [List.getElem?_append_left i1] at hi
      by_cases j1 : j < q.length
      · rw [List.getElem?_append_left j1] at hj
        exact h.dis i j x y hi hj hne k hx hy
      · rw [List.getElem?_append_right (by omega), show j - q.length = 0 by omega] at hj
        simp at hj
        subst hj
        exact hd k hy ⟨x, List.mem_of_getElem? hi, hx⟩
    · rw [List.getElem?_append_right (by omega), show i - q.length = 0 by omega] at hi
      simp at hi
      subst hi
      by_cases j1 : j < q.length
      · rw [List.getElem?_append_left j1] at hj
        exact hd k hx ⟨y, List.mem_of_getElem? hj, hy⟩
      · omega
theorem Rows.set (h : Rows w base e q) {i : Nat} {p p' : Value × List Value} (hi : q[i]? = some p) (hg : Grew (fun k => p.1.ownBlock = some k) w w') (o : w'.ownsRow base e 1 p'.1 p'.2.length p'.2)
    (hk : ∀ k, p'.1.ownBlock = some k → p.1.ownBlock = some k ∨ w.heap.size ≤ k) : Rows w' base e (q.set i p') := by
  have hil := (List.getElem?_eq_some_iff.mp hi).1
  have other : ∀ j x, q[j]? = some x → i ≠ j → ∀ k, x.1.ownBlock = some k → p.1.ownBlock ≠ some k := fun j x hj hne k hx hp => h.dis i j p x hi hj hne k hp hx
  refine ⟨fun x hx => ?_, fun a b x y ha hb hne k hx hy => ?_⟩
  · obtain ⟨j, hj⟩ := List.getElem?_of_mem hx
    by_cases hij : i = j
    · subst hij
      rw [List.getElem?_set_self hil] at hj
      cases hj
      exact o
    · rw [List.getElem?_set_ne hij] at hj
      exact own_grew (h.own x (List.mem_of_getElem? hj)) hg fun k hk => other j x hj hij k hk
  · by_cases hia : i = a
    · subst hia
      rw [List.getElem?_set_self hil] at ha
      cases ha
      rw [List.getElem?_set_ne hne] at hb
      rcases hk k hx with h1 | h1
      · exact other b y hb hne k hy h1
      · have := ((h.own y (List.mem_of_getElem? hb)).lt k hy).2; omega
    · rw [List.getElem?_set_ne hia] at ha
      by_cases hib : i = b
      · subst hib
        rw [List.getElem?_set_self hil] at hb
        cases hb
        rcases hk k hy with h1 | h1
        · exact other a x ha hia k hx h1
        · have := ((h.own x (List.mem_of_getElem? ha)).lt k hx).2; omega
      · rw [List.getElem?_set_ne hib] at hb
        exact h.dis a b x y ha hb hne k hx hy
theorem Rows.part (h : Rows w base e q) {i : Nat} {p : Value × List Value} (hi : q[i]? = some p) : w.ownsRow base e 1 p.1 p.2.length p.2 := h.own p (List.mem_of_getElem? hi)
end
end Go.Sh

namespace Go.Sh
open Go Go.RowKit
set_option linter.unusedVariables false
set_option linter.unusedSimpArgs false
theorem iter_once {f : List Value → World → Option Res} {vs vs' : List Value} {w w' : World} (h : f vs w = some (.norm vs' w')) {r : Res} (h' : iter f vs' w' = some r) : iter f vs w = some r := iter_of_rounds (.more h (rounds_of_iter h'))
theorem own_rebase {w : World} {base B : Nat} {e : TypeId} {size n : Nat} {v : Value} {xs : List Value} (h : w.ownsRow base e size v n xs) (hB : ∀ k, v.ownBlock = some k → B ≤ k) : w.ownsRow B e size v n xs := by
  obtain ⟨h0, h1⟩ := h
  refine ⟨h0, ?_⟩
  rcases h1 with h1 | ⟨g, cap, cur, rfl, h2, h3⟩
  · exact .inl h1
  · exact .inr ⟨g, cap, cur, rfl, hB g rfl, h3⟩
end Go.Sh

namespace Go.Sh
open Go Go.RowKit
set_option linter.unusedVariables false
set_option linter.unusedSimpArgs false
/-- an assertion about blocks that are newer than base -/
structure Asn (base : Nat) where
  at_ : (Nat → Prop) → World → Prop
  frame : ∀ {S : Nat → Prop} {w w' : World} {T : Nat → Prop}, at_ S w → Grew T w w' → (∀ k, S k → ¬ T k) → at_ S w'
  rng : ∀ {S : Nat → Prop} {w : World}, at_ S w → ∀ k, S k → base ≤ k ∧ k < w.heap.size
variable {base : Nat}
theorem Asn.ext' {P Q : Asn base} (h : ∀ S w, P.at_ S w ↔ Q.at_ S w) : P = Q := by
  cases P; cases Q
  congr
  funext S w
  exact propext (h S w)
/-- nothing -/
def emp : Asn base := ⟨fun S _ => S = fun _ => False, fun h _ _ => h, fun h k hk => by subst h; exact hk.elim⟩
def StarAt (P Q : Asn base) (S : Nat → Prop) (w : World) : Prop := ∃ A B : Nat → Prop, (∀ k, A k → ¬ B k) ∧ S = (fun k => A k ∨ B k) ∧ P.at_ A w ∧ Q.at_ B w
theorem starAt_frame {P Q : Asn base} {S : Nat → Prop} {w w' : World} {T : Nat → Prop} (h : StarAt P Q S w) (hg : Grew T w w') (hs : ∀ k, S k → ¬ T k) : StarAt P Q S w' := by
  obtain ⟨A, B, d, e, p, q⟩ := h
  exact ⟨A, B, d, e, P.frame p hg fun k hk => hs k (by rw [e]; exact .inl hk), Q.frame q hg fun k hk => hs k (by rw [e]; exact .inr hk)⟩
theorem starAt_rng {P Q : Asn base} {S : Nat → Prop} {w : World} (h : StarAt P Q S w) (k : Nat) (hk : S k) : base ≤ k ∧ k < w.heap.size := by
  obtain ⟨A, B, d, e, p, q⟩ := h
  rw [e] at hk
  rcases hk with hk | hk
  · exact P.rng p k hk
  · exact Q.rng q k hk
/-- beside -/
def star (P Q : Asn base) : Asn base := ⟨StarAt P Q, starAt_frame, starAt_rng⟩
instance : Mul (Asn base) := ⟨star⟩
theorem star_comm (P Q : Asn base) : P * Q = Q * P := by
  apply Asn.ext'
  intro S w
  constructor
  · rintro ⟨A, B, d, e, p, q⟩
    exact ⟨B, A, fun k hb ha => d k ha hb, by rw [e]; funext k; exact propext or_comm, q, p⟩
  · rintro ⟨A, B, d, e, p, q⟩
    exact ⟨B, A, fun k hb ha => d k ha hb, by rw [e]; funext k; exact propext or_comm, q, p⟩
theorem star_assoc (P Q R : Asn base) : (P * Q) * R = P * (Q * R) := by
  apply Asn.ext'
  intro S w
  constructor
  · rintro ⟨X, C, d, e, ⟨A, B, d', e', p, q⟩, r⟩
    subst e'
    refine ⟨A, fun k => B k ∨ C k, fun k ha hbc => ?_, by rw [e]; funext k; exact propext or_assoc, p, B, C, fun k hb hc => d k (.inr hb) hc, rfl, q, r⟩
    rcases hbc with hb | hc
    · exact d' k ha hb
    · exact d k (.inl ha) hc
  · rintro ⟨A, X, d, e, p, B, C, d', e', q, r⟩
    subst e'
    refine ⟨fun k => A k ∨ B k, C, fun k hab hc => ?_, by rw [e]; funext k; exact propext or_assoc.symm, ⟨A, B, fun k ha hb => d k ha (.inl hb), rfl, p, q⟩, r⟩
    rcases hab with ha | hb
    · exact d k ha (.inr hc)
    · exact d' k hb hc
instance : Std.Associative (α := Asn base) (· * ·) := ⟨star_assoc⟩
instance : Std.Commutative (α := Asn base) (· * ·) := ⟨star_comm⟩
/-- one beside the other, for each of a list -/
def all {α : Type} (f : α → Asn base) : List α → Asn base
  | [] => emp
  | a :: l => f a * all f l
/-- a block, with its cells -/
def blkA (b : Nat) (e : TypeId) (cs : List Value) : Asn base := ⟨fun S w => Blk w b e cs ∧ base ≤ b ∧ S = fun k => k = b, fun ⟨h, h2, h3⟩ hg hs => ⟨h.grew hg (hs b (by rw [h3])), h2, h3⟩, fun ⟨h, h2, h3⟩ k hk => by rw [h3] at hk; cases hk; exact ⟨h2, h.lt⟩⟩
/-- a row with room of its own -/
def rowA (e : TypeId) (sz : Nat) (v : Value) (n : Nat) (xs : List Value) : Asn base := ⟨fun S w => w.ownsRow base e sz v n xs ∧ S = fun k => v.ownBlock = some k, fun ⟨h, h3⟩ hg hs => ⟨own_grew h hg fun k hk => hs k (by rw [h3]; exact hk), h3⟩, fun ⟨h, h3⟩ k hk => by rw [h3] at hk; exact h.lt k hk⟩
/-- a row that came out, clipped to what it holds -/
def clipA (e : TypeId) (sz : Nat) (v : Value) (n : Nat) (xs : List Value) : Asn base := ⟨fun S w => (∃ A c, v = .slice A n n ∧ n ≤ c ∧ w.ownsRow base e sz (.slice A n c) n xs) ∧ S = fun k => v.ownBlock = some k,
  fun ⟨⟨A, c, h1, h2, h⟩, h3⟩ hg hs => ⟨⟨A, c, h1, h2, own_grew h hg fun k hk => hs k (by rw [h3, h1]; cases A <;> exact hk)⟩, h3⟩,
  fun ⟨⟨A, c, h1, h2, h⟩, h3⟩ k hk => by rw [h3, h1] at hk; exact h.lt k (by cases A <;> exact hk)⟩

/-- the state: since W nothing older has changed, and the parts stand as X says -/
def Sat (W : World) (X : Asn W.heap.size) (w : World) : Prop := Grew (fun _ => False) W w ∧ ∃ S, X.at_ S w
/-- what a run does to P, whatever lies beside it -/
def Step {α : Type} (W : World) (P : Asn W.heap.size) (r : World → Option (α × World)) (Q : α → Asn W.heap.size) : Prop :=
  ∀ S w, Grew (fun _ => False) W w → P.at_ S w → ∃ v w' S', r w = some (v, w') ∧ (Q v).at_ S' w' ∧ Grew S w w' ∧ ∀ k, S' k → S k ∨ w.heap.size ≤ k
section
variable {W w w' : World} {P Q R X Y : Asn W.heap.size} {α : Type}
theorem Sat.sub (s : Sat W X w) (h : ∀ S w, X.at_ S w → ∃ S', Y.at_ S' w) : Sat W Y w := by
  obtain ⟨g, S, x⟩ := s
  exact ⟨g, h S w x⟩
theorem Sat.eq (s : Sat W X w) (h : X = Y) : Sat W Y w := h ▸ s
theorem Sat.left (s : Sat W (P * R) w) : Sat W P w := s.sub fun S w ⟨A, B, d, e, p, q⟩ => ⟨A, p⟩
theorem Sat.right (s : Sat W (P * R) w) : Sat W R w := s.sub fun S w ⟨A, B, d, e, p, q⟩ => ⟨B, q⟩
theorem Sat.size (s : Sat W X w) : W.heap.size ≤ w.heap.size := s.1.size
theorem Sat.drew (s : Sat W X w) : Sat W X w.drew := by
  obtain ⟨g, S, x⟩ := s
  exact ⟨g.step (Grew.drew _ _), S, X.frame x (Grew.drew (fun _ => False) w) fun k _ h => h⟩
theorem Sat.grown (s : Sat W X w) (hg : w.grownBy w' none) : Sat W X w' := by
  obtain ⟨g, S, x⟩ := s
  exact ⟨g.step (grew_new hg), S, X.frame x (grew_new (S := fun _ => False) hg) fun k _ h => h⟩
theorem Sat.blk {b : Nat} {e : TypeId} {cs : List Value} (s : Sat W (blkA b e cs * R) w) : Blk w b e cs := by
  obtain ⟨g, S, h, _⟩ := s.left
  exact h
theorem Sat.row {e : TypeId} {sz n : Nat} {v : Value} {xs : List Value} (s : Sat W (rowA e sz v n xs * R) w) : w.ownsRow W.heap.size e sz v n xs := by
  obtain ⟨g, S, h, _⟩ := s.left
  exact h
theorem Sat.clip {e : TypeId} {sz n : Nat} {v : Value} {xs : List Value} (s : Sat W (clipA e sz v n xs * R) w) : ∃ A c, v = .slice A n n ∧ n ≤ c ∧ w.ownsRow W.heap.size e sz (.slice A n c) n xs := by
  obtain ⟨g, S, h, _⟩ := s.left
  exact h
theorem Step.on {r : World → Option (α × World)} {Q : α → Asn W.heap.size} (h : Step W P r Q) (s : Sat W (P * R) w) : ∃ v w', r w = some (v, w') ∧ Sat W (Q v * R) w' ∧ w.heap.size ≤ w'.heap.size := by
  obtain ⟨g, S, A, B, d, e, p, q⟩ := s
  obtain ⟨v, w', S', h1, h2, h3, h4⟩ := h A w g p
  refine ⟨v, w', h1, ⟨g.trans h3 fun k hk => .inr (P.rng p k hk).1, fun k => S' k ∨ B k, S', B, fun k hs hb => ?_, rfl, h2, R.frame q h3 fun k hb ha => d k ha hb⟩, h3.size⟩
  rcases h4 k hs with h5 | h5
  · exact d k h5 hb
  · have := (R.rng q k hb).2; omega
/-- a step at P, found within X -/
theorem Step.at {r : World → Option (α × World)} {Q : α → Asn W.heap.size} (h : Step W P r Q) (s : Sat W X w) (e : X = P * R) : ∃ v w', r w = some (v, w') ∧ Sat W (Q v * R) w' ∧ w.heap.size ≤ w'.heap.size := h.on (s.eq e)
/-- a step with what lies beside it is a step -/
theorem Step.star {r : World → Option (α × World)} {Q : α → Asn W.heap.size} (h : Step W P r Q) (R : Asn W.heap.size) : Step W (P * R) r (fun v => Q v * R) := by
  rintro S w g ⟨A, B, d, e, p, q⟩
  obtain ⟨v, w', S', h1, h2, h3, h4⟩ := h A w g p
  refine ⟨v, w', fun k => S' k ∨ B k, h1, ⟨S', B, fun k hs hb => ?_, rfl, h2, R.frame q h3 fun k hb ha => d k ha hb⟩, h3.weak fun k hk => .inl (by rw [e]; exact .inl hk), fun k hk => ?_⟩
  · rcases h4 k hs with h5 | h5
    · exact d k h5 hb
    · have := (R.rng q k hb).2; omega
  · rcases hk with hk | hk
    · rcases h4 k hk with h5 | h5
      · exact .inl (by rw [e]; exact .inl h5)
      · exact .inr h5
    · exact .inl (by rw [e]; exact .inr hk)
/-- new memory -/
theorem Sat.newBlk (s : Sat W R w) (e : TypeId) (cs : List Value) : Sat W (blkA w.heap.size e cs * R) (w.alloc (.cells cs.toArray e)) := by
  obtain ⟨g, S, x⟩ := s
  have ga := World.grownBy_alloc w (.cells cs.toArray e) none
  exact ⟨g.step (grew_new ga), fun k => k = w.heap.size ∨ S k, fun k => k = w.heap.size, S, fun k hk hs => by have := (R.rng x k hs).2; omega, rfl, ⟨Blk.new w e cs, g.size, rfl⟩, R.frame x (grew_new (S := fun _ => False) ga) fun k _ h => h⟩
/-- a row in new memory -/
theorem Sat.newRow (s : Sat W R w) (hg : w.grownBy w' none) {e : TypeId} {sz n : Nat} {v : Value} {xs : List Value} (h : w'.ownsRow w.heap.size e sz v n xs) : Sat W (rowA e sz v n xs * R) w' := by
  obtain ⟨g, S, x⟩ := s
  refine ⟨g.step (grew_new hg), fun k => v.ownBlock = some k ∨ S k, fun k => v.ownBlock = some k, S, fun k hk hs => ?_, rfl, ⟨own_rebase h fun k hk => Nat.le_trans g.size (h.lt k hk).1, rfl⟩, R.frame x (grew_new (S := fun _ => False) hg) fun k _ h => h⟩
  have := (R.rng x k hs).2
  have := (h.lt k hk).1
  omega
/-- none -/
theorem Sat.nilRow (s : Sat W R w) (e : TypeId) (sz : Nat) : Sat W (rowA e sz (.slice none 0 0) 0 [] * R) w := s.newRow (grown_refl _ _) (World.ownsRow_nil w w.heap.size e sz)
/-- a write of a cell of a block -/
theorem Sat.store {b : Nat} {e : TypeId} {cs cs' : List Value} (s : Sat W (blkA b e cs * R) w) (i : Nat) (v : Value) (h : cs.set i v = cs') : Sat W (blkA b e cs' * R) (w.setCell ⟨b, i, none⟩ v) := by
  obtain ⟨g, S, A, B, d, e, ⟨p, hb, hA⟩, q⟩ := s
  subst hA
  have hg := grew_set (S := fun k => k = b) w i v rfl
  exact ⟨g.trans hg fun k hk => .inr (hk ▸ hb), fun k => k = b ∨ B k, fun k => k = b, B, d, rfl, ⟨p.store2 i v h, hb, rfl⟩, R.frame q hg fun k hB hk => d k hk hB⟩
/-- a row is changed by a run that has its block alone -/
theorem Sat.rowStep {e : TypeId} {sz n n' : Nat} {v v' : Value} {xs xs' : List Value} (s : Sat W (rowA e sz v n xs * R) w) (hg : w.grownBy w' v.ownBlock) (h : w'.ownsRow W.heap.size e sz v' n' xs') (hk : ∀ k, v'.ownBlock = some k → v.ownBlock = some k ∨ w.heap.size ≤ k) : Sat W (rowA e sz v' n' xs' * R) w' := by
  obtain ⟨g, S, A, B, d, e, ⟨p, hA⟩, q⟩ := s
  subst hA
  have hg' : Grew (fun k => v.ownBlock = some k) w w' := grew_of hg fun k hk => .inl hk
  refine ⟨g.trans hg' fun k hk => .inr (p.lt k hk).1, fun k => v'.ownBlock = some k ∨ B k, fun k => v'.ownBlock = some k, B, fun k h1 h2 => ?_, rfl, ⟨h, rfl⟩, R.frame q hg' fun k hB hk => d k hk hB⟩
  rcases hk k h1 with h3 | h3
  · exact d k h3 h2
  · have := (R.rng q k h2).2; omega
theorem Sat.alloc_ge (s : Sat W X w) (o : Obj) : Sat W X (w.alloc o) := s.grown (World.grownBy_alloc w o none)
end
end Go.Sh
namespace Go.Sh
open Go Go.RowKit
set_option linter.unusedVariables false
set_option linter.unusedSimpArgs false
section
variable {W w w' : World} {P Q R X Y : Asn W.heap.size}
theorem star_left_comm (P Q R : Asn W.heap.size) : P * (Q * R) = Q * (P * R) := by ac_rfl
theorem Sat.swap (s : Sat W (P * (Q * R)) w) : Sat W (Q * (P * R)) w := s.eq (star_left_comm _ _ _)
/-- the third first -/
theorem Sat.swap3 (s : Sat W (P * (Q * (X * R))) w) : Sat W (X * (P * (Q * R))) w := s.eq (by ac_rfl)
theorem Sat.cell {b : Nat} {e : TypeId} {cs : List Value} (s : Sat W (blkA b e cs * R) w) (i : Nat) {v : Value} (h : cs[i]? = some v) : w.cell? ⟨b, i, none⟩ = some v := s.blk.cell_eq i h
theorem Sat.frozen {b : Nat} {e : TypeId} {cs : List Value} (s : Sat W (blkA b e cs * R) w) (i : Nat) : w.frozen? ⟨b, i, none⟩ = false := s.blk.frozen i
theorem Sat.drop2 (s : Sat W (P * (Q * R)) w) : Sat W (P * R) w := s.swap.right
end
end Go.Sh

namespace Go.Sh
open Go Go.RowKit
set_option linter.unusedVariables false
set_option linter.unusedSimpArgs false
section
variable {P : Program}
/-- a value of several cells, over a part of a block -/
theorem Blk.storeAll {w : World} {b : Nat} {e : TypeId} {cs : List Value} (h : Blk w b e cs) {t : TypeId} {i : TypeInfo} (hi : P.info? t = some i) {o : Nat} {v : Value} {vs : List Value} (hv : v.cells = vs.toArray) (hs : vs.length = i.size) (hfit : o + vs.length ≤ cs.length) (ho : ∀ u ∈ vs, u.oneCell' = true)
    {cs' : List Value} (hcs : cs.take o ++ vs ++ cs.drop (o + vs.length) = cs') : ∃ w', erun P (Instr.storeAt t (.pointer (some ⟨b, o, none⟩)) v) w = some ((), w') ∧ Blk w' b e cs' ∧ w.grownBy w' (some b) := by
  subst hcs
  have key := run_storeCells_at (P := P) b o e vs 0 cs.toArray w h (by simpa using hfit) ho
  refine ⟨_, erun_of_run ?_, setRow_heap w b cs.toArray _ e (0, 0) h, ⟨rfl, rfl, rfl, by simp [World.setRow], fun k _ hk => ?_⟩⟩
  · unfold Instr.storeAt storeVar
    have e1 : (Instr.sureAddr (.pointer (some ⟨b, o, none⟩))).run P w = .ok ⟨b, o, none⟩ w := rfl
    rw [run_ok e1, run_ok (prun_run (prun_sizeOf hi) w), hv]
    simp only [List.size_toArray, hs, ne_eq, not_true_eq_false, if_false]
    have : (do pure PUnit.unit; storeCells ⟨b, o, none⟩ vs : Sem Unit) = storeCells ⟨b, o, none⟩ vs := rfl
    simpa [hs] using key
  · have hne : b ≠ k := fun e => hk (by rw [e])
    simp [World.setRow, Array.getElem?_modify, hne]
end
end Go.Sh

namespace Go.Sh
open Go Go.RowKit
set_option linter.unusedVariables false
set_option linter.unusedSimpArgs false
/-- one cell of a row that is owned -/
theorem own_put {P : Program} {w : World} {base n c sz : Nat} {e : TypeId} {A : Option Addr} {xs : List Value} (h : w.ownsRow base e sz (.slice A n c) n xs) {t : TypeId} {i : TypeInfo} (hi : P.info? t = some i) (hs : i.size = 1) {j : Nat} (hj : j < n * sz) {v : Value} (hv : v.cells = #[v]) (ho : v.oneCell' = true) :
    ∃ a w', A = some a ∧ base ≤ a.block ∧ erun P (Instr.storeAt t (.pointer (some (a.add j))) v) w = some ((), w') ∧ w'.ownsRow base e sz (.slice A n c) n (xs.set j v) ∧ w.grownBy w' (some a.block) := by
  rcases h.2 with ⟨h1, h2⟩ | ⟨g, cap, cur, hv', hb, _⟩
  · subst h2; simp at hj
  · simp only [Value.slice.injEq, true_and] at hv'
    obtain ⟨rfl, rfl⟩ := hv'
    have hx : xs.length = n * sz := h.1
    have hc := h.cellAt j hj
    rw [List.getElem?_eq_getElem (by omega)] at hc
    obtain ⟨s1, s2⟩ := h.stored j v
    exact ⟨_, _, rfl, hb, by rw [addL, Nat.zero_add]; exact store_one hi hs hv ho hc (h.frozenAt j), s1, s2⟩
/-- one cell of a row -/
theorem Sat.put {P : Program} {W w : World} {X : Asn W.heap.size} {e : TypeId} {sz n : Nat} {v : Value} {xs : List Value} (s : Sat W (rowA e sz v n xs * X) w) {t : TypeId} {i : TypeInfo} (hi : P.info? t = some i) (hs : i.size = 1) {j : Nat} (hj : j < n * sz) {u : Value} (hv : u.cells = #[u]) (ho : u.oneCell' = true) :
    ∃ a c w', v = .slice (some a) n c ∧ erun P (Instr.storeAt t (.pointer (some (a.add j))) u) w = some ((), w') ∧ Sat W (rowA e sz v n (xs.set j u) * X) w' := by
  obtain ⟨A, c, rfl, hc⟩ := own_form s.row
  obtain ⟨a, w', rfl, _, h1, h2, h3⟩ := own_put (P := P) s.row hi hs hj hv ho
  exact ⟨a, c, w', rfl, h1, s.rowStep h3 h2 fun k hk => .inl hk⟩
section
variable {P : Program} {W w : World} {X : Asn W.heap.size}
/-- an element put behind a row -/
theorem Sat.push {t ty e : TypeId} {i : TypeInfo} {z : Value} {size bytes : Nat} (ht : P.underlying t = some (.slice e)) (hi : P.info? e = some i) (hz : i.zero = some z) (hsize : i.size = size) (hby : i.bytes = bytes) (hzs : z.cells.size = size) (hsz : 0 < size)
    {v : Value} {n : Nat} {xs : List Value} (x : Sat W (rowA e size v n xs * X) w) {news : List Value} (hl : news.length = size) (h1 : ∀ u ∈ news, u.oneCell' = true) (hm : n + 1 ≤ maxLen) (hbytes : (n + 1) * bytes ≤ 140737488355328) :
    ∃ v' w', erun P (Builtin.append_ #[t, t] ty #[v, .slice (some ⟨w.heap.size, 0, none⟩) 1 1]) (w.alloc (.cells news.toArray e)) = some (v', w') ∧ Sat W (rowA e size v' (n + 1) (xs ++ news) * X) w' := by
  have x1 := x.alloc_ge (.cells news.toArray e)
  have r1 : Rd (w.alloc (.cells news.toArray e)) (some ⟨w.heap.size, 0, none⟩) news := by
    intro j v hj
    rw [addL, Nat.zero_add, World.cell?_alloc_new]
    simpa using hj
  obtain ⟨v', w', k1, k2, k3, k4⟩ := e_append2 (P := P) (ty := ty) ht hi hz hsize hby hzs hsz x1.row (m := 1) (c := 1) (news := news) (by omega) r1 (fun h => by cases h) h1 hm hbytes x1.size
  exact ⟨v', w', k1, x1.rowStep k3 k2 k4⟩
end
end Go.Sh

namespace Go.Sh
open Go Go.RowKit
set_option linter.unusedVariables false
set_option linter.unusedSimpArgs false
/-- a string of these bytes -/
abbrev st (l : List UInt8) : Value := .string ⟨l.toArray⟩
theorem st_size (l : List UInt8) : (⟨l.toArray⟩ : ByteArray).size = l.length := by simp [ByteArray.size]
section
variable {P : Program}
theorem toList_st (l : List UInt8) : (⟨l.toArray⟩ : ByteArray).toList = l := by
  rw [show (⟨l.toArray⟩ : ByteArray).toList = (⟨l.toArray⟩ : ByteArray).data.toList from by simp]
theorem str_eql {t : TypeId} (x y : Operand) (a b : List UInt8) : prun P (do eqGuard .eql t x y (st a) (st b); binOp .eql t (st a) (st b)) = some (.bool (decide (a = b))) := by
  have key : prun P (Op.stringOp .eql ⟨a.toArray⟩ ⟨b.toArray⟩) = some (.bool (decide (a = b))) := by
    simp only [Op.stringOp, toList_st]
    by_cases hab : a = b
    · simp [hab]
    · simp [hab]
  simpa [eqGuard, binOp, Op.equal, Op.maxDepth] using key
end
section
variable {P : Program} {W w : World} {X : Asn W.heap.size} {r : Nat} {s : ByteArray} {pos : Nat}
end
end Go.Sh

namespace Go.Sh
open Go
set_option linter.unusedVariables false
set_option linter.unusedSimpArgs false
section
variable {P : Program} {call : CallF} {all : List Oper} {L : List Ent} {a0 : Act} {w0 : World}
theorem order_step (hF : Flat P all) {nt : Nat} (hreg : regionOk nt all = true) (hnt : nt ≤ a0.tmps.size) {a' : Act} {w' : World} (hL : LexRun P call all all a0 w0 L a' w')
    (hchk : ∀ i m, (i, m) ∈ loose P all → ∃ x y, L[i]? = some x ∧ L[m]? = some y ∧ x.chk y.before ∧ x.chk y.after)
    (listed : Array Bool) (b : Act) (W : World) (hs : listed.size = all.length) (hcl : Closed all (fun j => listed.getD j false = true))
    (h1 : SlotsAt all L a0 (fun j => listed.getD j false = true) b) (h2 : WorldOf P all L w0 (fun j => listed.getD j false = true) W) (i : Nat) (hi : i ∈ Region.ready .any all.toArray listed) :
    ∃ o x W', all[i]? = some o ∧ L[i]? = some x ∧ Region.wanted o (yielded all.toArray b.tmps) = x.g ∧ (x.g = true → Exec3 P call o b W x.v W') ∧ (x.g = false → x.v = undef ∧ W' = W) ∧ (quietOp P o.op = true → W' = W) ∧
      Closed all (fun j => (listed.setIfInBounds i true).getD j false = true) ∧ SlotsAt all L a0 (fun j => (listed.setIfInBounds i true).getD j false = true) (b.put o.dst x.v) ∧ WorldOf P all L w0 (fun j => (listed.setIfInBounds i true).getD j false = true) W' := by
  obtain ⟨hlen, _⟩ := lex_split _ _ _ _ _ _ hL
  have hin : ∀ (listed : Array Bool) j, listed.size = all.length → listed.getD j false = true → j < all.length := by
    intro listed j hs h
    rcases Nat.lt_or_ge j listed.size with h' | h'
    · omega
    · simp [Array.getElem?_eq_none h'] at h
  have hgd : ∀ (listed : Array Bool) j, listed.size = all.length → j < all.length → listed.getD j true = listed.getD j false := by
    intro listed j hs hj
    simp [show j < listed.size by omega]
  obtain ⟨hun, o, ho', hdep'⟩ := mem_ready.mp hi
  have ho : all[i]? = some o := by simpa using ho'
  have hil : i < all.length := (List.getElem?_eq_some_iff.mp ho).1
  have hdep : Deps all (fun j => listed.getD j false = true) i := fun q hq e he hb => by
    rw [ho] at hq; cases hq
    exact hdep' e (by simpa using he) hb
  have hunF : listed.getD i false = false := by rw [← hgd listed i hs hil]; exact hun
  have hx : L[i]? = some (L[i]'(by omega)) := List.getElem?_eq_getElem (by omega)
  obtain ⟨bi, vi, l1, l2, l3⟩ := lex_at hF hreg hnt hL i (by omega)
  rw [List.drop_eq_getElem_cons hil, List.drop_eq_getElem_cons (by omega : i < L.length)] at l1
  have hoe : all[i] = o := Option.some.inj ((List.getElem?_eq_getElem hil).symm.trans ho)
  rw [hoe] at l1
  obtain ⟨e1, e2, e3, _⟩ := l1
  generalize L[i]'(by omega) = x at hx e1 e2 e3
  subst e1 e2
  have ancIn := anc_in hF.back hcl
  have ancLt : ∀ k j, k < all.length → ((ancs all).getD k 0).testBit j = true → j < k := fun k j hk hb =>
    (anc_in hF.back (S := fun _ => True) (fun _ _ _ _ _ _ _ => trivial) k hk (fun _ _ _ _ _ => trivial) j hb).2
  have notAnc : ∀ m, listed.getD m false = true → ((ancs all).getD m 0).testBit i = false := by
    intro m hm
    cases hb : ((ancs all).getD m 0).testBit i with
    | false => rfl
    | true =>
      have hml := hin listed m hs hm
      have := (ancIn m hml (fun q hq e he hb => hcl m q hm hq e he hb) i hb).1
      rw [hunF] at this
      cases this
  have iAnc : ∀ m, ((ancs all).getD i 0).testBit m = true → listed.getD m false = true := fun m hm => (ancIn i hil hdep m hm).1
  -- the slots that it looks at are as in the text's order
  have same : ∀ t ∈ looks all o, b.tmps[t]? = x.act.tmps[t]? := by
    intro t ht
    by_cases hw : ∃ (j : Nat) (q : Oper), all[j]? = some q ∧ q.dst = some t
    · obtain ⟨j, q, hq, hqt⟩ := hw
      have hjl : j < all.length := (List.getElem?_eq_some_iff.mp hq).1
      have sole : ∀ (k : Nat) (z : Oper), all[k]? = some z → k ≠ j → z.dst ≠ some t := fun k z hz hk => hF.one k j z q t hz hq (Ne.symm hk) hqt
      have none_of : ∀ (T : Nat → Prop) (c : Act), SlotsAt all L a0 T c → ¬ T j → c.tmps[t]? = a0.tmps[t]? := fun T c hc hj => hc.old t fun k z hk hz => by
        by_cases hkj : k = j
        · subst hkj; exact absurd hk hj
        · exact sole k z hz hkj
      have some_of : ∀ (T : Nat → Prop) (c : Act), SlotsAt all L a0 T c → T j → c.tmps[t]? = some (L[j]'(by omega)).v := fun T c hc hj =>
        hc.done j q _ t hj hq (List.getElem?_eq_getElem (by omega)) hqt
      by_cases hji : j = i
      · subst hji
        rw [none_of _ _ h1 (by simp [hunF]), none_of _ _ l2 (by omega)]
      · rcases hF.look i j o q t ho hq hji hqt ht with ha | ha
        · rw [some_of _ _ h1 (iAnc j ha), some_of _ _ l2 (ancLt i j hil ha)]
        · have hij := ancLt j i hjl ha
          rw [none_of _ _ h1 (fun hj => by rw [notAnc j hj] at ha; cases ha), none_of _ _ l2 (by omega)]
    · have no : ∀ (T : Nat → Prop) (c : Act), SlotsAt all L a0 T c → c.tmps[t]? = a0.tmps[t]? := fun T c hc => hc.old t fun k z _ hz hzt => hw ⟨k, z, hz, hzt⟩
      rw [no _ _ h1, no _ _ l2]
  have hex : execOp b.eval o = execOp x.act.eval o := by
    refine execOp_congr o (fun cs bb => hF.sel i o cs bb ho) fun y hy => ?_
    cases y with
    | tmp t =>
      have : t ∈ looks all o := List.mem_append_left _ (List.mem_filterMap.mpr ⟨.tmp t, by simpa using hy, rfl⟩)
      simp only [Act.eval, Array.getD_eq_getD_getElem?, same t this]
    | _ => rfl
  have hwant : Region.wanted o (yielded all.toArray b.tmps) = x.g := by
    rw [← e3.want]
    unfold Region.wanted
    cases hg : o.guard with
    | none => rfl
    | some jw =>
      obtain ⟨j, want⟩ := jw
      obtain ⟨_, d, hd⟩ := (regionOk_spec hreg ho).2 j want hg
      simp only [yielded_of hd]
      have : d ∈ looks all o := List.mem_append_right _ (by simp [hg, hd.1])
      rw [same d this]
  have conv : ∀ {W v W'}, Exec3 P call o x.act W v W' → Exec3 P call o b W v W' := by
    intro W v W' h
    unfold Exec3 at *
    rw [hex]
    exact h
  have hT : (fun j => (listed.setIfInBounds i true).getD j false = true) = (fun j => listed.getD j false = true ∨ j = i) := by
    funext j
    refine propext ⟨fun h => ?_, fun h => ?_⟩
    · by_cases hji : j = i
      · exact .inr hji
      · rw [getD_set_ne false (Ne.symm hji)] at h; exact .inl h
    · rcases h with h | rfl
      · exact getD_set_true h
      · simp [show j < listed.size by omega]
  have hcl' : Closed all (fun j => (listed.setIfInBounds i true).getD j false = true) := by
    rw [hT]
    intro k q hk hq e he hb
    rcases hk with hk | rfl
    · exact .inl (hcl k q hk hq e he hb)
    · exact .inl (hdep q hq e he hb)
  have hslots : SlotsAt all L a0 (fun j => (listed.setIfInBounds i true).getD j false = true) (b.put o.dst x.v) := by
    rw [hT]
    exact h1.put ho hx (fun j q d hq hj hd => hF.one i j o q d ho hq hj hd) hnt (regionOk_spec hreg ho).1
  by_cases he : Eff P all i
  · -- it may change the world: all such ahead of it are done, none behind it
    have hW : W = x.before := by
      refine h2.same l3 fun m hm => ⟨fun h => ?_, fun h => ?_⟩
      · have hmi : m ≠ i := fun h' => by subst h'; rw [hunF] at h; cases h
        rcases hF.chain m i hm he hmi with ha | ha
        · rw [notAnc m h] at ha; cases ha
        · exact ancLt i m hil ha
      · have hmi : m ≠ i := by omega
        have hm' := hm
        obtain ⟨q, hq, _⟩ := hm
        have hml : m < all.length := (List.getElem?_eq_some_iff.mp hq).1
        rcases hF.chain m i hm' he hmi with ha | ha
        · have := ancLt m i hml ha; omega
        · exact iAnc m ha
    subst hW
    have hlt : ∀ m, listed.getD m false = true → Eff P all m → m < i := by
      intro m h hm
      have hmi : m ≠ i := fun h' => by subst h'; rw [hunF] at h; cases h
      rcases hF.chain m i hm he hmi with ha | ha
      · rw [notAnc m h] at ha; cases ha
      · exact ancLt i m hil ha
    have hnext : WorldOf P all L w0 (fun j => (listed.setIfInBounds i true).getD j false = true) x.after := by rw [hT]; exact WorldOf.eff he hlt hx
    refine ⟨o, x, x.after, ho, hx, hwant, fun hg => conv (e3.exec hg), fun hg => e3.none hg, fun hq => e3.quiet hq, hcl', hslots, hnext⟩
  · have hq : quietOp P o.op = true := by
      cases hq : quietOp P o.op with
      | true => rfl
      | false => exact absurd ⟨o, ho, hq⟩ he
    have hnext : WorldOf P all L w0 (fun j => (listed.setIfInBounds i true).getD j false = true) W := by rw [hT]; exact h2.quiet he
    refine ⟨o, x, W, ho, hx, hwant, fun hg => ?_, fun hg => ⟨(e3.none hg).1, rfl⟩, fun _ => rfl, hcl', hslots, hnext⟩
    · refine conv ?_
      cases hp : pureOp P o.op with
      | true => exact e3.pure hg hp W
      | false =>
        -- it reads
        have ck : ∀ m, Eff P all m → ((ancs all).getD i 0).testBit m = false → ((ancs all).getD m 0).testBit i = false → ∃ y, L[m]? = some y ∧ x.chk y.before ∧ x.chk y.after := by
          intro m ⟨q, hq1, hq2⟩ b1 b2
          obtain ⟨x', y, c1, c2, c3, c4⟩ := hchk i m (loose_mem ho hq1 hq hp hq2 b1 b2)
          rw [hx] at c1; cases c1
          exact ⟨y, c2, c3, c4⟩
        by_cases hbig : ∃ m, listed.getD m false = true ∧ Eff P all m ∧ i < m
        · -- one behind it is done already: the world is what the last of them left
          obtain ⟨m, m1, m2, m3⟩ := hbig
          rcases h2 with ⟨M, y, y1, y2, y3, y4, rfl⟩ | ⟨y1, _⟩
          · have hMi : i < M := Nat.lt_of_lt_of_le m3 (y3 m m1 m2)
            have hMl := hin listed M hs y1
            obtain ⟨y', c1, _, c3⟩ := ck M y2 (by
              cases hb : ((ancs all).getD i 0).testBit M with
              | false => rfl
              | true => have := ancLt i M hil hb; omega) (notAnc M y1)
            rw [y4] at c1; cases c1
            exact e3.chk hg hq _ c3
          · exact absurd m2 (y1 m m1)
        · have hsmall : ∀ m, listed.getD m false = true → Eff P all m → m < i := by
            intro m h hm
            rcases Nat.lt_trichotomy m i with h' | h' | h'
            · exact h'
            · subst h'; rw [hunF] at h; cases h
            · exact absurd ⟨m, h, hm, h'⟩ hbig
          by_cases hall : ∀ m, m < i → Eff P all m → listed.getD m false = true
          · have hW : W = x.before := h2.same l3 fun m hm => ⟨fun h => hsmall m h hm, fun h => hall m h hm⟩
            subst hW
            have := e3.exec hg
            rw [e3.quiet hq] at this
            exact this
          · -- one ahead of it is not done yet: the least of them has still the world of now ahead of it
            have hex2 : ∃ m, m < i ∧ Eff P all m ∧ listed.getD m false = false := by
              refine Classical.byContradiction fun hn => hall fun m hm he => ?_
              cases hl : listed.getD m false with
              | true => rfl
              | false => exact absurd ⟨m, hm, he, hl⟩ hn
            have least : ∃ m, (m < i ∧ Eff P all m ∧ listed.getD m false = false) ∧ ∀ k, k < m → ¬ (k < i ∧ Eff P all k ∧ listed.getD k false = false) := by
              obtain ⟨m, hm⟩ := hex2
              induction m using Nat.strongRecOn with
              | _ m ihm =>
                by_cases hk : ∃ k, k < m ∧ (k < i ∧ Eff P all k ∧ listed.getD k false = false)
                · obtain ⟨k, k1, k2⟩ := hk
                  exact ihm k k1 k2
                · exact ⟨m, hm, fun k k1 k2 => hk ⟨k, k1, k2⟩⟩
            obtain ⟨m, ⟨m1, m2, m3⟩, m4⟩ := least
            have hml : m < all.length := by omega
            obtain ⟨y, c1, c2, _⟩ := ck m m2 (by
              cases hb : ((ancs all).getD i 0).testBit m with
              | false => rfl
              | true => have := iAnc m hb; rw [m3] at this; cases this) (by
              cases hb : ((ancs all).getD m 0).testBit i with
              | false => rfl
              | true => have := ancLt m i hml hb; omega)
            obtain ⟨bm, vm, n1, _, n3⟩ := lex_at hF hreg hnt hL m (by omega)
            rw [List.drop_eq_getElem_cons hml, List.drop_eq_getElem_cons (by omega : m < L.length)] at n1
            obtain ⟨_, n2, _, _⟩ := n1
            have hym : L[m]'(by omega) = y := Option.some.inj ((List.getElem?_eq_getElem (by omega)).symm.trans c1)
            rw [hym] at n2
            have hW : W = y.before := by
              rw [n2]
              refine h2.same n3 fun k hk => ⟨fun h => ?_, fun h => ?_⟩
              · have hkm : k ≠ m := fun h' => by subst h'; rw [m3] at h; cases h
                rcases hF.chain k m hk m2 hkm with ha | ha
                · have hkl := hin listed k hs h
                  have := (ancIn k hkl (fun q hq e he hb => hcl k q h hq e he hb) m ha).1
                  rw [m3] at this
                  cases this
                · exact ancLt m k hml ha
              · cases hl : listed.getD k false with
                | true => rfl
                | false => exact absurd ⟨by omega, hk, hl⟩ (m4 k h)
            rw [hW]
            exact e3.chk hg hq _ c2
end
end Go.Sh

namespace Go.Sh
open Go
set_option linter.unusedVariables false
set_option linter.unusedSimpArgs false
/-- the same operations at other places, with more edges -/
structure Turn (ops all : List Oper) (σ : Nat → Nat) : Prop where
  len : all.length = ops.length
  lt : ∀ i, i < ops.length → σ i < ops.length
  inj : ∀ i j, i < ops.length → j < ops.length → σ i = σ j → i = j
  onto : ∀ k, k < ops.length → ∃ i, i < ops.length ∧ σ i = k
  same : ∀ (i : Nat) (o : Oper), ops[i]? = some o → ∃ o', all[σ i]? = some o' ∧ o' = { o with after := o'.after, guard := o.guard.map fun g => (σ g.1, g.2) }
  guard : ∀ (i : Nat) (o : Oper) g, ops[i]? = some o → o.guard = some g → g.1 < ops.length
section
variable {P : Program} {call : CallF} {ops all : List Oper} {σ : Nat → Nat}
theorem Turn.wanted (h : Turn ops all σ) {i : Nat} {o o' : Oper} (ho : ops[i]? = some o) (ho' : all[σ i]? = some o') (tmps : Array Value) : Region.wanted o' (yielded all.toArray tmps) = Region.wanted o (yielded ops.toArray tmps) := by
  obtain ⟨o2, h1, h2⟩ := h.same i o ho
  rw [ho'] at h1
  cases h1
  have hg : o'.guard = o.guard.map fun g => (σ g.1, g.2) := by rw [h2]
  unfold Region.wanted
  rw [hg]
  cases hh : o.guard with
  | none => rfl
  | some g =>
    obtain ⟨j, want⟩ := g
    have hj := h.guard i o _ ho hh
    have hq : ops[j]? = some ops[j] := List.getElem?_eq_getElem hj
    obtain ⟨q', k1, k2⟩ := h.same j _ hq
    have hd : q'.dst = ops[j].dst := by rw [k2]
    simp only [Option.map_some, yielded, List.getElem?_toArray, k1, hq, Option.bind_some, hd]
theorem Turn.exec (h : Turn ops all σ) {i : Nat} {o o' : Oper} (ho : ops[i]? = some o) (ho' : all[σ i]? = some o') : o'.dst = o.dst ∧ o'.op = o.op ∧ ∀ (f : Operand → Value), execOp f o' = execOp f o := by
  obtain ⟨o2, h1, h2⟩ := h.same i o ho
  rw [ho'] at h1
  cases h1
  refine ⟨by rw [h2], by rw [h2], fun f => ?_⟩
  rw [h2]
  rfl
/-- what is listed, there and here -/
def Lst (n : Nat) (σ : Nat → Nat) (listed listed' : Array Bool) : Prop := listed.size = n ∧ listed'.size = n ∧ ∀ i, i < n → listed'.getD (σ i) false = listed.getD i false
theorem Lst.step {n : Nat} {listed listed' : Array Bool} (hlt : ∀ i, i < n → σ i < n) (hinj : ∀ i j, i < n → j < n → σ i = σ j → i = j) (h : Lst n σ listed listed') {i : Nat} (hi : i < n) : Lst n σ (listed.setIfInBounds i true) (listed'.setIfInBounds (σ i) true) := by
  obtain ⟨h1, h2, h3⟩ := h
  refine ⟨by simpa using h1, by simpa using h2, fun j hj => ?_⟩
  by_cases hij : i = j
  · subst hij
    have a := hlt i hi
    simp [Array.getD_eq_getD_getElem?, Array.getElem?_setIfInBounds, h1, h2, hi, a]
  · have hne : σ i ≠ σ j := fun e => hij (hinj i j hi hj e)
    rw [getD_set_ne false hij, getD_set_ne false hne]
    exact h3 j hj
/-- all are listed, when none is ready -/
theorem all_listed {n : Nat} {listed : Array Bool} (hn : ops.length = n) (hs : listed.size = n) (hback : ∀ (i : Nat) (o : Oper), ops[i]? = some o → ∀ e ∈ o.after.toList, Region.binds .any e = true → e.on < i)
    (hr : Region.ready .any ops.toArray listed = []) : ∀ j, j < n → listed.getD j false = true := by
  have hgd : ∀ j, j < n → listed.getD j true = listed.getD j false := by
    intro j hj
    simp [show j < listed.size by omega]
  intro j
  induction j using Nat.strongRecOn with
  | _ j ih =>
    intro hj
    cases hl : listed.getD j false with
    | true => rfl
    | false =>
      have ho : ops[j]? = some (ops[j]'(by omega)) := List.getElem?_eq_getElem (by omega)
      have : j ∈ Region.ready .any ops.toArray listed := mem_ready.mpr ⟨by rw [hgd j hj]; exact hl, ops[j]'(by omega), by simp [ho], fun e he hb => by
        have hlt := hback j _ ho e (by simpa using he) hb
        exact ih e.on hlt (by omega)⟩
      rw [hr] at this
      cases this
section
variable {L : List Ent} {a0 : Act} {w0 : World}
theorem one_order (hc : CallOk P call) (T : Turn ops all σ) (hback : ∀ (i : Nat) (o : Oper), ops[i]? = some o → ∀ e ∈ o.after.toList, Region.binds .any e = true → e.on < i)
    (hF : Flat P all) {nt : Nat} (hreg : regionOk nt all = true) (hnt : nt ≤ a0.tmps.size) {a' : Act} {w' : World} (hL : LexRun P call all all a0 w0 L a' w')
    (hchk : ∀ i m, (i, m) ∈ loose P all → ∃ x y, L[i]? = some x ∧ L[m]? = some y ∧ x.chk y.before ∧ x.chk y.after)
    {Q : Exit → Act → World → Prop} (hQ : ∀ b W, SlotsAt all L a0 (fun j => j < all.length) b → WorldOf P all L w0 (fun j => j < all.length) W → Q .normal b W)
    {c : Nat} (hcl : c < ops.length) (hready : ∀ listed listed', Lst ops.length σ listed listed' → listed.getD c false = true → ∀ i, i ∈ Region.ready .any ops.toArray listed → σ i ∈ Region.ready .any all.toArray listed') :
    ∀ (fuel : Nat) (listed listed' : Array Bool) (b : Act) (W : World), Lst ops.length σ listed listed' → listed.getD c false = true → un listed ops.length = fuel → Closed all (fun j => listed'.getD j false = true) →
      SlotsAt all L a0 (fun j => listed'.getD j false = true) b → WorldOf P all L w0 (fun j => listed'.getD j false = true) W → wpAny P .any ops.toArray Q fuel listed b W := by
  have hfin : ∀ (listed listed' : Array Bool) (b : Act) (W : World), Lst ops.length σ listed listed' → (∀ j, j < ops.length → listed.getD j false = true) →
      SlotsAt all L a0 (fun j => listed'.getD j false = true) b → WorldOf P all L w0 (fun j => listed'.getD j false = true) W → Q .normal b W := by
    intro listed listed' b W hl hall h1 h2
    have : (fun j => listed'.getD j false = true) = (fun j => j < all.length) := by
      funext j
      refine propext ⟨fun h => ?_, fun h => ?_⟩
      · rcases Nat.lt_or_ge j listed'.size with h' | h'
        · have := hl.2.1; have := T.len; omega
        · simp [Array.getElem?_eq_none h'] at h
      · rw [T.len] at h
        obtain ⟨i, hi, rfl⟩ := T.onto j h
        rw [hl.2.2 i hi]
        exact hall i hi
    rw [this] at h1 h2
    exact hQ b W h1 h2
  intro fuel
  induction fuel with
  | zero =>
    intro listed listed' b W hl hcd hu hcl' h1 h2
    have hgd : ∀ j, j < ops.length → listed.getD j true = listed.getD j false := by
      intro j hj
      simp [show j < listed.size by have := hl.1; omega]
    have hall : ∀ j, j < ops.length → listed.getD j false = true := fun j hj => by rw [← hgd j hj]; exact un_zero _ hu j hj
    refine ⟨?_, hfin listed listed' b W hl hall h1 h2⟩
    cases hr : Region.ready .any ops.toArray listed with
    | nil => rfl
    | cons j r =>
      have hj : j ∈ Region.ready .any ops.toArray listed := by rw [hr]; simp
      obtain ⟨h3, o, ho, _⟩ := mem_ready.mp hj
      have hjl : j < ops.length := (List.getElem?_eq_some_iff.mp (by simpa using ho)).1
      rw [hgd j hjl, hall j hjl] at h3
      cases h3
  | succ fuel ih =>
    intro listed listed' b W hl hcd hu hcl' h1 h2
    refine ⟨fun hr => hfin listed listed' b W hl (all_listed rfl hl.1 hback hr) h1 h2, fun i hi => ?_⟩
    obtain ⟨hun, o, ho', hdep'⟩ := mem_ready.mp hi
    have ho : ops[i]? = some o := by simpa using ho'
    have hil : i < ops.length := (List.getElem?_eq_some_iff.mp ho).1
    obtain ⟨o2, x, W', k1, k2, k3, k4, k5, k6, k7, k8, k9⟩ := order_step hF hreg hnt hL hchk listed' b W (by rw [hl.2.1, T.len]) hcl' h1 h2 (σ i) (hready listed listed' hl hcd i hi)
    obtain ⟨d1, d2, d3⟩ := T.exec ho k1
    rw [T.wanted ho k1] at k3
    rw [d1] at k8
    have hst : Lst ops.length σ (listed.setIfInBounds i true) (listed'.setIfInBounds (σ i) true) := hl.step T.lt T.inj hil
    have hcd' : (listed.setIfInBounds i true).getD c false = true := by
      by_cases hic : i = c
      · subst hic
        have := hl.1
        simp [Array.getD_eq_getD_getElem?, Array.getElem?_setIfInBounds, this, hil]
      · rw [getD_set_ne false hic]; exact hcd
    have hnext := ih (listed.setIfInBounds i true) (listed'.setIfInBounds (σ i) true) (b.put o.dst x.v) W' hst hcd' (by
      have := un_set hun ops.length hil
      omega) k7 k8 k9
    unfold wpOp
    simp only [ho', k3]
    cases hg : x.g with
    | true =>
      simp only [if_true]
      refine .inl (exec_wp hc (v := x.v) (w' := W') ?_ _ hnext)
      have e := k4 hg
      unfold Exec3 at e ⊢
      rw [d3] at e
      exact e
    | false =>
      simp only [Bool.false_eq_true, if_false]
      obtain ⟨g1, g2⟩ := k5 hg
      rw [g1, g2] at hnext
      exact hnext
end
theorem Exec3.one {P : Program} {call : CallF} {o o' : Oper} {b : Act} {W : World} {v v' : Value} {W1 W2 : World} (he : ∀ (f : Operand → Value), execOp f o' = execOp f o) (h : Exec3 P call o b W v W1) (h' : Exec3 P call o' b W v' W2) : v = v' := by
  unfold Exec3 at h h'
  rw [he] at h'
  rcases h with h | ⟨h, rfl⟩ | ⟨f, args, h, hf⟩ <;> rcases h' with h' | ⟨h', rfl⟩ | ⟨f', args', h', hf'⟩ <;> rw [h] at h' <;> cases h' <;> first
    | rfl
    | (rw [hf] at hf'
       cases hf'
       rfl)
end
end Go.Sh

namespace Go.Sh
open Go
set_option linter.unusedVariables false
set_option linter.unusedSimpArgs false
theorem Exec3.world {P : Program} {call : CallF} {o o' : Oper} {b : Act} {W : World} {v v' : Value} {W1 W2 : World} (he : ∀ (f : Operand → Value), execOp f o' = execOp f o) (h : Exec3 P call o b W v W1) (h' : Exec3 P call o' b W v' W2) : v = v' ∧ W1 = W2 := by
  unfold Exec3 at h h'
  rw [he] at h'
  rcases h with h | ⟨h, rfl⟩ | ⟨f, args, h, hf⟩ <;> rcases h' with h' | ⟨h', rfl⟩ | ⟨f', args', h', hf'⟩ <;> rw [h] at h' <;> cases h' <;> first
    | exact ⟨rfl, rfl⟩
    | (rw [hf] at hf'
       cases hf'
       exact ⟨rfl, rfl⟩)
theorem getD_set_self {listed : Array Bool} {i : Nat} (hi : i < listed.size) : (listed.setIfInBounds i true).getD i false = true := by
  simp [Array.getD_eq_getD_getElem?, Array.getElem?_setIfInBounds, hi]
/-- a place for what comes next: behind all of the chain that is listed -/
theorem some_place (cs : List Nat) (listed : Array Bool) : ∃ j, j ≤ cs.length ∧ (∀ c, 1 ≤ j → cs[j - 1]? = some c → listed.getD c false = true) ∧ ∀ c, cs[j]? = some c → listed.getD c false = false := by
  have key : ∀ n, n ≤ cs.length → (∀ x c, n ≤ x → cs[x]? = some c → listed.getD c false = false) → ∃ j, j ≤ n ∧ (∀ c, 1 ≤ j → cs[j - 1]? = some c → listed.getD c false = true) ∧ ∀ c, cs[j]? = some c → listed.getD c false = false := by
    intro n
    induction n with
    | zero => intro _ h; exact ⟨0, Nat.le_refl _, fun c h1 => absurd h1 (by omega), fun c h1 => h 0 c (Nat.le_refl _) h1⟩
    | succ n ih =>
      intro hn h
      have h4 : cs[n]? = some (cs[n]'(by omega)) := List.getElem?_eq_getElem (by omega)
      cases hl : listed.getD (cs[n]'(by omega)) false with
      | true => exact ⟨n + 1, Nat.le_refl _, fun c _ h2 => by rw [Nat.add_sub_cancel, h4] at h2; cases h2; exact hl, fun c h1 => h (n + 1) c (Nat.le_refl _) h1⟩
      | false =>
        obtain ⟨j, j1, j2, j3⟩ := ih (by omega) (fun x c hx hc => by
          rcases Nat.eq_or_lt_of_le hx with rfl | hx
          · rw [h4] at hc; cases hc; exact hl
          · exact h x c hx hc)
        exact ⟨j, by omega, j2, j3⟩
  exact key cs.length (Nat.le_refl _) (fun x c hx hc => absurd (List.getElem?_eq_some_iff.mp hc).1 (by omega))
/-- an operation may come next, at the j-th place -/
def Nxt (cs : List Nat) (a j i : Nat) (listed : Array Bool) : Prop :=
  (∀ c, 1 ≤ j → cs[j - 1]? = some c → i = a → listed.getD c false = true) ∧ (∀ c, cs[j]? = some c → i = c → listed.getD a false = true)
section
variable {P : Program} {call : CallF} {ops : List Oper} {a0 : Act} {w0 : World}
theorem many_orders {cs : List Nat} {a : Nat} {all : Nat → List Oper} {σ : Nat → Nat → Nat} {L : Nat → List Ent} (hc : CallOk P call) (T : ∀ j, j ≤ cs.length → Turn ops (all j) (σ j))
    (hback : ∀ (i : Nat) (o : Oper), ops[i]? = some o → ∀ e ∈ o.after.toList, Region.binds .any e = true → e.on < i)
    (hF : ∀ j, j ≤ cs.length → Flat P (all j)) {nt : Nat} (hreg : ∀ j, j ≤ cs.length → regionOk nt (all j) = true) (hnt : nt ≤ a0.tmps.size) {fa : Nat → Act} {fw : Nat → World} (hL : ∀ j, j ≤ cs.length → LexRun P call (all j) (all j) a0 w0 (L j) (fa j) (fw j))
    (hchk : ∀ j, j ≤ cs.length → ∀ i m, (i, m) ∈ loose P (all j) → ∃ x y, (L j)[i]? = some x ∧ (L j)[m]? = some y ∧ x.chk y.before ∧ x.chk y.after)
    {Q : Exit → Act → World → Prop} (hQ : ∀ j, j ≤ cs.length → ∀ b W, SlotsAt (all j) (L j) a0 (fun i => i < (all j).length) b → WorldOf P (all j) (L j) w0 (fun i => i < (all j).length) W → Q .normal b W)
    (hal : a < ops.length) (hac : a ∉ cs)
    (hrdy : ∀ j, j ≤ cs.length → ∀ listed listed', Lst ops.length (σ j) listed listed' → ∀ i, Nxt cs a j i listed → i ∈ Region.ready .any ops.toArray listed → σ j i ∈ Region.ready .any (all j).toArray listed') :
    ∀ (fuel : Nat) (listed : Array Bool) (b : Act) (W : World), listed.size = ops.length → un listed ops.length = fuel → listed.getD a false = false →
      (∀ j, j ≤ cs.length → (∀ c, cs[j]? = some c → listed.getD c false = false) → ∃ l', Lst ops.length (σ j) listed l' ∧ Closed (all j) (fun i => l'.getD i false = true) ∧ SlotsAt (all j) (L j) a0 (fun i => l'.getD i false = true) b ∧ WorldOf P (all j) (L j) w0 (fun i => l'.getD i false = true) W) →
      wpAny P .any ops.toArray Q fuel listed b W := by
  intro fuel
  induction fuel with
  | zero =>
    intro listed b W hs hu hau hinv
    have hgd : listed.getD a true = listed.getD a false := by simp [show a < listed.size by omega]
    have := un_zero _ hu a hal
    rw [hgd, hau] at this
    cases this
  | succ fuel ih =>
    intro listed b W hs hu hau hinv
    refine ⟨fun hr => ?_, fun i hi => ?_⟩
    · have := all_listed rfl hs hback hr a hal
      rw [hau] at this
      cases this
    obtain ⟨hun, o, ho', hdep'⟩ := mem_ready.mp hi
    have ho : ops[i]? = some o := by simpa using ho'
    have hil : i < ops.length := (List.getElem?_eq_some_iff.mp ho).1
    have hun' : un (listed.setIfInBounds i true) ops.length = fuel := by
      have := un_set hun ops.length hil
      omega
    -- one step by the order j
    have stepOf : ∀ j, j ≤ cs.length → (∀ c, cs[j]? = some c → listed.getD c false = false) → Nxt cs a j i listed → ∃ (o2 : Oper) (x : Ent) (W' : World) (l' : Array Bool), (∀ f : Operand → Value, execOp f o2 = execOp f o) ∧ Region.wanted o (yielded ops.toArray b.tmps) = x.g ∧ (x.g = true → Exec3 P call o2 b W x.v W') ∧ (x.g = false → x.v = undef ∧ W' = W) ∧
        Lst ops.length (σ j) (listed.setIfInBounds i true) l' ∧ Closed (all j) (fun k => l'.getD k false = true) ∧ SlotsAt (all j) (L j) a0 (fun k => l'.getD k false = true) (b.put o.dst x.v) ∧ WorldOf P (all j) (L j) w0 (fun k => l'.getD k false = true) W' := by
      intro j hj hm hn
      obtain ⟨l', hl, p1, p2, p3⟩ := hinv j hj hm
      obtain ⟨o2, x, W', k1, k2, k3, k4, k5, k6, k7, k8, k9⟩ := order_step (hF j hj) (hreg j hj) hnt (hL j hj) (hchk j hj) l' b W (by rw [hl.2.1, (T j hj).len]) p1 p2 p3 (σ j i) (hrdy j hj listed l' hl i hn hi)
      obtain ⟨d1, d2, d3⟩ := (T j hj).exec ho k1
      rw [(T j hj).wanted ho k1] at k3
      rw [d1] at k8
      exact ⟨o2, x, W', _, d3, k3, k4, k5, hl.step (T j hj).lt (T j hj).inj hil, k7, k8, k9⟩
    have fin : ∀ (g : Bool) (v : Value) (W' : World) (o2 : Oper), (∀ f : Operand → Value, execOp f o2 = execOp f o) → Region.wanted o (yielded ops.toArray b.tmps) = g → (g = true → Exec3 P call o2 b W v W') → (g = false → v = undef ∧ W' = W) →
        wpAny P .any ops.toArray Q fuel (listed.setIfInBounds i true) (b.put o.dst v) W' → wpOp P ops.toArray Q i (wpAny P .any ops.toArray Q fuel (listed.setIfInBounds i true)) b W := by
      intro g v W' o2 d3 k3 k4 k5 hnext
      unfold wpOp
      simp only [ho', k3]
      cases hg : g with
      | true =>
        simp only [if_true]
        refine .inl (exec_wp hc (v := v) (w' := W') ?_ _ hnext)
        have e := k4 hg
        unfold Exec3 at e ⊢
        rw [d3] at e
        exact e
      | false =>
        simp only [Bool.false_eq_true, if_false]
        obtain ⟨g1, g2⟩ := k5 hg
        rw [g1, g2] at hnext
        exact hnext
    by_cases hia : i = a
    · subst hia
      obtain ⟨j, hj, j2, j3⟩ := some_place cs listed
      obtain ⟨o2, x, W', l', s1, s3, s4, s5, s6, s7, s8, s9⟩ := stepOf j hj j3 ⟨fun c h1 h2 _ => j2 c h1 h2, fun c h1 h2 => by subst h2; exact absurd (List.mem_of_getElem? h1) hac⟩
      refine fin x.g x.v W' o2 s1 s3 s4 s5 (one_order hc (T j hj) hback (hF j hj) (hreg j hj) hnt (hL j hj) (hchk j hj) (hQ j hj) hal (fun listed listed' hl hla k hk => ?_) fuel _ _ _ _ s6 (getD_set_self (by omega)) hun' s7 s8 s9)
      refine hrdy j hj listed listed' hl k ⟨fun c _ _ e => ?_, fun c _ _ => hla⟩ hk
      subst e
      have h := (mem_ready.mp hk).1
      have : listed.getD k true = listed.getD k false := by simp [show k < listed.size by have := hl.1; omega]
      rw [this, hla] at h
      cases h
    · have hau' : (listed.setIfInBounds i true).getD a false = false := by rw [getD_set_ne false hia]; exact hau
      have old : ∀ c, (listed.setIfInBounds i true).getD c false = false → listed.getD c false = false ∧ i ≠ c := by
        intro c h
        by_cases hic : i = c
        · subst hic; rw [getD_set_self (by omega)] at h; cases h
        · rw [getD_set_ne false hic] at h; exact ⟨h, hic⟩
      have nx : ∀ j, j ≤ cs.length → (∀ c, cs[j]? = some c → (listed.setIfInBounds i true).getD c false = false) → (∀ c, cs[j]? = some c → listed.getD c false = false) ∧ Nxt cs a j i listed := by
        intro j hj h
        exact ⟨fun c hc => (old c (h c hc)).1, fun c _ _ e => absurd e hia, fun c h1 h2 => absurd h2 (old c (h c h1)).2⟩
      have hlast : ∀ c, cs[cs.length]? = some c → (listed.setIfInBounds i true).getD c false = false := fun c h => by simp at h
      obtain ⟨n1, n2⟩ := nx cs.length (Nat.le_refl _) hlast
      obtain ⟨o2, x, W', l', s1, s3, s4, s5, s6, s7, s8, s9⟩ := stepOf cs.length (Nat.le_refl _) n1 n2
      refine fin x.g x.v W' o2 s1 s3 s4 s5 (ih _ _ _ (by simpa using hs) hun' hau' fun j hj hm => ?_)
      obtain ⟨m1, m2⟩ := nx j hj hm
      obtain ⟨o3, y, W2, l2, t1, t3, t4, t5, t6, t7, t8, t9⟩ := stepOf j hj m1 m2
      have hg : x.g = y.g := s3.symm.trans t3
      have hvw : x.v = y.v ∧ W' = W2 := by
        cases h : x.g with
        | true => exact Exec3.world (fun f => (t1 f).trans (s1 f).symm) (s4 h) (t4 (hg ▸ h))
        | false => exact ⟨(s5 h).1.trans (t5 (hg ▸ h)).1.symm, (s5 h).2.trans (t5 (hg ▸ h)).2.symm⟩
      rw [← hvw.1] at t8
      rw [← hvw.2] at t9
      exact ⟨l2, t6, t7, t8, t9⟩
end
end Go.Sh

namespace Go.Sh
open Go
set_option linter.unusedVariables false
set_option linter.unusedSimpArgs false
section
variable {P : Program} {call : CallF} {ops : List Oper} {a0 : Act} {w0 : World}
/-- all listed: the end of one of the orders -/
theorem end_order {all : List Oper} {σ : Nat → Nat} {L : List Ent} (T : Turn ops all σ) {Q : Exit → Act → World → Prop} (hQ : ∀ b W, SlotsAt all L a0 (fun j => j < all.length) b → WorldOf P all L w0 (fun j => j < all.length) W → Q .normal b W)
    {listed listed' : Array Bool} {b : Act} {W : World} (hl : Lst ops.length σ listed listed') (hall : ∀ j, j < ops.length → listed.getD j false = true)
    (h1 : SlotsAt all L a0 (fun j => listed'.getD j false = true) b) (h2 : WorldOf P all L w0 (fun j => listed'.getD j false = true) W) : Q .normal b W := by
  have : (fun j => listed'.getD j false = true) = (fun j => j < all.length) := by
    funext j
    refine propext ⟨fun h => ?_, fun h => ?_⟩
    · rcases Nat.lt_or_ge j listed'.size with h' | h'
      · have := hl.2.1; have := T.len; omega
      · simp [Array.getElem?_eq_none h'] at h
    · rw [T.len] at h
      obtain ⟨i, hi, rfl⟩ := T.onto j h
      rw [hl.2.2 i hi]
      exact hall i hi
  rw [this] at h1 h2
  exact hQ b W h1 h2
theorem fam_orders {N : Nat} {E : List Nat} {Pi : Nat → List Nat} {all : Nat → List Oper} {σ : Nat → Nat → Nat} {L : Nat → List Ent} (hc : CallOk P call) (T : ∀ p, p < N → Turn ops (all p) (σ p))
    (hback : ∀ (i : Nat) (o : Oper), ops[i]? = some o → ∀ e ∈ o.after.toList, Region.binds .any e = true → e.on < i)
    (hF : ∀ p, p < N → Flat P (all p)) {nt : Nat} (hreg : ∀ p, p < N → regionOk nt (all p) = true) (hnt : nt ≤ a0.tmps.size) {fa : Nat → Act} {fw : Nat → World} (hL : ∀ p, p < N → LexRun P call (all p) (all p) a0 w0 (L p) (fa p) (fw p))
    (hchk : ∀ p, p < N → ∀ i m, (i, m) ∈ loose P (all p) → ∃ x y, (L p)[i]? = some x ∧ (L p)[m]? = some y ∧ x.chk y.before ∧ x.chk y.after)
    {Q : Exit → Act → World → Prop} (hQ : ∀ p, p < N → ∀ b W, SlotsAt (all p) (L p) a0 (fun i => i < (all p).length) b → WorldOf P (all p) (L p) w0 (fun i => i < (all p).length) W → Q .normal b W)
    (hrdy : ∀ p, p < N → ∀ listed listed', Lst ops.length (σ p) listed listed' → ∀ i, (i ∈ E → ∃ k, (Pi p)[k]? = some i ∧ ∀ x ∈ (Pi p).take k, x < ops.length ∧ listed.getD x false = true) → i ∈ Region.ready .any ops.toArray listed → σ p i ∈ Region.ready .any (all p).toArray listed')
    (hlt : ∀ p, p < N → ∀ x ∈ Pi p, x < ops.length)
    (hcover : ∀ p, p < N → ∀ k e, e ∈ E → e ∉ (Pi p).take k → (∀ x ∈ E, ((ancs ops).getD e 0).testBit x = true → x ∈ (Pi p).take k) → ∃ p', p' < N ∧ (Pi p').take (k + 1) = (Pi p).take k ++ [e]) :
    ∀ (fuel : Nat) (listed : Array Bool) (b : Act) (W : World) (pre : List Nat), listed.size = ops.length → un listed ops.length = fuel → Closed ops (fun j => listed.getD j false = true) →
      (∀ x ∈ E, listed.getD x false = true ↔ x ∈ pre) → (∀ x ∈ pre, listed.getD x false = true) → (∃ p, p < N ∧ (Pi p).take pre.length = pre) →
      (∀ p, p < N → (Pi p).take pre.length = pre → ∃ l', Lst ops.length (σ p) listed l' ∧ Closed (all p) (fun i => l'.getD i false = true) ∧ SlotsAt (all p) (L p) a0 (fun i => l'.getD i false = true) b ∧ WorldOf P (all p) (L p) w0 (fun i => l'.getD i false = true) W) →
      wpAny P .any ops.toArray Q fuel listed b W := by
  have hend : ∀ (listed : Array Bool) (b : Act) (W : World) (pre : List Nat), (∀ j, j < ops.length → listed.getD j false = true) → (∃ p, p < N ∧ (Pi p).take pre.length = pre) →
      (∀ p, p < N → (Pi p).take pre.length = pre → ∃ l', Lst ops.length (σ p) listed l' ∧ Closed (all p) (fun i => l'.getD i false = true) ∧ SlotsAt (all p) (L p) a0 (fun i => l'.getD i false = true) b ∧ WorldOf P (all p) (L p) w0 (fun i => l'.getD i false = true) W) → Q .normal b W := by
    intro listed b W pre hall ⟨p, hp, hpp⟩ hinv
    obtain ⟨l', hl, _, h2, h3⟩ := hinv p hp hpp
    exact end_order (T p hp) (hQ p hp) hl hall h2 h3
  intro fuel
  induction fuel with
  | zero =>
    intro listed b W pre hs hu hcl hE hpre hex hinv
    have hgd : ∀ j, j < ops.length → listed.getD j true = listed.getD j false := by
      intro j hj
      simp [show j < listed.size by omega]
    have hall : ∀ j, j < ops.length → listed.getD j false = true := fun j hj => by rw [← hgd j hj]; exact un_zero _ hu j hj
    refine ⟨?_, hend listed b W pre hall hex hinv⟩
    cases hr : Region.ready .any ops.toArray listed with
    | nil => rfl
    | cons j r =>
      have hj : j ∈ Region.ready .any ops.toArray listed := by rw [hr]; simp
      obtain ⟨h3, o, ho, _⟩ := mem_ready.mp hj
      have hjl : j < ops.length := (List.getElem?_eq_some_iff.mp (by simpa using ho)).1
      rw [hgd j hjl, hall j hjl] at h3
      cases h3
  | succ fuel ih =>
    intro listed b W pre hs hu hcl hE hpre hex hinv
    refine ⟨fun hr => hend listed b W pre (all_listed rfl hs hback hr) hex hinv, fun i hi => ?_⟩
    obtain ⟨hun, o, ho', hdep'⟩ := mem_ready.mp hi
    have ho : ops[i]? = some o := by simpa using ho'
    have hil : i < ops.length := (List.getElem?_eq_some_iff.mp ho).1
    have hun' : un (listed.setIfInBounds i true) ops.length = fuel := by
      have := un_set hun ops.length hil
      omega
    have hgd : listed.getD i true = listed.getD i false := by simp [show i < listed.size by omega]
    have hnl : listed.getD i false = false := by rw [← hgd]; exact hun
    have hcl' : Closed ops (fun j => (listed.setIfInBounds i true).getD j false = true) := by
      intro k q hk hq e he hb
      by_cases hik : i = k
      · subst hik
        rw [ho] at hq; cases hq
        have h1 : listed.getD e.on false = true := hdep' e (by simpa using he) hb
        have : i ≠ e.on := fun h => by rw [← h, hnl] at h1; cases h1
        show (listed.setIfInBounds i true).getD e.on false = true
        rw [getD_set_ne false this]; exact h1
      · have hk' : (listed.setIfInBounds i true).getD k false = true := hk
        rw [getD_set_ne false hik] at hk'
        have h1 : listed.getD e.on false = true := hcl k q hk' hq e he hb
        have : i ≠ e.on := fun h => by rw [← h, hnl] at h1; cases h1
        show (listed.setIfInBounds i true).getD e.on false = true
        rw [getD_set_ne false this]; exact h1
    -- one step by the order p
    have stepOf : ∀ p, p < N → (Pi p).take pre.length = pre → (i ∈ E → (Pi p)[pre.length]? = some i) → ∃ (o2 : Oper) (x : Ent) (W' : World) (l' : Array Bool), (∀ f : Operand → Value, execOp f o2 = execOp f o) ∧ Region.wanted o (yielded ops.toArray b.tmps) = x.g ∧ (x.g = true → Exec3 P call o2 b W x.v W') ∧ (x.g = false → x.v = undef ∧ W' = W) ∧
        Lst ops.length (σ p) (listed.setIfInBounds i true) l' ∧ Closed (all p) (fun k => l'.getD k false = true) ∧ SlotsAt (all p) (L p) a0 (fun k => l'.getD k false = true) (b.put o.dst x.v) ∧ WorldOf P (all p) (L p) w0 (fun k => l'.getD k false = true) W' := by
      intro p hp hpp hn
      obtain ⟨l', hl, p1, p2, p3⟩ := hinv p hp hpp
      obtain ⟨o2, x, W', k1, k2, k3, k4, k5, k6, k7, k8, k9⟩ := order_step (hF p hp) (hreg p hp) hnt (hL p hp) (hchk p hp) l' b W (by rw [hl.2.1, (T p hp).len]) p1 p2 p3 (σ p i)
        (hrdy p hp listed l' hl i (fun hE' => ⟨pre.length, hn hE', fun x hx => ⟨hlt p hp x (List.mem_of_mem_take hx), hpre x (by rw [hpp] at hx; exact hx)⟩⟩) hi)
      obtain ⟨d1, d2, d3⟩ := (T p hp).exec ho k1
      rw [(T p hp).wanted ho k1] at k3
      rw [d1] at k8
      exact ⟨o2, x, W', _, d3, k3, k4, k5, hl.step (T p hp).lt (T p hp).inj hil, k7, k8, k9⟩
    have fin : ∀ (g : Bool) (v : Value) (W' : World) (o2 : Oper), (∀ f : Operand → Value, execOp f o2 = execOp f o) → Region.wanted o (yielded ops.toArray b.tmps) = g → (g = true → Exec3 P call o2 b W v W') → (g = false → v = undef ∧ W' = W) →
        wpAny P .any ops.toArray Q fuel (listed.setIfInBounds i true) (b.put o.dst v) W' → wpOp P ops.toArray Q i (wpAny P .any ops.toArray Q fuel (listed.setIfInBounds i true)) b W := by
      intro g v W' o2 d3 k3 k4 k5 hnext
      unfold wpOp
      simp only [ho', k3]
      cases hg : g with
      | true =>
        simp only [if_true]
        refine .inl (exec_wp hc (v := v) (w' := W') ?_ _ hnext)
        have e := k4 hg
        unfold Exec3 at e ⊢
        rw [d3] at e
        exact e
      | false =>
        simp only [Bool.false_eq_true, if_false]
        obtain ⟨g1, g2⟩ := k5 hg
        rw [g1, g2] at hnext
        exact hnext
    -- the effects behind this step
    obtain ⟨pre', hp', hE', hpr', hex', hsub⟩ : ∃ pre' : List Nat, (∀ x ∈ pre', x ∈ pre ∨ x = i) ∧ (∀ x ∈ E, (listed.setIfInBounds i true).getD x false = true ↔ x ∈ pre') ∧ (∀ x ∈ pre', (listed.setIfInBounds i true).getD x false = true) ∧ (∃ p, p < N ∧ (Pi p).take pre'.length = pre') ∧
        ∀ p, p < N → (Pi p).take pre'.length = pre' → (Pi p).take pre.length = pre ∧ (i ∈ E → (Pi p)[pre.length]? = some i) := by
      by_cases hiE : i ∈ E
      · obtain ⟨p, hp, hpp⟩ := hex
        have hni : i ∉ pre := fun h => by have := hpre i h; rw [hnl] at this; cases this
        have hanc := anc_in (ops := ops) hback (S := fun j => listed.getD j false = true) hcl i hil (fun q hq e he hb => by rw [ho] at hq; cases hq; exact hdep' e (by simpa using he) hb)
        obtain ⟨p', hp', hpp'⟩ := hcover p hp pre.length i hiE (by rw [hpp]; exact hni) (fun x hx hb => by rw [hpp]; exact (hE x hx).mp (hanc x hb).1)
        rw [hpp] at hpp'
        have hlen : ((pre ++ [i]) : List Nat).length = pre.length + 1 := by simp
        refine ⟨pre ++ [i], fun x hx => by simpa using hx, fun x hx => ?_, fun x hx => ?_, ⟨p', hp', by rw [hlen]; exact hpp'⟩, fun q hq hqq => ?_⟩
        · by_cases hxi : i = x
          · subst hxi
            rw [getD_set_self (by omega)]
            simp
          · rw [getD_set_ne false hxi, hE x hx]
            simp [show ¬ x = i from fun h => hxi h.symm]
        · by_cases hxi : i = x
          · subst hxi; exact getD_set_self (by omega)
          · rw [getD_set_ne false hxi]
            exact hpre x (by simpa [show ¬ x = i from fun h => hxi h.symm] using hx)
        · rw [hlen] at hqq
          refine ⟨?_, fun _ => ?_⟩
          · have := congrArg (List.take pre.length) hqq
            rw [List.take_take, Nat.min_eq_left (by omega)] at this
            simpa using this
          · have := congrArg (fun l => l[pre.length]?) hqq
            simpa [List.getElem?_take] using this
      · refine ⟨pre, fun x hx => .inl hx, fun x hx => ?_, fun x hx => ?_, hex, fun p hp hpp => ⟨hpp, fun h => absurd h hiE⟩⟩
        · have hne : i ≠ x := fun h => hiE (by rw [h]; exact hx)
          rw [getD_set_ne false hne]
          exact hE x hx
        · have h1 := hpre x hx
          have : i ≠ x := fun h => by rw [← h, hnl] at h1; cases h1
          rw [getD_set_ne false this]; exact h1
    obtain ⟨p, hp, hpp⟩ := hex'
    obtain ⟨n1, n2⟩ := hsub p hp hpp
    obtain ⟨o2, x, W', l', s1, s3, s4, s5, s6, s7, s8, s9⟩ := stepOf p hp n1 n2
    refine fin x.g x.v W' o2 s1 s3 s4 s5 (ih _ _ _ pre' (by simpa using hs) hun' hcl' hE' hpr' ⟨p, hp, hpp⟩ fun q hq hqq => ?_)
    obtain ⟨m1, m2⟩ := hsub q hq hqq
    obtain ⟨o3, y, W2, l2, t1, t3, t4, t5, t6, t7, t8, t9⟩ := stepOf q hq m1 m2
    have hg : x.g = y.g := s3.symm.trans t3
    have hvw : x.v = y.v ∧ W' = W2 := by
      cases h : x.g with
      | true => exact Exec3.world (fun f => (t1 f).trans (s1 f).symm) (s4 h) (t4 (hg ▸ h))
      | false => exact ⟨(s5 h).1.trans (t5 (hg ▸ h)).1.symm, (s5 h).2.trans (t5 (hg ▸ h)).2.symm⟩
    rw [← hvw.1] at t8
    rw [← hvw.2] at t9
    exact ⟨l2, t6, t7, t8, t9⟩
end
end Go.Sh

namespace Go.Sh
open Go
set_option linter.unusedVariables false
set_option linter.unusedSimpArgs false
inductive WAnn where
  | r
  | d (K : List Nat) (x : Ann)
  | s (a b : WAnn)
  | c (a b : WAnn)
  | b (K : List Nat) (a : WAnn)
  | l (K : List Nat) (a : WAnn)
  | t (a : Nat) (cs : List Nat) (K : List Nat)
  | f (E : List Nat) (ps : List (List Nat)) (K : List Nat)
  | g (p : List Nat) (k0 i m : Nat)
  | q (i : Nat)
  | e (x : Ann)
structure Way where
  id : Nat
  keep : List Nat
  go : List Value → World → Prop
abbrev Ways := List Way
def Ways.ctx (X : Ways) : Ctx := X.map fun y => (y.id, y.keep)
def Ways.out : Ways → Nat → List Value → World → Prop
  | [], _, _, _ => False
  | y :: r, id, vs, w => if y.id = id then y.go vs w else Ways.out r id vs w
theorem Ways.ctx_cons (y : Way) (X : Ways) : Ways.ctx (y :: X) = (y.id, y.keep) :: Ways.ctx X := rfl
def itN (F : (List Value → World → Prop) → List Value → World → Prop) : Nat → List Value → World → Prop
  | 0, _, _ => False
  | n + 1, vs, w => F (itN F n) vs w
def after (Rt : List Value → World → Prop) (X : Ways) (K : List Value → World → Prop) : Res → Prop
  | .norm vs w => K vs w
  | .exit id vs w => X.out id vs w
  | .ret vs w => Rt vs w
def hold {α : Type} (x : Option α) (f : α → Prop) : Prop := match x with | some a => f a | none => False
theorem hold_iff {α : Type} {x : Option α} {f : α → Prop} : hold x f ↔ ∃ a, x = some a ∧ f a := by
  cases x <;> simp [hold]
@[simp] theorem hold_some {α : Type} (a : α) (f : α → Prop) : hold (some a) f = f a := rfl
open Classical in
noncomputable def okIf (w : World) (c : Prop) : Option Res := if c then some (.norm [] w) else none
theorem okIf_some {w : World} {c : Prop} {r : Res} : okIf w c = some r ↔ c ∧ r = .norm [] w := by
  unfold okIf
  split
  · rename_i h; simp [h]; exact eq_comm
  · rename_i h; simp [h]
/-! ### a region with two effects in no order -/
def nthN (l : List Nat) (i : Nat) : Nat := l.getD i 0
def permOk (n : Nat) (s p : List Nat) : Bool := (List.range n).all fun i => Nat.blt (nthN s i) n && Nat.blt (nthN p i) n && Nat.beq (nthN p (nthN s i)) i && Nat.beq (nthN s (nthN p i)) i
/-- an operation at another place, with more edges -/
def turnOp (s : List Nat) (o : Oper) (ex : List Edge) : Oper := { o with after := (o.after.toList.map (fun e => (⟨nthN s e.on, e.ground⟩ : Edge)) ++ ex).toArray, guard := o.guard.map fun g => (nthN s g.1, g.2) }
def noOper : Oper := ⟨none, .move (.const undef), 0, "", #[], none⟩
/-- what an operation hangs on -/
def ancL (ops : List Oper) (a : Nat) : List Nat :=
  (List.range a).reverse.foldl (fun S i => if (a :: S).any (fun k => (ops.getD k noOper).after.toList.any fun e => Region.binds .any e && Nat.beq e.on i) = true then i :: S else S) []
/-- the places, the operation at a (and what it hangs on) behind the j-th of a chain (0: ahead of all) -/
def placeAt (ops : List Oper) (a : Nat) (cs : List Nat) (j : Nat) : List Nat :=
  let l := (List.range ops.length).filter fun i => !Nat.beq i a
  match j with
  | 0 => ancL ops a ++ a :: l.filter fun i => !(ancL ops a).any (Nat.beq i)
  | j + 1 =>
    let A := (ancL ops a).filter fun i => Nat.blt (nthN cs j) i
    (l.filter fun i => Nat.ble i (nthN cs j)) ++ A ++ a :: l.filter fun i => Nat.blt (nthN cs j) i && !A.any (Nat.beq i)
def backOf (n : Nat) (p : List Nat) : List Nat := (List.range n).map fun i => p.idxOf i
def extra (a : Nat) (cs : List Nat) (j : Nat) (s : List Nat) (i : Nat) : List Edge :=
  (if Nat.beq i a = true then (match j with | 0 => [] | j + 1 => [⟨nthN s (nthN cs j), .data⟩]) else []) ++ (if (Nat.blt j cs.length && Nat.beq i (nthN cs j)) = true then [⟨nthN s a, .data⟩] else [])
/-- the operations at other places -/
def turned (ops : List Oper) (s p : List Nat) (ex : Nat → List Edge) : List Oper :=
  (List.range ops.length).map fun k => turnOp s (ops.getD (nthN p k) noOper) (ex (nthN p k))
def order (ops : List Oper) (a : Nat) (cs : List Nat) (j : Nat) : List Oper :=
  let p := placeAt ops a cs j
  let s := backOf ops.length p
  turned ops s p (extra a cs j s)
def manyOk (P : Program) (nt : Nat) (ops : List Oper) (a : Nat) (cs : List Nat) : Bool :=
  regionOk nt ops && Nat.blt a ops.length && cs.all (fun c => Nat.blt c ops.length && !Nat.beq c a) &&
  (ops.zipIdx.all fun (o, i) => o.after.toList.all (fun e => !Region.binds .any e || Nat.blt e.on i)) &&
  ((List.range (cs.length + 1)).all fun j => permOk ops.length (backOf ops.length (placeAt ops a cs j)) (placeAt ops a cs j) && regionOk nt (order ops a cs j) && flatOk P (order ops a cs j))
theorem permOk_spec {n : Nat} {s p : List Nat} (h : permOk n s p = true) {i : Nat} (hi : i < n) : nthN s i < n ∧ nthN p i < n ∧ nthN p (nthN s i) = i ∧ nthN s (nthN p i) = i := by
  unfold permOk at h
  have := List.all_eq_true.mp h i (List.mem_range.mpr hi)
  simp only [Bool.and_eq_true, Nat.blt_eq, Nat.beq_eq] at this
  exact ⟨this.1.1.1, this.1.1.2, this.1.2, this.2⟩
theorem turned_get {ops : List Oper} {s p : List Nat} {ex : Nat → List Edge} {k : Nat} (hk : k < ops.length) : (turned ops s p ex)[k]? = some (turnOp s (ops.getD (nthN p k) noOper) (ex (nthN p k))) := by
  unfold turned
  rw [List.getElem?_map, List.getElem?_range hk]
  rfl
theorem turned_at {ops : List Oper} {s p : List Nat} {ex : Nat → List Edge} {i : Nat} {o : Oper} (h : permOk ops.length s p = true) (ho : ops[i]? = some o) : (turned ops s p ex)[nthN s i]? = some (turnOp s o (ex i)) := by
  have hi : i < ops.length := (List.getElem?_eq_some_iff.mp ho).1
  obtain ⟨h1, _, h3, _⟩ := permOk_spec h hi
  rw [turned_get h1, h3]
  simp [List.getD_eq_getElem?_getD, ho]
theorem turn_of {nt : Nat} {ops : List Oper} {s p : List Nat} {ex : Nat → List Edge} (h : permOk ops.length s p = true) (hreg : regionOk nt ops = true) : Turn ops (turned ops s p ex) (nthN s) where
  len := by simp [turned]
  lt := fun i hi => (permOk_spec h hi).1
  inj := fun i j hi hj e => by rw [← (permOk_spec h hi).2.2.1, e, (permOk_spec h hj).2.2.1]
  onto := fun k hk => ⟨nthN p k, (permOk_spec h hk).2.1, (permOk_spec h hk).2.2.2⟩
  same := fun i o ho => ⟨_, turned_at h ho, rfl⟩
  guard := fun i o g ho hg => by
    have := ((regionOk_spec hreg ho).2 g.1 g.2 hg).1
    have hi : i < ops.length := (List.getElem?_eq_some_iff.mp ho).1
    omega
theorem turn_ready {ops : List Oper} {a j : Nat} {cs s p : List Nat} (h : permOk ops.length s p = true) (hal : a < ops.length) (hcs : ∀ c ∈ cs, c < ops.length)
    (hback : ∀ (i : Nat) (o : Oper), ops[i]? = some o → ∀ e ∈ o.after.toList, Region.binds .any e = true → e.on < i) (hj : j ≤ cs.length)
    {listed listed' : Array Bool} (hl : Lst ops.length (nthN s) listed listed') {i : Nat} (hn : Nxt cs a j i listed) (hi : i ∈ Region.ready .any ops.toArray listed) : nthN s i ∈ Region.ready .any (turned ops s p (extra a cs j s)).toArray listed' := by
  obtain ⟨hun, o, ho', hdep⟩ := mem_ready.mp hi
  have ho : ops[i]? = some o := by simpa using ho'
  have hil : i < ops.length := (List.getElem?_eq_some_iff.mp ho).1
  obtain ⟨l1, l2, l3⟩ := hl
  have hlt := (permOk_spec h hil).1
  have gd : ∀ (l : Array Bool) j, l.size = ops.length → j < ops.length → l.getD j true = l.getD j false := by
    intro l j hs hj
    simp [show j < l.size by omega]
  refine mem_ready.mpr ⟨by rw [gd _ _ l2 hlt, l3 i hil, ← gd _ _ l1 hil]; exact hun, _, by simpa using turned_at h ho, fun e he hb => ?_⟩
  have he : e ∈ o.after.toList.map (fun e => (⟨nthN s e.on, e.ground⟩ : Edge)) ++ extra a cs j s i := by simpa only [turnOp, List.mem_toArray, Array.mem_toList_iff] using he
  rw [List.mem_append, List.mem_map] at he
  rcases he with ⟨e0, h1, rfl⟩ | he
  · have hb0 : Region.binds .any e0 = true := hb
    have := hback i o ho e0 h1 hb0
    show listed'.getD (nthN s e0.on) false = true
    rw [l3 e0.on (by omega)]
    exact hdep e0 (by simpa using h1) hb0
  · unfold extra at he
    rw [List.mem_append] at he
    rcases he with he | he
    · split at he
      · rename_i hia
        rw [Nat.beq_eq] at hia
        cases j with
        | zero => simp at he
        | succ j =>
          simp only [List.mem_singleton] at he
          subst he
          have hc : cs[j]? = some (cs[j]'(by omega)) := List.getElem?_eq_getElem (by omega)
          have hcn : nthN cs j = cs[j]'(by omega) := by simp [nthN, List.getD_eq_getElem?_getD, hc]
          show listed'.getD (nthN s (nthN cs j)) false = true
          rw [hcn, l3 _ (hcs _ (List.getElem_mem _))]
          exact hn.1 _ (by omega) (by simp) hia
      · simp at he
    · split at he
      · rename_i hjc
        simp only [Bool.and_eq_true, Nat.blt_eq, Nat.beq_eq] at hjc
        simp only [List.mem_singleton] at he
        subst he
        have hc : cs[j]? = some (cs[j]'hjc.1) := List.getElem?_eq_getElem hjc.1
        have hcn : nthN cs j = cs[j]'hjc.1 := by simp [nthN, List.getD_eq_getElem?_getD, hc]
        show listed'.getD (nthN s a) false = true
        rw [l3 _ hal]
        exact hn.2 _ hc (hjc.2.trans hcn)
      · simp at he
/-- the order of the effects in an order of all operations -/
def effOrd (E p : List Nat) : List Nat := p.filter fun i => E.any (Nat.beq i)
def extraF (q s : List Nat) (E : List Nat) (i : Nat) : List Edge :=
  if E.any (Nat.beq i) = true then (match q.idxOf i with | 0 => [] | j + 1 => [⟨nthN s (nthN q j), .data⟩]) else []
def orderF (ops : List Oper) (E p : List Nat) : List Oper :=
  let s := backOf ops.length p
  turned ops s p (extraF (effOrd E p) s E)
def famOk (P : Program) (nt : Nat) (ops : List Oper) (E : List Nat) (ps : List (List Nat)) : Bool :=
  regionOk nt ops && !ps.isEmpty &&
  (ops.zipIdx.all fun (o, i) => o.after.toList.all (fun e => !Region.binds .any e || Nat.blt e.on i)) &&
  (ps.all fun p => permOk ops.length (backOf ops.length p) p && regionOk nt (orderF ops E p) && flatOk P (orderF ops E p) && ((effOrd E p).all fun x => Nat.blt x ops.length) && E.all fun x => (effOrd E p).any (Nat.beq x)) &&
  let A := ancs ops
  let qs := ps.map (effOrd E)
  qs.all fun q => (List.range (q.length + 1)).all fun k => let t := q.take k
    E.all fun e => t.any (Nat.beq e) || !(E.all fun x => !(A.getD e 0).testBit x || t.any (Nat.beq x)) || qs.any fun q' => decide (q'.take (k + 1) = t ++ [e])
theorem anyb_mem {l : List Nat} {i : Nat} : l.any (Nat.beq i) = true ↔ i ∈ l := by
  simp only [List.any_eq_true, Nat.beq_eq]
  exact ⟨fun ⟨x, h1, h2⟩ => h2 ▸ h1, fun h => ⟨i, h, rfl⟩⟩
theorem readyF {ops : List Oper} {E q s p : List Nat} (h : permOk ops.length s p = true)
    (hback : ∀ (i : Nat) (o : Oper), ops[i]? = some o → ∀ e ∈ o.after.toList, Region.binds .any e = true → e.on < i)
    {listed listed' : Array Bool} (hl : Lst ops.length (nthN s) listed listed') {i : Nat} (hn : i ∈ E → ∃ k, q[k]? = some i ∧ ∀ x ∈ q.take k, x < ops.length ∧ listed.getD x false = true) (hi : i ∈ Region.ready .any ops.toArray listed) : nthN s i ∈ Region.ready .any (turned ops s p (extraF q s E)).toArray listed' := by
  obtain ⟨hun, o, ho', hdep⟩ := mem_ready.mp hi
  have ho : ops[i]? = some o := by simpa using ho'
  have hil : i < ops.length := (List.getElem?_eq_some_iff.mp ho).1
  obtain ⟨l1, l2, l3⟩ := hl
  have hlt := (permOk_spec h hil).1
  have gd : ∀ (l : Array Bool) j, l.size = ops.length → j < ops.length → l.getD j true = l.getD j false := by
    intro l j hs hj
    simp [show j < l.size by omega]
  refine mem_ready.mpr ⟨by rw [gd _ _ l2 hlt, l3 i hil, ← gd _ _ l1 hil]; exact hun, _, by simpa using turned_at h ho, fun e he hb => ?_⟩
  have he : e ∈ o.after.toList.map (fun e => (⟨nthN s e.on, e.ground⟩ : Edge)) ++ extraF q s E i := by simpa only [turnOp, List.mem_toArray, Array.mem_toList_iff] using he
  rw [List.mem_append, List.mem_map] at he
  rcases he with ⟨e0, h1, rfl⟩ | he
  · have hb0 : Region.binds .any e0 = true := hb
    have := hback i o ho e0 h1 hb0
    show listed'.getD (nthN s e0.on) false = true
    rw [l3 e0.on (by omega)]
    exact hdep e0 (by simpa using h1) hb0
  · unfold extraF at he
    split at he
    · rename_i hiE
      obtain ⟨k, hk, hall⟩ := hn (anyb_mem.mp hiE)
      cases hx : q.idxOf i with
      | zero => rw [hx] at he; simp at he
      | succ j =>
        rw [hx] at he
        simp only [List.mem_singleton] at he
        subst he
        have hkl : k < q.length := (List.getElem?_eq_some_iff.mp hk).1
        have hik : q[k] = i := (List.getElem?_eq_some_iff.mp hk).2
        have hle : q.idxOf i ≤ k := by
          apply Nat.le_of_not_lt
          intro hlt2
          have := List.not_of_lt_findIdx (p := fun x => x == i) (xs := q) (i := k) hlt2
          simp [hik] at this
        have hjk : j < k := by omega
        have hjn : nthN q j = q[j]'(by omega) := by simp [nthN, List.getD_eq_getElem?_getD, List.getElem?_eq_getElem (by omega : j < q.length)]
        obtain ⟨a1, a2⟩ := hall (q[j]'(by omega)) (List.mem_take_iff_getElem.mpr ⟨j, by omega, rfl⟩)
        show listed'.getD (nthN s (nthN q j)) false = true
        rw [hjn, l3 _ a1]
        exact a2
    · simp at he
def wOrders (F : List Oper → Prop) : List (List Oper) → Prop
  | [] => True
  | x :: r => F x ∧ wOrders F r
theorem wOrders_mem {F : List Oper → Prop} : ∀ {l : List (List Oper)}, wOrders F l → ∀ x ∈ l, F x
  | [], _, _, h => by cases h
  | y :: r, h, x, hx => by
    rcases List.mem_cons.mp hx with rfl | hx
    · exact h.1
    · exact wOrders_mem h.2 x hx
/-! ### a call of which a relation is known -/
def relF (P : Program) (f : FuncId) (args : Array Value) (w : World) (K : Value → World → Prop) : Prop :=
  (callFunc f args).run P w = .ok (.enter f args) w ∧ Calls P f args w fun x w' => ∃ v, x = .returned v ∧ K v w'
def relCall (P : Program) (o : Oper) (e : Env) (w : World) (K : Value → World → Prop) : Prop :=
  match o.op, o.guard with
  | .call ⟨.value (.func f), args, _⟩, none => hold (evs e args.toList) fun vs => relF P f vs.toArray w K
  | _, _ => False
theorem relCall_spec {P : Program} {o : Oper} {e : Env} {w : World} {K : Value → World → Prop} (h : relCall P o e w K) :
    ∃ c f vs, o.op = .call c ∧ c.callee = .value (.func f) ∧ o.guard = none ∧ evs e c.args.toList = some vs ∧ relF P f vs.toArray w K := by
  unfold relCall at h
  split at h
  · rename_i f args ts h1 h2
    obtain ⟨vs, h3, h4⟩ := hold_iff.mp h
    exact ⟨_, f, vs, h1, rfl, h2, h3, h4⟩
  · exact h.elim
theorem relF_mono {P : Program} {f : FuncId} {args : Array Value} {w : World} {K K' : Value → World → Prop} (hk : ∀ v w', K v w' → K' v w') (h : relF P f args w K) : relF P f args w K' :=
  ⟨h.1, h.2.mono fun x w' ⟨v, hx, hv⟩ => ⟨v, hx, hk _ _ hv⟩⟩
def wRel (P : Program) (call : CallF) (nt : Nat) (ops : List Oper) (i : Nat) (e : Env) (w : World) (K : Env → World → Prop) : Prop :=
  regionOk nt ops = true ∧ i < ops.length ∧
  aOps P call ops (2 * ops.length + 1) 0 (ops.take i) [] e w (fun e' w' => okIf w (relCall P (ops.getD i noOper) e' w' fun v w2 =>
    aOps P call ops (2 * ops.length + 1) (i + 1) (ops.drop (i + 1)) [] (e'.put (ops.getD i noOper).dst v) w2 (fun e w' => okIf w (K e w')) = some (.norm [] w))) = some (.norm [] w)
theorem rel_exec {P : Program} {o : Oper} {e : Env} {a : Act} {w : World} {K : Value → World → Prop} (ha : Agree e a) (h : relCall P o e w K) :
    ∃ f args, (execOp a.eval o).run P w = .ok (.enter f args) w ∧ Calls P f args w (fun x w' => ∃ v, x = .returned v ∧ K v w') ∧ quietOp P o.op = false := by
  obtain ⟨c, f, vs, h1, h2, h3, h4, h5, h6⟩ := relCall_spec h
  refine ⟨f, vs.toArray, ?_, h6, by rw [h1]; obtain ⟨cal, ca, ct⟩ := c; simp only at h2; subst h2; rfl⟩
  have h7 := ha.evalsA h4
  have hr : (resolve a.eval c o.type).run P w = .ok { target := .fn (.func f) #[], args := vs.toArray } w := by
    unfold resolve; simp only [h7, h2, Act.eval, Deferred.ofValue]; simp
  simp only [execOp, h1]
  rw [run_ok hr]
  exact h5
theorem rel_wp {P : Program} {Q : Exit → Act → World → Prop} {o : Oper} {e : Env} {a : Act} {w : World} {K : Act → World → Prop} (ha : Agree e a) (h : relCall P o e w fun v w' => K (a.put o.dst v) w') : wpStep P Q o K a w := by
  obtain ⟨f, args, h1, h2, _⟩ := rel_exec ha h
  refine .inl ?_
  unfold Oper.wp
  rw [h1]
  exact h2.mono fun x w' ⟨v, hx, hk⟩ => by subst hx; exact hk
theorem rel_both {P : Program} {Q : Exit → Act → World → Prop} {o : Oper} {e : Env} {a : Act} {w : World} {K : Act → World → Prop} (ha : Agree e a) (h : relCall P o e w fun v w' => K (a.put o.dst v) w') : bothStep P Q o K a w :=
  ⟨fun q => (by obtain ⟨_, _, _, _, h3⟩ := rel_exec ha h; rw [h3] at q; cases q), rel_wp ha h⟩
theorem relCall_mono {P : Program} {o : Oper} {e : Env} {w : World} {K K' : Value → World → Prop} (hk : ∀ v w', K v w' → K' v w') (h : relCall P o e w K) : relCall P o e w K' := by
  unfold relCall at h ⊢
  split at h
  · rename_i f args ts h1 h2
    obtain ⟨vs, h3, h4⟩ := hold_iff.mp h
    rw [h3]
    exact relF_mono hk h4
  · exact h.elim
theorem wRel_ok {P : Program} {call : CallF} (hc : CallOk P call) {nt : Nat} {ops : List Oper} {i : Nat} {e : Env} {w : World} {K : Env → World → Prop} (h : wRel P call nt ops i e w K)
    {step : Oper → (Act → World → Prop) → Act → World → Prop} (hs : Steps1 P call ops step) (hrel : ∀ o e (K : Act → World → Prop) a w, Agree e a → (relCall P o e w fun v w' => K (a.put o.dst v) w') → step o K a w)
    {Q : Act → World → Prop} {a : Act} (hnt : nt ≤ a.tmps.size) (ha : Agree e a) (hQ : ∀ e' w', K e' w' → ∀ a', a'.tmps.size = a.tmps.size → a'.defers = a.defers → Agree e' a' → Q a' w') : wpG step ops.toArray ops Q a w := by
  obtain ⟨hreg, hi, h⟩ := h
  have hst : ∀ i a, StripOk ops [] i a := fun i a j b h => by simp [inStrip] at h
  obtain ⟨e1, w1, h1, h2⟩ := aOps_ok hc hreg hs _ 0 _ [] e w _ _ h (fun m hm => by
    rw [List.length_take] at hm
    rw [Nat.zero_add, List.getElem?_take_of_lt (by omega)])
  have hr := (okIf_some.mp h1).1
  have hg : ops.getD i noOper = ops[i] := by simp [List.getD, hi]
  rw [hg] at hr
  have hsplit : ops = ops.take i ++ (ops[i] :: ops.drop (i + 1)) := by rw [List.getElem_cons_drop, List.take_append_drop]
  have hoi : ops[i]? = some ops[i] := by simp [hi]
  obtain ⟨hd, hgd⟩ := regionOk_spec hreg hoi
  have key : wpG step ops.toArray (ops.take i ++ (ops[i] :: ops.drop (i + 1))) Q a w := by
    refine wpG_append step _ hs.mono _ _ _ _ _ (h2 _ a hnt ha (hst 0 a) fun a1 hk1 ha1 => ?_)
    have hw : Region.wanted ops[i] (yielded ops.toArray a1.tmps) = true := by
      obtain ⟨c, f, vs, _, _, h3, _⟩ := relCall_spec hr
      simp [Region.wanted, h3]
    simp only [wpG, hw, if_true]
    refine hrel _ e1 _ _ _ ha1 (relCall_mono (fun v w2 h3 => ?_) hr)
    obtain ⟨e2, w3, h4, h5⟩ := aOps_ok hc hreg hs _ (i + 1) _ [] _ w2 _ _ h3 (fun m hm => by
      rw [List.getElem?_drop])
    have hput : Kept (dsts [ops[i]]) a1 (a1.put ops[i].dst v) := Kept.put _ _ _ fun n hn => by simp [dsts, hn]
    have hsz : nt ≤ a1.tmps.size := by rw [hk1.size]; exact hnt
    refine h5 _ _ (by rw [hput.size]; exact hsz) (ha1.put fun m hm => Nat.lt_of_lt_of_le (hd m hm) hsz) (hst _ _) fun a2 hk2 ha2 => ?_
    exact hQ _ _ (okIf_some.mp h4).1 a2 (by rw [hk2.size, hput.size, hk1.size]) (by rw [hk2.defers, hput.defers, hk1.defers]) ha2
  rw [← hsplit] at key
  exact key
/-- a region that draws, in the text's order -/
theorem draw_of_both {P : Program} (hm : P.follows .mixedOrders = true) {id : Nat} {ops : Array Oper} {Q : Exit → Act → World → Prop} {a : Act} {w : World} (hdraw : drawOk P ops.toList = true)
    (h3 : wpG (bothStep P Q) ops.toList.toArray ops.toList (Q .normal) a w.drew) : (Code.region id ops true).wp P Q a w := by
  unfold drawOk at hdraw
  rw [Bool.or_eq_true] at hdraw
  have hlit : (Code.region id ops true) = Code.region id ops.toList.toArray true := by rw [Array.toArray_toList]
  rw [hlit]
  rcases hdraw with hd | hd
  · rw [Bool.and_eq_true] at hd
    refine wp_region_still_lit hm hd.2 ?_
    have := wpStill_of_both [] ops.toList a (fun o ho => List.all_eq_true.mp hd.1 o ho) (by simpa using h3)
    exact this
  · refine wp_region_still_tail (tailFrom P ops.toList) hm hd ?_
    refine wpStill_of_both (ops.toList.drop (tailFrom P ops.toList)) (ops.toList.take (tailFrom P ops.toList)) a (fun o ho => ?_) (by simpa using h3)
    unfold tailFrom at ho
    have htw : ∀ (l : List Oper), l.take (l.takeWhile fun o => quietOp P o.op).length = l.takeWhile fun o => quietOp P o.op := by
      intro l
      induction l with
      | nil => rfl
      | cons q r ih =>
        by_cases hq : quietOp P q.op = true
        · simp [hq, ih]
        · simp [hq]
    rw [htw] at ho
    have : ∀ (l : List Oper), ∀ o ∈ l.takeWhile (fun o => quietOp P o.op), quietOp P o.op = true := by
      intro l
      induction l with
      | nil => intro o h; simp at h
      | cons q r ih =>
        intro o h
        by_cases hq : quietOp P q.op = true
        · simp only [List.takeWhile_cons, hq, if_true, List.mem_cons] at h
          rcases h with rfl | h
          · exact hq
          · exact ih o h
        · simp [hq] at h
    exact this _ o ho
theorem wq_ok {P : Program} {call : CallF} (hc : CallOk P call) (hm : P.follows .mixedOrders = true) {nt id : Nat} {ops : Array Oper} {draw : Bool} {i : Nat} {e : Env} {w : World} {K : Env → World → Prop}
    (h : (draw = true → drawOk P ops.toList = true) ∧ wRel P call nt ops.toList i e (if draw = true then w.drew else w) K) :
    ∀ (Q : Exit → Act → World → Prop) (b : Act), nt ≤ b.tmps.size → Agree e b →
      (∀ e' w', K e' w' → ∀ a', a'.tmps.size = b.tmps.size → a'.defers = b.defers → Agree e' a' → Q .normal a' w') → (Code.region id ops draw).wp P Q b w := by
  intro Q b hnt ha hQ
  obtain ⟨hd, h⟩ := h
  cases draw with
  | false =>
    refine wp_region ?_
    have := wpList_of_wpG _ _ _ (wRel_ok hc h (steps_wp hc ops.toList Q) (fun o e K a w ha h => rel_wp ha h) (Q := Q .normal) hnt ha hQ)
    have e1 := wpOps_eq_wpList (P := P) (Q := Q) (ops := ops) ops.toList 0 (fun j => by simp)
    rw [Array.toArray_toList] at this
    rw [← e1] at this
    simpa [List.range_eq_range'] using this
  | true => exact draw_of_both hm (hd rfl) (wRel_ok hc h (steps_both hc ops.toList Q) (fun o e K a w ha h => rel_both ha h) (Q := Q .normal) hnt ha hQ)
/-! ### a call by relation under a guard -/
def relCallG (P : Program) (o : Oper) (e : Env) (w : World) (K : Value → World → Prop) : Prop :=
  match o.op with
  | .call ⟨.value (.func f), args, _⟩ => hold (evs e args.toList) fun vs => relF P f vs.toArray w K
  | _ => False
theorem relCallG_spec {P : Program} {o : Oper} {e : Env} {w : World} {K : Value → World → Prop} (h : relCallG P o e w K) :
    ∃ c f vs, o.op = .call c ∧ c.callee = .value (.func f) ∧ evs e c.args.toList = some vs ∧ relF P f vs.toArray w K := by
  unfold relCallG at h
  split at h
  · rename_i f args ts h1
    obtain ⟨vs, h3, h4⟩ := hold_iff.mp h
    exact ⟨_, f, vs, h1, rfl, h3, h4⟩
  · exact h.elim
theorem relG_exec {P : Program} {o : Oper} {e : Env} {a : Act} {w : World} {K : Value → World → Prop} (ha : Agree e a) (h : relCallG P o e w K) :
    ∃ f args, (execOp a.eval o).run P w = .ok (.enter f args) w ∧ Calls P f args w (fun x w' => ∃ v, x = .returned v ∧ K v w') ∧ quietOp P o.op = false := by
  obtain ⟨c, f, vs, h1, h2, h4, h5, h6⟩ := relCallG_spec h
  refine ⟨f, vs.toArray, ?_, h6, by rw [h1]; obtain ⟨cal, ca, ct⟩ := c; simp only at h2; subst h2; rfl⟩
  have h7 := ha.evalsA h4
  have hr : (resolve a.eval c o.type).run P w = .ok { target := .fn (.func f) #[], args := vs.toArray } w := by
    unfold resolve; simp only [h7, h2, Act.eval, Deferred.ofValue]; simp
  simp only [execOp, h1]
  rw [run_ok hr]
  exact h5
theorem relCallG_mono {P : Program} {o : Oper} {e : Env} {w : World} {K K' : Value → World → Prop} (hk : ∀ v w', K v w' → K' v w') (h : relCallG P o e w K) : relCallG P o e w K' := by
  unfold relCallG at h ⊢
  split at h
  · rename_i f args ts h1
    obtain ⟨vs, h3, h4⟩ := hold_iff.mp h
    rw [h3]
    exact relF_mono hk h4
  · exact h.elim
/-- all of a group stand under the guard, or under one of the group's own -/
def grpGuards (j : Nat) (want : Bool) (k0 : Nat) (l : List Oper) : Bool := l.all fun o => match o.guard with
  | some (g, b) => (Nat.beq g j && (b == want)) || Nat.ble k0 g
  | none => false
def wRelG (P : Program) (call : CallF) (nt : Nat) (ops : List Oper) (k0 i m : Nat) (e : Env) (w : World) (K : Env → World → Prop) : Prop :=
  regionOk nt ops = true ∧ k0 ≤ i ∧ i < k0 + m ∧ k0 + m < ops.length ∧
  match (ops.getD i noOper).guard, (ops.getD (k0 + m) noOper).op, (ops.getD (k0 + m) noOper).dst, (ops.getD (k0 + m) noOper).guard with
  | some (j, want), .pick (.tmp c) x y, some pd, none =>
    dstOf ops j = some c ∧ j < k0 ∧ grpGuards j want k0 ((ops.drop k0).take m) = true ∧
    aOps P call ops (2 * ops.length + 1) 0 (ops.take k0) [] e w (fun e1 w1 => okIf w (hold (e1 c) fun bv => hold (asB bv) fun b =>
      if b = want then
        aOps P call ops (2 * ops.length + 1) k0 ((ops.drop k0).take (i - k0)) [(j, want)] e1 w1 (fun e2 w2 => okIf w (relCallG P (ops.getD i noOper) e2 w2 fun v w3 =>
          aOps P call ops (2 * ops.length + 1) (i + 1) (ops.drop (i + 1)) [(j, want)] (e2.put (ops.getD i noOper).dst v) w3 (fun e w' => okIf w (K e w')) = some (.norm [] w))) = some (.norm [] w)
      else hold (ev (e1.drop (loDst ((ops.drop k0).take m) pd) (hiDst ((ops.drop k0).take m) pd)) (if want then y else x)) fun u =>
        aOps P call ops (2 * ops.length + 1) (k0 + m + 1) (ops.drop (k0 + m + 1)) [] ((e1.drop (loDst ((ops.drop k0).take m) pd) (hiDst ((ops.drop k0).take m) pd)).set pd u) w1 (fun e w' => okIf w (K e w')) = some (.norm [] w))) = some (.norm [] w)
  | _, _, _, _ => False
theorem wRelG_ok {P : Program} {call : CallF} (hc : CallOk P call) {nt : Nat} {ops : List Oper} {k0 i m : Nat} {e : Env} {w : World} {K : Env → World → Prop} (h : wRelG P call nt ops k0 i m e w K)
    {step : Oper → (Act → World → Prop) → Act → World → Prop} (hs : Steps1 P call ops step) (hrel : ∀ o e (K : Act → World → Prop) a w, Agree e a → (relCallG P o e w fun v w' => K (a.put o.dst v) w') → step o K a w)
    {Q : Act → World → Prop} {a : Act} (hnt : nt ≤ a.tmps.size) (ha : Agree e a) (hQ : ∀ e' w', K e' w' → ∀ a', a'.tmps.size = a.tmps.size → a'.defers = a.defers → Agree e' a' → Q a' w') : wpG step ops.toArray ops Q a w := by
  obtain ⟨hreg, hk0, hi, hm, h⟩ := h
  have gO : ∀ q, q < ops.length → ops.getD q noOper = ops[q]! := fun q hq => by simp [List.getD, hq]
  have hoi : ops[i]? = some (ops.getD i noOper) := by simp [List.getD, show i < ops.length by omega]
  have hpp : ops[k0 + m]? = some (ops.getD (k0 + m) noOper) := by simp [List.getD, show k0 + m < ops.length by omega]
  generalize ops.getD i noOper = o at *
  generalize ops.getD (k0 + m) noOper = p at *
  split at h
  case h_2 => exact h.elim
  rename_i j want c x y pd hg hpop hpd hpg
  obtain ⟨hj, hjk, hgg, h⟩ := h
  obtain ⟨hd, hgd⟩ := regionOk_spec hreg hoi
  obtain ⟨_, d0, hd0⟩ := hgd j want hg
  obtain rfl : d0 = c := Option.some.inj (hd0.1.symm.trans hj)
  obtain ⟨hpd2, _⟩ := regionOk_spec hreg hpp
  have hst : ∀ i a, StripOk ops [] i a := fun i a j b h => by simp [inStrip] at h
  obtain ⟨e1, w1, h1, h2⟩ := aOps_ok hc hreg hs _ 0 _ [] e w _ _ h (fun q hq => by
    rw [List.length_take] at hq
    rw [Nat.zero_add, List.getElem?_take_of_lt (by omega)])
  have hr0 := (okIf_some.mp h1).1
  obtain ⟨bv, hbv, hr1⟩ := hold_iff.mp hr0
  obtain ⟨b, hb, hr⟩ := hold_iff.mp hr1
  clear hr1 hr0
  have hbv' : bv = .bool b := by cases bv <;> simp [asB] at hb; subst hb; rfl
  subst hbv'
  have hA : ops = ops.take k0 ++ ops.drop k0 := (List.take_append_drop _ _).symm
  have key : wpG step ops.toArray (ops.take k0 ++ ops.drop k0) Q a w := by
    refine wpG_append step _ hs.mono _ _ _ _ _ (h2 _ a hnt ha (hst 0 a) fun a1 hk1 ha1 => ?_)
    have hsz1 : nt ≤ a1.tmps.size := by rw [hk1.size]; exact hnt
    have hbit : a1.tmps[d0]? = some (.bool b) := ha1 d0 _ hbv
    by_cases hbw : b = want
    · rw [if_pos hbw] at hr
      subst hbw
      have hso : ∀ q a', k0 ≤ q → a'.tmps[d0]? = some (.bool b) → StripOk ops [(j, b)] q a' := by
        intro q a' hq hb' j' b' hin
        rcases inStrip_cons hin with ⟨rfl, rfl⟩ | hin
        · exact ⟨by omega, d0, hd0, hb'⟩
        · simp [inStrip] at hin
      obtain ⟨e2, w2, h3, h4⟩ := aOps_ok hc hreg hs _ k0 _ [(j, b)] e1 w1 _ _ hr (fun q hq => by
        rw [List.length_take, List.length_drop] at hq
        rw [List.getElem?_take_of_lt (by omega), List.getElem?_drop])
      have hr2 := (okIf_some.mp h3).1
      have hsplit : ops.drop k0 = (ops.drop k0).take (i - k0) ++ (o :: ops.drop (i + 1)) := by
        have e1 : (ops.drop k0).drop (i - k0) = o :: ops.drop (i + 1) := by
          rw [List.drop_drop, show k0 + (i - k0) = i by omega]
          exact List.drop_eq_getElem?_toList_append.trans (by rw [hoi]; rfl)
        rw [← e1, List.take_append_drop]
      rw [hsplit]
      refine wpG_append step _ hs.mono _ _ _ _ _ (h4 _ a1 hsz1 ha1 (hso k0 a1 (Nat.le_refl _) hbit) fun a2 hk2 ha2 => ?_)
      have hbit2 : a2.tmps[d0]? = some (.bool b) := by
        obtain ⟨_, d, hd1, hd2⟩ := ((hso k0 a1 (Nat.le_refl _) hbit).keep (i' := i) hk0 (l := (ops.drop k0).take (i - k0)) (fun q z hz => ⟨k0 + q, by omega, by
          have hql : q < i - k0 := by
            have := (List.getElem?_eq_some_iff.mp hz).1
            rw [List.length_take] at this
            omega
          rw [List.getElem?_take_of_lt hql, List.getElem?_drop] at hz
          exact hz⟩) hk2) j b (by simp [inStrip])
        have : d = d0 := Option.some.inj (hd1.1.symm.trans hd0.1)
        rw [← this]; exact hd2
      have hw : Region.wanted o (yielded ops.toArray a2.tmps) = true := by
        unfold Region.wanted
        simp only [hg, yielded_of hd0, hbit2]
        simp
      simp only [wpG, hw, if_true]
      have hsz2 : nt ≤ a2.tmps.size := by rw [hk2.size]; exact hsz1
      refine hrel _ e2 _ _ _ ha2 (relCallG_mono (fun v w3 h5 => ?_) hr2)
      obtain ⟨e3, w4, h6, h7⟩ := aOps_ok hc hreg hs _ (i + 1) _ [(j, b)] _ w3 _ _ h5 (fun q hq => by
        rw [List.getElem?_drop])
      have hput : Kept (dsts [o]) a2 (a2.put o.dst v) := Kept.put _ _ _ fun n hn => by simp [dsts, hn]
      have hbit3 : (a2.put o.dst v).tmps[d0]? = some (.bool b) := by
        rw [hput.same d0 ?_, hbit2]
        intro hin
        obtain ⟨z, hz, hzd⟩ := List.mem_filterMap.mp hin
        simp only [List.mem_singleton] at hz
        subst hz
        exact hd0.2 i _ hoi (by omega) hzd
      refine h7 _ _ (by rw [hput.size]; exact hsz2) (ha2.put fun q hq => Nat.lt_of_lt_of_le (hd q hq) hsz2) (hso (i + 1) _ (by omega) hbit3) fun a3 hk3 ha3 => ?_
      exact hQ _ _ (okIf_some.mp h6).1 a3 (by rw [hk3.size, hput.size, hk2.size, hk1.size]) (by rw [hk3.defers, hput.defers, hk2.defers, hk1.defers]) ha3
    · rw [if_neg hbw] at hr
      have hb2 : b = !want := by
        clear hr h2 h1
        cases b <;> cases want <;> first | rfl | exact absurd rfl hbw
      obtain ⟨u, hu, hr2⟩ := hold_iff.mp hr
      obtain ⟨grp, hgrp⟩ : ∃ g, g = (ops.drop k0).take m := ⟨_, rfl⟩
      rw [← hgrp] at hu hr2 hgg
      have hgl : grp.length = m := by rw [hgrp, List.length_take, List.length_drop]; omega
      have hsplit : ops.drop k0 = grp ++ (p :: ops.drop (k0 + m + 1)) := by
        have e1 : (ops.drop k0).drop m = p :: ops.drop (k0 + m + 1) := by
          rw [List.drop_drop]
          exact List.drop_eq_getElem?_toList_append.trans (by rw [hpp]; rfl)
        rw [← e1, hgrp, List.take_append_drop]
      have hgidx : ∀ q, q < grp.length → ops[k0 + q]? = grp[q]? := fun q hq => by
        rw [hgrp, List.getElem?_take_of_lt (by omega), List.getElem?_drop]
      have hgin : ∀ (q : Nat) (z : Oper), grp[q]? = some z → ∃ n, k0 ≤ n ∧ ops[n]? = some z := fun q z hz => by
        have hq : q < grp.length := (List.getElem?_eq_some_iff.mp hz).1
        exact ⟨k0 + q, by omega, by rw [hgidx q hq, hz]⟩
      rw [hsplit]
      refine wpG_append step _ hs.mono _ _ _ _ _ ?_
      refine wpG_skip hreg hd0 hjk grp k0 a1 hgidx (fun z hz => ?_) (Nat.le_refl _) hsz1 (by rw [hbit, hb2]) (fun g h1 h2 => by omega) _ fun a2 hk2 => ?_
      · have := List.all_eq_true.mp hgg z hz
        split at this
        · rename_i g b' hgb
          simp only [Bool.or_eq_true, Bool.and_eq_true, Nat.beq_eq, beq_iff_eq, Nat.ble_eq] at this
          exact ⟨g, b', hgb, this⟩
        · cases this
      have hnotin : d0 ∉ dsts grp := by
        intro hin
        obtain ⟨z, hz, hzd⟩ := List.mem_filterMap.mp hin
        obtain ⟨q, hq⟩ := List.mem_iff_getElem?.mp hz
        obtain ⟨n, hn1, hn2⟩ := hgin q z hq
        exact hd0.2 n z hn2 (by omega) hzd
      have hag : Agree (e1.drop (loDst grp pd) (hiDst grp pd)) a2 := by
        intro t z ht
        obtain ⟨h4, h5⟩ := drop_eq ht
        rw [hk2.same t fun hin => h5 ⟨(loDst_le grp pd).2 t hin, (hiDst_le grp pd).2 t hin⟩]
        exact ha1 t z h4
      obtain ⟨e2, q1, q2, q3⟩ := pick_exec P call hpop hag (b := b) (by rw [hk2.same d0 hnotin]; exact hbit) (v := u) (by rw [hb2]; cases want <;> simpa using hu) w1
      have hpw : Region.wanted p (yielded ops.toArray a2.tmps) = true := by simp [Region.wanted, hpg]
      simp only [wpG, hpw, if_true]
      obtain ⟨e3, w4, h6, h7⟩ := aOps_ok hc hreg hs _ (k0 + m + 1) _ [] _ w1 _ _ hr2 (fun q hq => by rw [List.getElem?_drop])
      have hput : Kept (dsts [p]) a2 (a2.put p.dst u) := Kept.put _ _ _ fun n hn => by simp [dsts, hn]
      have hsz2 : nt ≤ a2.tmps.size := by rw [hk2.size]; exact hsz1
      refine hs.ok p (List.mem_of_getElem? hpp) e2 w1 u w1 q2 q3 (fun q => by rw [hpop] at q; cases q) _ a2 q1 (h7 _ _ (by rw [hput.size]; exact hsz2) ?_ (hst _ _) fun a3 hk3 ha3 => ?_)
      · rw [hpd]
        refine Agree.set ?_ (Nat.lt_of_lt_of_le (hpd2 pd hpd) hsz2)
        exact hag
      · exact hQ _ _ (okIf_some.mp h6).1 a3 (by rw [hk3.size, hput.size, hk2.size, hk1.size]) (by rw [hk3.defers, hput.defers, hk2.defers, hk1.defers]) ha3
  rw [← hA] at key
  exact key
/-! ### operations taken one after the other -/
section
variable {P : Program} {call : CallF} {ops all : List Oper} {σ : Nat → Nat}
/-- each next operation is the only one that is ready, or one whose value hangs on its operands alone and that stands apart from all that is left -/
def goOk (ops : List Oper) : Array Bool → List Nat → Bool
  | listed, [] => (Region.ready .any ops.toArray listed).isEmpty
  | listed, i :: r => (match ops[i]? with
      | some o => (Region.ready .any ops.toArray listed == [i]) || (tinyOp o.op && (Region.ready .any ops.toArray listed).contains i && Region.free .any ops.toArray listed i)
      | none => false) && goOk ops (listed.setIfInBounds i true) r
/-- one operation: where its value hangs on its operands alone, the same in each world -/
def goStep (P : Program) (Q : Exit → Act → World → Prop) (o : Oper) (K : Act → World → Prop) (a : Act) (w : World) : Prop :=
  (tinyOp o.op = true → ∃ v, (∀ W, (execOp a.eval o).run P W = .ok (.value v) W) ∧ K (a.put o.dst v) w) ∧ wpStep P Q o K a w
theorem tiny_value {o : Oper} (ht : tinyOp o.op = true) {ρ : Operand → Value} {W : World} (h : (execOp ρ o).run P W = .ok .skip W) : False := by
  obtain ⟨dst, op, type, pos, after, guard⟩ := o
  cases op <;> simp only [tinyOp, Bool.false_eq_true] at ht
  all_goals simp [execOp, Sem.run_bind, Result.andThen] at h
  all_goals (split at h <;> simp at h)
theorem steps_go (hc : CallOk P call) (all : List Oper) (Q : Exit → Act → World → Prop) : Steps1 P call all (goStep P Q) where
  mono := fun o K K' a w h hh => ⟨fun q => (by obtain ⟨v, h1, h2⟩ := hh.1 q; exact ⟨v, h1, h _ _ h2⟩), hh.2.imp (Oper.wp_mono h) id⟩
  ok := fun o _ e w v w' h hq ht K a ha hK => ⟨fun q => by
    refine ⟨v, fun W => ?_, ?_⟩
    · rcases ht q W a ha with h1 | ⟨h1, _⟩ | ⟨f, args, h1, _⟩
      · exact h1
      · exact (tiny_value q h1).elim
      · exfalso
        obtain ⟨dst, op, type, pos, after, guard⟩ := o
        cases op <;> simp only [tinyOp, Bool.false_eq_true] at q
        all_goals simp [execOp, Sem.run_bind, Result.andThen] at h1
        all_goals (split at h1 <;> simp at h1)
    · have hw : w' = w := (hq (by
        obtain ⟨dst, op, type, pos, after, guard⟩ := o
        cases op <;> simp only [tinyOp, Bool.false_eq_true] at q <;> rfl)).1
      rw [hw] at hK
      exact hK, wpStep_ok hc h K a ha hK⟩
theorem relG_wp {Q : Exit → Act → World → Prop} {o : Oper} {e : Env} {a : Act} {w : World} {K : Act → World → Prop} (ha : Agree e a) (h : relCallG P o e w fun v w' => K (a.put o.dst v) w') : wpStep P Q o K a w := by
  obtain ⟨f, args, h1, h2, _⟩ := relG_exec ha h
  refine .inl ?_
  unfold Oper.wp
  rw [h1]
  exact h2.mono fun x w' ⟨v, hx, hk⟩ => by subst hx; exact hk
theorem relG_go {Q : Exit → Act → World → Prop} {o : Oper} {e : Env} {a : Act} {w : World} {K : Act → World → Prop} (ha : Agree e a) (h : relCallG P o e w fun v w' => K (a.put o.dst v) w') : goStep P Q o K a w :=
  ⟨fun q => (by
    obtain ⟨f, args, h1, _, _⟩ := relG_exec ha h
    exfalso
    obtain ⟨dst, op, type, pos, after, guard⟩ := o
    cases op <;> simp only [tinyOp, Bool.false_eq_true] at q
    all_goals simp [execOp, Sem.run_bind, Result.andThen] at h1
    all_goals (split at h1 <;> simp at h1)), relG_wp ha h⟩
theorem any_go (T : Turn ops all σ) (hs : Region.noSelect ops.toArray = true) {Q : Exit → Act → World → Prop} (hQ : ∀ c a w, ¬ Q (.panic c) a w) :
    ∀ (l : List Nat) (listed : Array Bool) (a : Act) (w : World), goOk ops listed l = true → wpG (goStep P Q) all.toArray (l.map fun i => all.getD (σ i) noOper) (Q .normal) a w → wpAny P .any ops.toArray Q l.length listed a w
  | [], listed, a, w, hg, h => by
    simp only [goOk, List.isEmpty_iff] at hg
    exact wpAny_done hg h _
  | i :: r, listed, a, w, hg, h => by
    simp only [goOk, Bool.and_eq_true] at hg
    obtain ⟨hg, hrest⟩ := hg
    split at hg
    case h_2 => cases hg
    rename_i o ho
    have hil : i < ops.length := (List.getElem?_eq_some_iff.mp ho).1
    obtain ⟨o', ho', he'⟩ := T.same i o ho
    have hgo : all.getD (σ i) noOper = o' := by simp [List.getD, ho']
    simp only [List.map_cons, wpG, hgo] at h
    rw [T.wanted ho ho'] at h
    have hoA : ops.toArray[i]? = some o := by simpa using ho
    have ih := any_go T hs hQ r (listed.setIfInBounds i true)
    simp only [Bool.or_eq_true, Bool.and_eq_true, beq_iff_eq] at hg
    have hdst : o'.dst = o.dst := by rw [he']
    have hex : ∀ ρ, execOp ρ o' = execOp ρ o := fun ρ => by rw [he']; rfl
    have hop : o'.op = o.op := by rw [he']
    have hwp : ∀ K a w, o'.wp P a w K Q → o.wp P a w K Q := fun K a w q => by
      rw [he'] at q
      exact q
    have hask : ∀ a w, o'.asks P a w → o.asks P a w := fun a w q => by
      rw [he'] at q
      exact q
    rcases hg with hg | ⟨⟨ht, hr⟩, hf⟩
    · refine wpAny_all hg (by simp) fun j hj => ?_
      simp only [List.mem_singleton] at hj
      subst hj
      unfold wpOp
      simp only [hoA]
      split
      · rename_i hw
        rw [if_pos hw] at h
        rcases h.2 with h1 | ⟨h1, h2⟩
        · exact .inl (hwp _ _ _ (Oper.wp_mono (fun a w q => ih a w hrest q) h1))
        · exact .inr ⟨hask _ _ h1, h2⟩
      · rename_i hw
        rw [if_neg hw, hdst] at h
        exact ih _ _ hrest h
    · by_cases hw : Region.wanted o (yielded ops.toArray a.tmps) = true
      · rw [if_pos hw] at h
        obtain ⟨v, h1, h2⟩ := h.1 (by rw [hop]; exact ht)
        rw [hdst] at h2
        exact wpAny_take hoA hs hf hr (fun c a w q => (hQ _ _ _ q).elim) (.inl ⟨hw, fun W => by rw [← hex]; exact h1 W⟩) (ih _ _ hrest h2)
      · rw [if_neg hw, hdst] at h
        exact wpAny_take hoA hs hf hr (fun c a w q => (hQ _ _ _ q).elim) (.inr ⟨by simpa using hw, rfl⟩) (ih _ _ hrest h)
end
/-- a region that draws, its operations taken one after the other as p tells, one of them a call by relation under a guard -/
def wGo (P : Program) (call : CallF) (nt : Nat) (ops : List Oper) (p : List Nat) (k0 i m : Nat) (e : Env) (w : World) (K : Env → World → Prop) : Prop :=
  (permOk ops.length (backOf ops.length p) p && regionOk nt ops && Nat.beq p.length ops.length && Region.noSelect ops.toArray && goOk ops (Array.replicate ops.length false) p) = true ∧
  wRelG P call nt (turned ops (backOf ops.length p) p fun _ => []) k0 i m e w K
theorem wg_ok {P : Program} {call : CallF} (hc : CallOk P call) (hm : P.follows .mixedOrders = true) {nt id : Nat} {ops : Array Oper} {p : List Nat} {k0 i m : Nat} {e : Env} {w : World} {K : Env → World → Prop} (h : wGo P call nt ops.toList p k0 i m e w.drew K) :
    ∀ (Q : Exit → Act → World → Prop) (b : Act), nt ≤ b.tmps.size → Agree e b →
      (∀ e' w', K e' w' → ∀ a', a'.tmps.size = b.tmps.size → a'.defers = b.defers → Agree e' a' → Q .normal a' w') → (Code.region id ops true).wp P Q b w := by
  intro Q b hnt ha hQ
  obtain ⟨hk, h⟩ := h
  simp only [Bool.and_eq_true, Nat.beq_eq] at hk
  obtain ⟨⟨⟨⟨k1, k2⟩, k3⟩, k4⟩, k5⟩ := hk
  obtain ⟨all, hall⟩ : ∃ l, l = turned ops.toList (backOf ops.toList.length p) p fun _ => [] := ⟨_, rfl⟩
  have T : Turn ops.toList all (nthN (backOf ops.toList.length p)) := hall ▸ turn_of k1 k2
  rw [← hall] at h
  have hlist : (p.map fun i => all.getD (nthN (backOf ops.toList.length p) i) noOper) = all := by
    refine List.ext_getElem? fun k => ?_
    rw [List.getElem?_map]
    rcases Nat.lt_or_ge k ops.toList.length with hk | hk
    · have hp : p[k]? = some (nthN p k) := by
        rw [List.getElem?_eq_getElem (by omega)]
        simp [nthN, List.getD, show k < p.length by omega]
      have hkk : k < all.length := by rw [T.len]; exact hk
      rw [hp, Option.map_some, (permOk_spec k1 hk).2.2.2]
      simp [List.getD, hkk]
    · rw [List.getElem?_eq_none (by omega), List.getElem?_eq_none (by rw [T.len]; exact hk)]
      rfl
  refine Code.wp_mono (Q := fun e a w => e = .normal ∧ Q .normal a w) (fun e a w ⟨h1, h2⟩ => h1 ▸ h2) (wp_region_any hm ?_)
  have key := wRelG_ok hc h (steps_go hc all (fun e a w => e = .normal ∧ Q .normal a w)) (fun o e K a w ha h => relG_go ha h) (Q := fun a w => (Exit.normal = .normal ∧ Q .normal a w)) hnt ha (fun e' w' h' a' s d g => ⟨rfl, hQ e' w' h' a' s d g⟩)
  have key2 := any_go T (by rw [Array.toArray_toList] at k4 ⊢; exact k4) (Q := fun e a w => e = .normal ∧ Q .normal a w) (fun c a w q => by cases q.1) p (Array.replicate ops.toList.length false) b w.drew k5 (by rw [hlist]; exact key)
  rw [Array.toArray_toList, k3] at key2
  simpa using key2
section
variable (P : Program) (call : CallF) (rs : List Nat) (nt : Nat) (Rt : List Value → World → Prop)
noncomputable def wCode : Code → WAnn → Ways → Env → World → (Env → World → Prop) → Prop
  | .seq a b, .s x y, X, e, w, K => wCode a x X e w fun e w => wCode b y X e w K
  | .cond t a b, .c x y, X, e, w, K => hold (ev e t) fun v => hold (asB v) fun t => if t = true then wCode a x X e w K else wCode b y X e w K
  | .block id a, .b Kp x, X, e, w, K => wCode a x (⟨id, Kp, fun vs w => K (ofList 0 Kp vs) w⟩ :: X) e w fun e w => hold (gets e Kp) fun vs => K (ofList 0 Kp vs) w
  | .loop a, .l Kp x, X, e, w, _ => hold (gets e Kp) fun vs => ∃ n, itN (fun rec vs w => wCode a x X (ofList 0 Kp vs) w fun e w => hold (gets e Kp) fun vs => rec vs w) n vs w
  | .region i ops dr, .r, X, e, w, K => aCode P call rs nt (.region i ops dr) .z [] e w (fun e' w' => okIf w (K e' w')) = some (.norm [] w)
  | .region _ ops true, .t a cs Kp, X, e, w, K => manyOk P nt ops.toList a cs = true ∧
      wOrders (fun all => aFlat P call all all e w.drew [] (fun e' w' log => chkThen (chkAll log (loose P all)) (okIf w (hold (gets e' Kp) fun vs => K (ofList 0 Kp vs) w'))) = some (.norm [] w)) ((List.range (cs.length + 1)).map (order ops.toList a cs))
  | .region _ ops true, .f E ps Kp, X, e, w, K => famOk P nt ops.toList E ps = true ∧
      wOrders (fun all => aFlat P call all all e w.drew [] (fun e' w' log => chkThen (chkAll log (loose P all)) (okIf w (hold (gets e' Kp) fun vs => K (ofList 0 Kp vs) w'))) = some (.norm [] w)) (ps.map (orderF ops.toList E))
  | .region _ ops false, .q i, X, e, w, K => wRel P call nt ops.toList i e w K
  | .region _ ops true, .q i, X, e, w, K => drawOk P ops.toList = true ∧ wRel P call nt ops.toList i e w.drew K
  | .region _ ops true, .g p k0 i m, X, e, w, K => wGo P call nt ops.toList p k0 i m e w.drew K
  | .skip, .r, X, e, w, K => K e w
  | .exit id, .r, X, e, w, K => hold (Ctx.keep X.ctx id) fun Kp => hold (gets e Kp) fun vs => X.out id vs w
  | .ret, .r, X, e, w, K => hold (gets e rs) fun vs => Rt vs w
  | c, .d Kp x, X, e, w, K => hold (aCode P call rs nt c x X.ctx e w (fun e w => (gets e Kp).ebind fun vs => some (.norm vs w))) (after Rt X (fun vs w => K (ofList 0 Kp vs) w))
  | c, .e x, X, e, w, _ => hold (aCode P call rs nt c x X.ctx e w (fun e w => (gets e []).ebind fun vs => some (.norm vs w))) (after Rt X (fun _ _ => False))
  | _, _, _, _, _, _ => False
end
theorem wd_ok {P : Program} {call : CallF} (hc : CallOk P call) (hm : P.follows .mixedOrders = true) {rs : List Nat} {nt : Nat} {ds : List Deferred} {Rt : List Value → World → Prop} {c : Code} {x : Ann} {Kp : List Nat} {X : Ways} {e : Env} {w : World} {K : Env → World → Prop}
    (h : hold (aCode P call rs nt c x X.ctx e w (fun e w => (gets e Kp).ebind fun vs => some (.norm vs w))) (after Rt X (fun vs w => K (ofList 0 Kp vs) w))) :
      ∀ (Q : Exit → Act → World → Prop) (a : Act), From nt ds a → Agree e a →
        (∀ e' w', K e' w' → ∀ a', From nt ds a' → Agree e' a' → Q .normal a' w') →
        (∀ id vs w', X.out id vs w' → ∀ Kp, Ctx.keep X.ctx id = some Kp → ∀ a', From nt ds a' → Has Kp vs a' → Q (.exit id) a' w') →
        (∀ vs w', Rt vs w' → ∀ a', From nt ds a' → Has rs vs a' → Q .ret a' w') →
        c.wp P Q a w := by
  intro Q a hf ha hk hx hr
  obtain ⟨r, h1, h2⟩ := hold_iff.mp h
  refine aCode_ok hc hm c x _ e w _ r h1 Q a hf ha ?_ ?_ ?_
  · intro e' w' h5 a' hf' ha'
    simp only [Option.ebind_eq, Option.bind_eq_some_iff, Option.some.injEq] at h5
    obtain ⟨vs, h6, rfl⟩ := h5
    exact hk _ _ h2 a' hf' (agree_gets ha' h6)
  · rintro id vs w' rfl Kp' hK a' hf' hh
    exact hx id vs w' h2 Kp' hK a' hf' hh
  · rintro vs w' rfl a' hf' hh
    exact hr vs w' h2 a' hf' hh
theorem wt_ok {P : Program} {call : CallF} (hc : CallOk P call) (hm : P.follows .mixedOrders = true) {nt id : Nat} {ops : Array Oper} {a : Nat} {cs Kp : List Nat} {e : Env} {w : World} {K : Env → World → Prop}
    (h : manyOk P nt ops.toList a cs = true ∧
      wOrders (fun all => aFlat P call all all e w.drew [] (fun e' w' log => chkThen (chkAll log (loose P all)) (okIf w (hold (gets e' Kp) fun vs => K (ofList 0 Kp vs) w'))) = some (.norm [] w)) ((List.range (cs.length + 1)).map (order ops.toList a cs))) :
    ∀ (Q : Exit → Act → World → Prop) (b : Act), nt ≤ b.tmps.size → Agree e b →
      (∀ e' w', K e' w' → ∀ a', a'.tmps.size = b.tmps.size → a'.defers = b.defers → Agree e' a' → Q .normal a' w') → (Code.region id ops true).wp P Q b w := by
  intro Q b hnt ha hQ
  obtain ⟨hok, hf⟩ := h
  unfold manyOk at hok
  simp only [Bool.and_eq_true, Nat.blt_eq] at hok
  obtain ⟨⟨⟨⟨k1, k2⟩, k3⟩, k4⟩, k5⟩ := hok
  have hcs : ∀ c ∈ cs, c < ops.toList.length ∧ c ≠ a := by
    intro c hc
    have := List.all_eq_true.mp k3 c hc
    simp only [Bool.and_eq_true, Nat.blt_eq, Bool.not_eq_true'] at this
    refine ⟨this.1, fun e => ?_⟩
    have h2 := this.2
    rw [e] at h2
    simp at h2
  have hback : ∀ (i : Nat) (o : Oper), ops.toList[i]? = some o → ∀ e ∈ o.after.toList, Region.binds .any e = true → e.on < i := by
    intro i o ho e he hb
    have := List.all_eq_true.mp (List.all_eq_true.mp k4 (o, i) (List.mem_zipIdx_iff_getElem?.mpr (by simpa using ho))) e he
    rw [hb] at this
    simpa using this
  have hj : ∀ j, j ≤ cs.length → permOk ops.toList.length (backOf ops.toList.length (placeAt ops.toList a cs j)) (placeAt ops.toList a cs j) = true ∧ regionOk nt (order ops.toList a cs j) = true ∧ flatOk P (order ops.toList a cs j) = true := by
    intro j hj
    have := List.all_eq_true.mp k5 j (List.mem_range.mpr (by omega))
    simp only [Bool.and_eq_true] at this
    exact ⟨this.1.1, this.1.2, this.2⟩
  have one : ∀ j, j ≤ cs.length → ∃ (L : List Ent) (a' : Act) (w' : World), LexRun P call (order ops.toList a cs j) (order ops.toList a cs j) b w.drew L a' w' ∧ (∀ i m, (i, m) ∈ loose P (order ops.toList a cs j) → ∃ x y, L[i]? = some x ∧ L[m]? = some y ∧ x.chk y.before ∧ x.chk y.after) ∧
        ∀ b' W, SlotsAt (order ops.toList a cs j) L b (fun i => i < (order ops.toList a cs j).length) b' → WorldOf P (order ops.toList a cs j) L w.drew (fun i => i < (order ops.toList a cs j).length) W → Q .normal b' W := by
    intro j hjl
    obtain ⟨_, hreg, hflat⟩ := hj j hjl
    have hf := wOrders_mem hf _ (List.mem_map.mpr ⟨j, List.mem_range.mpr (by omega), rfl⟩)
    generalize order ops.toList a cs j = all at *
    have hF := flat_of hflat
    obtain ⟨logs, e', w', h1, h2⟩ := aFlat_ok hc hreg all 0 e w.drew [] _ _ (fun m _ => by rw [Nat.zero_add]) hf
    simp only [List.nil_append] at h1
    unfold chkThen at h1
    split at h1
    case isFalse => cases h1
    rename_i hchk
    obtain ⟨L, a', l1, l2, l3, l4⟩ := h2 b hnt ha
    refine ⟨L, a', w', l1, ?_, ?_⟩
    · intro i m him
      obtain ⟨x, y, c1, c2, c3, c4⟩ := chkAll_mem hchk i m him
      rw [l3, List.getElem?_map, Option.map_eq_some_iff] at c1 c2
      obtain ⟨x', d1, rfl⟩ := c1
      obtain ⟨y', d2, rfl⟩ := c2
      exact ⟨x', y', d1, d2, c3, c4⟩
    · intro b' W b1 b2
      obtain ⟨rfl, g2, g3⟩ := last_same hF hreg hnt l1 b1 b2
      obtain ⟨vs, v1, v2⟩ := hold_iff.mp (okIf_some.mp h1).1
      exact hQ _ W v2 b' g3.size g3.defers (agree_gets (e := e') (fun t v ht => by rw [g2 t]; exact l2 t v ht) v1)
  let Ls : Nat → List Ent := fun j => if h : j ≤ cs.length then (one j h).choose else []
  let As : Nat → Act := fun j => if h : j ≤ cs.length then (one j h).choose_spec.choose else b
  let Ws : Nat → World := fun j => if h : j ≤ cs.length then (one j h).choose_spec.choose_spec.choose else w
  have sp : ∀ j, j ≤ cs.length → LexRun P call (order ops.toList a cs j) (order ops.toList a cs j) b w.drew (Ls j) (As j) (Ws j) ∧ (∀ i m, (i, m) ∈ loose P (order ops.toList a cs j) → ∃ x y, (Ls j)[i]? = some x ∧ (Ls j)[m]? = some y ∧ x.chk y.before ∧ x.chk y.after) ∧
        ∀ b' W, SlotsAt (order ops.toList a cs j) (Ls j) b (fun i => i < (order ops.toList a cs j).length) b' → WorldOf P (order ops.toList a cs j) (Ls j) w.drew (fun i => i < (order ops.toList a cs j).length) W → Q .normal b' W := by
    intro j h
    have := (one j h).choose_spec.choose_spec.choose_spec
    simp only [Ls, As, Ws, h, dif_pos]
    exact this
  refine wp_region_any hm ?_
  have key := many_orders (ops := ops.toList) (cs := cs) (a := a) (all := order ops.toList a cs) (σ := fun j => nthN (backOf ops.toList.length (placeAt ops.toList a cs j))) (L := Ls) (a0 := b) (w0 := w.drew) hc
    (fun j h => turn_of (hj j h).1 k1) hback (fun j h => flat_of (hj j h).2.2) (fun j h => (hj j h).2.1) hnt (fun j h => (sp j h).1) (fun j h => (sp j h).2.1) (Q := Q) (fun j h => (sp j h).2.2) k2 (fun h => (hcs a h).2 rfl)
    (fun j h listed listed' hl i hn hi => turn_ready (hj j h).1 k2 (fun c hc => (hcs c hc).1) hback h hl hn hi)
    ops.toList.length (Array.replicate ops.size false) b w.drew (by simp) ?_ ?_ ?_
  · rw [Array.toArray_toList] at key
    simpa using key
  · have : ∀ n, n ≤ ops.size → un (Array.replicate ops.size false) n = n := by
      intro n
      induction n with
      | zero => intro _; rfl
      | succ n ih => intro hn; simp only [un]; rw [ih (by omega)]; simp [show n < ops.size by omega]
    simpa using this ops.size (Nat.le_refl _)
  · rw [getD_replicate_false]
  · intro j h _
    refine ⟨Array.replicate ops.size false, ⟨by simp, by simp, fun i hi => by rw [getD_replicate_false, getD_replicate_false]⟩, ?_, ?_, ?_⟩
    · intro i o hi; exact absurd hi (by rw [getD_replicate_false]; decide)
    · exact ⟨rfl, rfl, fun i o x t hi => absurd hi (by simp only [getD_replicate_false]; decide), fun t _ => rfl⟩
    · exact .inr ⟨fun m hm => absurd hm (by simp only [getD_replicate_false]; decide), rfl⟩
theorem wf_ok {P : Program} {call : CallF} (hc : CallOk P call) (hm : P.follows .mixedOrders = true) {nt id : Nat} {ops : Array Oper} {E Kp : List Nat} {ps : List (List Nat)} {e : Env} {w : World} {K : Env → World → Prop}
    (h : famOk P nt ops.toList E ps = true ∧
      wOrders (fun all => aFlat P call all all e w.drew [] (fun e' w' log => chkThen (chkAll log (loose P all)) (okIf w (hold (gets e' Kp) fun vs => K (ofList 0 Kp vs) w'))) = some (.norm [] w)) (ps.map (orderF ops.toList E))) :
    ∀ (Q : Exit → Act → World → Prop) (b : Act), nt ≤ b.tmps.size → Agree e b →
      (∀ e' w', K e' w' → ∀ a', a'.tmps.size = b.tmps.size → a'.defers = b.defers → Agree e' a' → Q .normal a' w') → (Code.region id ops true).wp P Q b w := by
  intro Q b hnt ha hQ
  obtain ⟨hok, hf⟩ := h
  unfold famOk at hok
  simp only [Bool.and_eq_true, Bool.not_eq_true'] at hok
  obtain ⟨⟨⟨⟨k1, k2⟩, k4⟩, k5⟩, k6⟩ := hok
  have hback : ∀ (i : Nat) (o : Oper), ops.toList[i]? = some o → ∀ e ∈ o.after.toList, Region.binds .any e = true → e.on < i := by
    intro i o ho e he hb
    have := List.all_eq_true.mp (List.all_eq_true.mp k4 (o, i) (List.mem_zipIdx_iff_getElem?.mpr (by simpa using ho))) e he
    rw [hb] at this
    simpa using this
  have hN : 0 < ps.length := by
    cases ps with
    | nil => simp at k2
    | cons a r => simp
  have hpm : ∀ j, j < ps.length → ps.getD j [] ∈ ps := by
    intro j hj
    rw [List.getD_eq_getElem?_getD, List.getElem?_eq_getElem hj]
    simp
  have hj : ∀ j, j < ps.length → permOk ops.toList.length (backOf ops.toList.length (ps.getD j [])) (ps.getD j []) = true ∧ regionOk nt (orderF ops.toList E (ps.getD j [])) = true ∧ flatOk P (orderF ops.toList E (ps.getD j [])) = true ∧ (∀ x ∈ effOrd E (ps.getD j []), x < ops.toList.length) ∧ ∀ x ∈ E, x ∈ effOrd E (ps.getD j []) := by
    intro j hj
    have := List.all_eq_true.mp k5 _ (hpm j hj)
    simp only [Bool.and_eq_true] at this
    exact ⟨this.1.1.1.1, this.1.1.1.2, this.1.1.2, fun x hx => by have := List.all_eq_true.mp this.1.2 x hx; simpa using this, fun x hx => anyb_mem.mp (List.all_eq_true.mp this.2 x hx)⟩
  have one : ∀ j, j < ps.length → ∃ (L : List Ent) (a' : Act) (w' : World), LexRun P call (orderF ops.toList E (ps.getD j [])) (orderF ops.toList E (ps.getD j [])) b w.drew L a' w' ∧ (∀ i m, (i, m) ∈ loose P (orderF ops.toList E (ps.getD j [])) → ∃ x y, L[i]? = some x ∧ L[m]? = some y ∧ x.chk y.before ∧ x.chk y.after) ∧
        ∀ b' W, SlotsAt (orderF ops.toList E (ps.getD j [])) L b (fun i => i < (orderF ops.toList E (ps.getD j [])).length) b' → WorldOf P (orderF ops.toList E (ps.getD j [])) L w.drew (fun i => i < (orderF ops.toList E (ps.getD j [])).length) W → Q .normal b' W := by
    intro j hjl
    obtain ⟨_, hreg, hflat, _, _⟩ := hj j hjl
    have hf := wOrders_mem hf _ (List.mem_map.mpr ⟨ps.getD j [], hpm j hjl, rfl⟩)
    generalize orderF ops.toList E (ps.getD j []) = all at *
    have hF := flat_of hflat
    obtain ⟨logs, e', w', h1, h2⟩ := aFlat_ok hc hreg all 0 e w.drew [] _ _ (fun m _ => by rw [Nat.zero_add]) hf
    simp only [List.nil_append] at h1
    unfold chkThen at h1
    split at h1
    case isFalse => cases h1
    rename_i hchk
    obtain ⟨L, a', l1, l2, l3, l4⟩ := h2 b hnt ha
    refine ⟨L, a', w', l1, ?_, ?_⟩
    · intro i m him
      obtain ⟨x, y, c1, c2, c3, c4⟩ := chkAll_mem hchk i m him
      rw [l3, List.getElem?_map, Option.map_eq_some_iff] at c1 c2
      obtain ⟨x', d1, rfl⟩ := c1
      obtain ⟨y', d2, rfl⟩ := c2
      exact ⟨x', y', d1, d2, c3, c4⟩
    · intro b' W b1 b2
      obtain ⟨rfl, g2, g3⟩ := last_same hF hreg hnt l1 b1 b2
      obtain ⟨vs, v1, v2⟩ := hold_iff.mp (okIf_some.mp h1).1
      exact hQ _ W v2 b' g3.size g3.defers (agree_gets (e := e') (fun t v ht => by rw [g2 t]; exact l2 t v ht) v1)
  let Ls : Nat → List Ent := fun j => if h : j < ps.length then (one j h).choose else []
  let As : Nat → Act := fun j => if h : j < ps.length then (one j h).choose_spec.choose else b
  let Ws : Nat → World := fun j => if h : j < ps.length then (one j h).choose_spec.choose_spec.choose else w
  have sp : ∀ j, j < ps.length → LexRun P call (orderF ops.toList E (ps.getD j [])) (orderF ops.toList E (ps.getD j [])) b w.drew (Ls j) (As j) (Ws j) ∧ (∀ i m, (i, m) ∈ loose P (orderF ops.toList E (ps.getD j [])) → ∃ x y, (Ls j)[i]? = some x ∧ (Ls j)[m]? = some y ∧ x.chk y.before ∧ x.chk y.after) ∧
        ∀ b' W, SlotsAt (orderF ops.toList E (ps.getD j [])) (Ls j) b (fun i => i < (orderF ops.toList E (ps.getD j [])).length) b' → WorldOf P (orderF ops.toList E (ps.getD j [])) (Ls j) w.drew (fun i => i < (orderF ops.toList E (ps.getD j [])).length) W → Q .normal b' W := by
    intro j h
    have := (one j h).choose_spec.choose_spec.choose_spec
    simp only [Ls, As, Ws, h, dif_pos]
    exact this
  refine wp_region_any hm ?_
  have key := fam_orders (ops := ops.toList) (N := ps.length) (E := E) (Pi := fun j => effOrd E (ps.getD j [])) (all := fun j => orderF ops.toList E (ps.getD j [])) (σ := fun j => nthN (backOf ops.toList.length (ps.getD j []))) (L := Ls) (a0 := b) (w0 := w.drew) hc
    (fun j h => turn_of (hj j h).1 k1) hback (fun j h => flat_of (hj j h).2.2.1) (fun j h => (hj j h).2.1) hnt (fun j h => (sp j h).1) (fun j h => (sp j h).2.1) (Q := Q) (fun j h => (sp j h).2.2)
    (fun j h listed listed' hl i hn hi => readyF (hj j h).1 hback hl hn hi) (fun j h => (hj j h).2.2.2.1) ?_
    ops.toList.length (Array.replicate ops.size false) b w.drew [] (by simp) ?_ ?_ ?_ ?_ ⟨0, hN, rfl⟩ ?_
  · rw [Array.toArray_toList] at key
    simpa using key
  · intro j hjl k e he hne hanc
    have h1 := List.all_eq_true.mp k6 (effOrd E (ps.getD j [])) (List.mem_map.mpr ⟨_, hpm j hjl, rfl⟩)
    have hk : (effOrd E (ps.getD j [])).take k = (effOrd E (ps.getD j [])).take (min k (effOrd E (ps.getD j [])).length) := by rw [List.take_eq_take_min]
    have h2 := List.all_eq_true.mp (List.all_eq_true.mp h1 (min k (effOrd E (ps.getD j [])).length) (List.mem_range.mpr (by omega))) e he
    rw [← hk] at h2
    simp only [Bool.or_eq_true, Bool.not_eq_true'] at h2
    rcases h2 with (h2 | h2) | h2
    · exact absurd (anyb_mem.mp h2) hne
    · exfalso
      rw [← Bool.not_eq_true] at h2
      refine h2 (List.all_eq_true.mpr fun x hx => ?_)
      cases hb : ((ancs ops.toList).getD e 0).testBit x with
      | false => rfl
      | true => rw [Bool.not_true, Bool.false_or]; exact anyb_mem.mpr (hanc x hx hb)
    · obtain ⟨q', hq', hqq⟩ := List.any_eq_true.mp h2
      obtain ⟨p', hp', rfl⟩ := List.mem_map.mp hq'
      obtain ⟨j', hj', rfl⟩ := List.mem_iff_getElem.mp hp'
      have hqq := of_decide_eq_true hqq
      refine ⟨j', hj', ?_⟩
      have hg : ps.getD j' [] = ps[j'] := by rw [List.getD_eq_getElem?_getD, List.getElem?_eq_getElem hj']; rfl
      show (effOrd E (ps.getD j' [])).take (k + 1) = _
      rw [hg]
      rcases Nat.lt_or_ge (effOrd E (ps.getD j [])).length k with hkl | hkl
      · exfalso
        rw [List.take_of_length_le (by omega)] at hne
        exact hne ((hj j hjl).2.2.2.2 e he)
      · rw [Nat.min_eq_left hkl] at hqq
        exact hqq
  · have : ∀ n, n ≤ ops.size → un (Array.replicate ops.size false) n = n := by
      intro n
      induction n with
      | zero => intro _; rfl
      | succ n ih => intro hn; simp only [un]; rw [ih (by omega)]; simp [show n < ops.size by omega]
    simpa using this ops.size (Nat.le_refl _)
  · intro i o hi; exact absurd hi (by rw [getD_replicate_false]; decide)
  · intro x _
    rw [getD_replicate_false]
    simp
  · intro x hx
    cases hx
  · intro j h _
    refine ⟨Array.replicate ops.size false, ⟨by simp, by simp, fun i hi => by rw [getD_replicate_false, getD_replicate_false]⟩, ?_, ?_, ?_⟩
    · intro i o hi; exact absurd hi (by rw [getD_replicate_false]; decide)
    · exact ⟨rfl, rfl, fun i o x t hi => absurd hi (by simp only [getD_replicate_false]; decide), fun t _ => rfl⟩
    · exact .inr ⟨fun m hm => absurd hm (by simp only [getD_replicate_false]; decide), rfl⟩
theorem wCode_ok {P : Program} {call : CallF} (hc : CallOk P call) (hm : P.follows .mixedOrders = true) {rs : List Nat} {nt : Nat} {ds : List Deferred} {Rt : List Value → World → Prop} :
    ∀ (c : Code) (x : WAnn) (X : Ways) (e : Env) (w : World) (K : Env → World → Prop), wCode P call rs nt Rt c x X e w K →
      ∀ (Q : Exit → Act → World → Prop) (a : Act), From nt ds a → Agree e a →
        (∀ e' w', K e' w' → ∀ a', From nt ds a' → Agree e' a' → Q .normal a' w') →
        (∀ id vs w', X.out id vs w' → ∀ Kp, Ctx.keep X.ctx id = some Kp → ∀ a', From nt ds a' → Has Kp vs a' → Q (.exit id) a' w') →
        (∀ vs w', Rt vs w' → ∀ a', From nt ds a' → Has rs vs a' → Q .ret a' w') →
        c.wp P Q a w := by
  intro c
  induction c with
  | skip =>
    intro x X e w K h Q a hf ha hk hx hr
    cases x with
    | r => exact wp_skip (hk e w h a hf ha)
    | d Kp x => exact wd_ok hc hm h Q a hf ha hk hx hr
    | e x => exact wd_ok (Kp := []) (K := fun _ _ => False) hc hm h Q a hf ha (fun _ _ h => h.elim) hx hr
    | _ => exact h.elim
  | region id ops draw =>
    intro x X e w K h Q a hf ha hk hx hr
    cases x with
    | r =>
      refine region_ok hc hm h Q a hf.size ha fun e' w' h1 a' h2 h3 => ?_
      exact hk e' w' (okIf_some.mp h1).1 a' ⟨by rw [h2.size]; exact hf.size, by rw [h2.defers]; exact hf.defers⟩ h3
    | d Kp x => exact wd_ok hc hm h Q a hf ha hk hx hr
    | e x => exact wd_ok (Kp := []) (K := fun _ _ => False) hc hm h Q a hf ha (fun _ _ h => h.elim) hx hr
    | t a' cs Kp =>
      cases draw with
      | false => exact h.elim
      | true =>
        refine wt_ok hc hm h Q a hf.size ha fun e' w' h1 b h2 h3 h4 => ?_
        exact hk e' w' h1 b ⟨by rw [h2]; exact hf.size, by rw [h3]; exact hf.defers⟩ h4
    | f E ps Kp =>
      cases draw with
      | false => exact h.elim
      | true =>
        refine wf_ok hc hm h Q a hf.size ha fun e' w' h1 b h2 h3 h4 => ?_
        exact hk e' w' h1 b ⟨by rw [h2]; exact hf.size, by rw [h3]; exact hf.defers⟩ h4
    | g p k0 i m =>
      cases draw with
      | false => exact h.elim
      | true =>
        refine wg_ok hc hm h Q a hf.size ha fun e' w' h1 b h2 h3 h4 => ?_
        exact hk e' w' h1 b ⟨by rw [h2]; exact hf.size, by rw [h3]; exact hf.defers⟩ h4
    | q i =>
      have h : (draw = true → drawOk P ops.toList = true) ∧ wRel P call nt ops.toList i e (if draw = true then w.drew else w) K := by
        cases draw with
        | false => exact ⟨fun h => (by cases h), h⟩
        | true => exact ⟨fun _ => h.1, h.2⟩
      refine wq_ok hc hm h Q a hf.size ha fun e' w' h1 b h2 h3 h4 => ?_
      exact hk e' w' h1 b ⟨by rw [h2]; exact hf.size, by rw [h3]; exact hf.defers⟩ h4
    | _ => exact h.elim
  | seq c1 c2 ih1 ih2 =>
    intro x X e w K h Q a hf ha hk hx hr
    cases x with
    | s x y =>
      refine wp_seq (ih1 x X e w _ h _ a hf ha ?_ ?_ ?_)
      · intro e' w' h' a' hf' ha'
        exact ih2 y X e' w' K h' Q a' hf' ha' hk hx hr
      · exact hx
      · exact hr
    | d Kp x => exact wd_ok hc hm h Q a hf ha hk hx hr
    | e x => exact wd_ok (Kp := []) (K := fun _ _ => False) hc hm h Q a hf ha (fun _ _ h => h.elim) hx hr
    | _ => exact h.elim
  | cond t c1 c2 ih1 ih2 =>
    intro x X e w K h Q a hf ha hk hx hr
    cases x with
    | c x y =>
      obtain ⟨v, h1, h⟩ := hold_iff.mp h
      obtain ⟨b, h2, h3⟩ := hold_iff.mp h
      have hv : v = .bool b := by cases v <;> simp [asB] at h2; subst h2; rfl
      subst hv
      cases b with
      | true => exact wp_cond_true (ha.eval h1) (ih1 x X e w K (by simpa using h3) Q a hf ha hk hx hr)
      | false => exact wp_cond_false (ha.eval h1) (ih2 y X e w K (by simpa using h3) Q a hf ha hk hx hr)
    | d Kp x => exact wd_ok hc hm h Q a hf ha hk hx hr
    | e x => exact wd_ok (Kp := []) (K := fun _ _ => False) hc hm h Q a hf ha (fun _ _ h => h.elim) hx hr
    | _ => exact h.elim
  | block id c1 ih1 =>
    intro x X e w K h Q a hf ha hk hx hr
    cases x with
    | b Kp x =>
      refine wp_block (ih1 x _ e w _ h _ a hf ha ?_ ?_ ?_)
      · intro e' w' h a' hf' ha'
        obtain ⟨vs, h6, h7⟩ := hold_iff.mp h
        exact hk _ _ h7 a' hf' (agree_gets ha' h6)
      · intro i vs w' ho K' hK' a' hf' hh
        rw [Ways.ctx_cons, keep_cons] at hK'
        simp only [Ways.out] at ho
        simp only [Exit.inBlock]
        by_cases hi : i = id
        · subst hi
          simp only [if_true, Option.some.injEq] at hK' ho ⊢
          subst hK'
          exact hk _ _ ho a' hf' hh.agree
        · have hi' : ¬ id = i := fun h => hi h.symm
          simp only [hi, hi', if_false] at hK' ho ⊢
          exact hx i vs w' ho K' hK' a' hf' hh
      · exact hr
    | d Kp x => exact wd_ok hc hm h Q a hf ha hk hx hr
    | e x => exact wd_ok (Kp := []) (K := fun _ _ => False) hc hm h Q a hf ha (fun _ _ h => h.elim) hx hr
    | _ => exact h.elim
  | loop c1 ih1 =>
    intro x X e w K h Q a hf ha hk hx hr
    cases x with
    | l Kp x =>
      obtain ⟨vs0, h1, n, h2⟩ := hold_iff.mp h
      have key : ∀ (n : Nat) (vs : List Value) (w : World), itN (fun rec vs w => wCode P call rs nt Rt c1 x X (ofList 0 Kp vs) w fun e w => hold (gets e Kp) fun vs => rec vs w) n vs w → ∀ a, From nt ds a → Agree (ofList 0 Kp vs) a → Code.rounds P c1 Q n a w := by
        intro n
        induction n with
        | zero => intro vs w h; exact h.elim
        | succ n ih =>
          intro vs w h a hf ha
          rw [rounds_succ]
          refine ih1 x X _ _ _ h _ a hf ha ?_ hx hr
          intro e' w' h a' hf' ha'
          obtain ⟨vs, h6, h7⟩ := hold_iff.mp h
          exact ih _ _ h7 a' hf' (agree_gets ha' h6)
      exact wp_loop_rounds n (key n vs0 w h2 a hf (agree_gets ha h1))
    | d Kp x => exact wd_ok hc hm h Q a hf ha hk hx hr
    | e x => exact wd_ok (Kp := []) (K := fun _ _ => False) hc hm h Q a hf ha (fun _ _ h => h.elim) hx hr
    | _ => exact h.elim
  | exit id =>
    intro x X e w K h Q a hf ha hk hx hr
    cases x with
    | r =>
      obtain ⟨Kp, h1, h⟩ := hold_iff.mp h
      obtain ⟨vs, h2, h3⟩ := hold_iff.mp h
      exact wp_exit (hx id vs w h3 Kp h1 a hf (.of ha h2))
    | d Kp x => exact wd_ok hc hm h Q a hf ha hk hx hr
    | e x => exact wd_ok (Kp := []) (K := fun _ _ => False) hc hm h Q a hf ha (fun _ _ h => h.elim) hx hr
    | _ => exact h.elim
  | ret =>
    intro x X e w K h Q a hf ha hk hx hr
    cases x with
    | r =>
      obtain ⟨vs, h2, h3⟩ := hold_iff.mp h
      exact wp_ret (hr vs w h3 a hf (.of ha h2))
    | d Kp x => exact wd_ok hc hm h Q a hf ha hk hx hr
    | e x => exact wd_ok (Kp := []) (K := fun _ _ => False) hc hm h Q a hf ha (fun _ _ h => h.elim) hx hr
    | _ => exact h.elim
  | _ =>
    intro x X e w K h Q a hf ha hk hx hr
    cases x with
    | d Kp x => exact wd_ok hc hm h Q a hf ha hk hx hr
    | e x => exact wd_ok (Kp := []) (K := fun _ _ => False) hc hm h Q a hf ha (fun _ _ h => h.elim) hx hr
    | _ => exact h.elim
theorem callOk_run {P : Program} {ann : FuncId → Ann} {prim : Prim} (hm : P.follows .mixedOrders = true) (hp : PrimOk P prim) : CallOk P (run P ann prim) :=
  ⟨fun f args w r h => (calls_of_tells hm hp (tells_of_run h)).1, fun f args w r h => (calls_of_tells hm hp (tells_of_run h)).2⟩
/-- a function by its code as a condition -/
theorem calls_of_w {P : Program} {ann : FuncId → Ann} {prim : Prim} (hm : P.follows .mixedOrders = true) (hp : PrimOk P prim) {f : FuncId} {fn : Func} {c : Code} {rs : List Nat} {args : Array Value} {w : World} (hf : P.funcs[f]? = some fn) (hb : fn.body = some c) (hts : tmpsOf fn.results.toList = some rs) {x : WAnn} {Q : Value → World → Prop}
    (h : wCode P (run P ann prim) rs fn.ntmps (fun vs w' => Q (outcome vs) w') c x [] (ofArgs args) w (fun e w' => hold (gets e rs) fun vs => Q (outcome vs) w')) : Calls P f args w fun e w' => ∃ v, e = .returned v ∧ Q v w' := by
  refine calls_of_wp hf hb ?_
  have hargs : Agree (ofArgs args) { tmps := args ++ Array.replicate (fn.ntmps - args.size) undef, defers := [] } := by
    intro t v ht
    simp only [ofArgs] at ht
    have hlt : t < args.size := (Array.getElem?_eq_some_iff.mp ht).1
    rw [Array.getElem?_append_left hlt]; exact ht
  refine wCode_ok (ds := []) (callOk_run hm hp) hm c x [] _ w _ h _ _ ⟨by simp; omega, rfl⟩ hargs ?_ ?_ ?_
  · intro e' w' h a' hf' ha'
    obtain ⟨vs, h1, h2⟩ := hold_iff.mp h
    exact ⟨hf'.defers, _, results_ok hts (.of ha' h1) w', _, rfl, h2⟩
  · intro id vs w' ho
    exact ho.elim
  · intro vs w' hq a' hf' hh
    exact ⟨hf'.defers, _, results_ok hts hh w', _, rfl, hq⟩
/-- a function by its code as a condition, some of whose results lie in cells -/
theorem calls_of_wR {P : Program} {ann : FuncId → Ann} {prim : Prim} (hm : P.follows .mixedOrders = true) (hp : PrimOk P prim) {f : FuncId} {fn : Func} {c : Code} {args : Array Value} {w : World} (hf : P.funcs[f]? = some fn) (hb : fn.body = some c) {x : WAnn} {Q : Value → World → Prop}
    (h : wCode P (run P ann prim) (slotsOf fn.results.toList) fn.ntmps (fun vs w' => hold (Res.doneR P fn.results.toList (.ret vs w')) fun r => Q r.1 r.2) c x [] (ofArgs args) w (fun e w' => hold (gets e (slotsOf fn.results.toList)) fun vs => hold (Res.doneR P fn.results.toList (.ret vs w')) fun r => Q r.1 r.2)) : Calls P f args w fun e w' => ∃ v, e = .returned v ∧ Q v w' := by
  refine calls_of_wp hf hb ?_
  have hargs : Agree (ofArgs args) { tmps := args ++ Array.replicate (fn.ntmps - args.size) undef, defers := [] } := by
    intro t v ht
    simp only [ofArgs] at ht
    have hlt : t < args.size := (Array.getElem?_eq_some_iff.mp ht).1
    rw [Array.getElem?_append_left hlt]; exact ht
  refine wCode_ok (ds := []) (callOk_run hm hp) hm c x [] _ w _ h _ _ ⟨by simp; omega, rfl⟩ hargs ?_ ?_ ?_
  · intro e' w' h a' hf' ha'
    obtain ⟨vs, h1, h2⟩ := hold_iff.mp h
    obtain ⟨r, h3, h4⟩ := hold_iff.mp h2
    simp only [Res.doneR, Option.bind_eq_some_iff, Option.some.injEq] at h3
    obtain ⟨us, hu, rfl⟩ := h3
    exact ⟨hf'.defers, _, results_okR hu (.of ha' h1), _, rfl, h4⟩
  · intro id vs w' ho
    exact ho.elim
  · intro vs w' hq a' hf' hh
    obtain ⟨r, h3, h4⟩ := hold_iff.mp hq
    simp only [Res.doneR, Option.bind_eq_some_iff, Option.some.injEq] at h3
    obtain ⟨us, hu, rfl⟩ := h3
    exact ⟨hf'.defers, _, results_okR hu hh, _, rfl, h4⟩
theorem calls_of_wR' {P : Program} {ann : FuncId → Ann} {prim : Prim} (hm : P.follows .mixedOrders = true) (hp : PrimOk P prim) {f : FuncId} {fn : Func} {c : Code} {args : Array Value} {w : World} {vars : List ResultVar} {rs : List Nat} (hf : P.funcs[f]? = some fn) (hb : fn.body = some c) (hv : fn.results.toList = vars) (hs : slotsOf vars = rs) {x : WAnn} {Q : Value → World → Prop}
    (h : wCode P (run P ann prim) rs fn.ntmps (fun vs w' => hold (Res.doneR P vars (.ret vs w')) fun r => Q r.1 r.2) c x [] (ofArgs args) w (fun e w' => hold (gets e rs) fun vs => hold (Res.doneR P vars (.ret vs w')) fun r => Q r.1 r.2)) : Calls P f args w fun e w' => ∃ v, e = .returned v ∧ Q v w' := by
  subst hs
  subst hv
  exact calls_of_wR hm hp hf hb h
@[simp] theorem okIf_iff {w : World} {c : Prop} : (okIf w c = some (.norm [] w)) = c := propext ⟨fun h => (okIf_some.mp h).1, fun h => okIf_some.mpr ⟨h, rfl⟩⟩
end Go.Sh

namespace Go.Sh
open Go
set_option linter.unusedVariables false
set_option linter.unusedSimpArgs false
/-- the mark that a range over a function leaves with the deferred calls -/
def markOf (w : World) : Deferred := { target := .collected w.heap.size, args := #[] }
/-- the world in which the iterator begins -/
def rangeW (w : World) (r : Loop) : World := (w.alloc (.deferred (some []))).alloc (.loop r)
theorem wp_range_none {P : Program} {g : Operand} {ps : Array Tmp} {assign body : Code} {Q : Exit → Act → World → Prop} {a : Act} {w : World} {gf : FuncId} {lb : Array Value}
    (hg : a.eval g = .func (.func gf) #[] lb) (enter : ∀ args w, (callFunc gf args).run P w = .ok (.enter gf args) w)
    (h : ∀ r : Loop, r.state = .ready → r.pending = none → r.defers = w.heap.size → ∃ v w2, Calls P gf (#[.func (.yield (w.heap.size + 1)) #[] #[]] ++ lb) (rangeW w r) (fun e w' => e = .returned v ∧ w' = w2) ∧
      w2.heap[w.heap.size + 1]? = some (.loop r) ∧ Q .normal { a with defers := markOf w :: a.defers } (w2.putObj (w.heap.size + 1) (.loop { r with state := .exhausted }))) :
    (Code.rangeFunc g ps assign body).wp P Q a w := by
  rw [← wpIn_wide (n := 0)]
  refine wpIn_rangeFunc ?_
  intro fn _
  obtain ⟨r, hr⟩ : ∃ r : Loop, r = { state := .ready, pending := none, fn, tmps := a.tmps, params := ps, assign, body, defers := w.heap.size } := ⟨_, rfl⟩
  obtain ⟨v, w2, hc, hl, hq⟩ := h r (by rw [hr]) (by rw [hr]) (by rw [hr])
  refine ⟨w.heap.size + 1, [{ target := .collected w.heap.size, args := #[] }], rangeW w r, { target := .fn (.func gf) lb, args := #[.func (.yield (w.heap.size + 1)) #[] #[]] }, rangeW w r, gf,
    #[.func (.yield (w.heap.size + 1)) #[] #[]] ++ lb, rangeW w r, ?_, ?_, ?_, ?_, fun h => by simp [Fence.wide] at h, ?_⟩
  · unfold rangeW
    rw [hr]
    exact run_enterLoop_outer _ _ _ _ _
  · simp only [resolve, hg]
    simp [go_sem]
  · intro f' hf'
    trivial
  · simp [invoke, go_sem, enter]
  · rw [callsIn_wide]
    refine hc.mono ?_
    rintro e w3 ⟨rfl, rfl⟩
    have he := run_endLoop (P := P) hl (by rw [hr]; intro h; cases h)
    refine ⟨none, _, ?_, hq⟩
    rw [he, hr]
section
variable {P : Program}
/-- from a body that leaves one mark at most to the call -/
theorem calls_of_mark {f : FuncId} {fn : Func} {c : Code} {args : Array Value} {w : World} {R : Ending → World → Prop} (hf : P.funcs[f]? = some fn) (hb : fn.body = some c)
    (h : c.wp P (fun e a w' => e = .ret ∧ ∃ v, ((a.defers = [] ∧ (results fn a.tmps).run P w' = .ok v w' ∧ R (.returned v) w') ∨
      ∃ D, a.defers = [{ target := .collected D, args := #[] }] ∧ w'.heap[D]? = some (.deferred (some [])) ∧ (results fn a.tmps).run P (w'.putObj D (.deferred none)) = .ok v (w'.putObj D (.deferred none)) ∧ R (.returned v) (w'.putObj D (.deferred none))))
      { tmps := args ++ Array.replicate (fn.ntmps - args.size) undef, defers := [] } w) : Calls P f args w R := by
  rw [← callsIn_wide (n := 0)]
  refine callsIn_of_wp_marks hf hb trivial ?_
  rw [wpIn_wide]
  refine Code.wp_mono ?_ h
  rintro e a w' ⟨rfl, v, ⟨h1, h2, h3⟩ | ⟨D, h1, h2, h3, h4⟩⟩
  · show LeavesInM _ _ _ _ _ _ _ _ _
    rw [h1]
    exact ⟨v, h2, h3⟩
  · show LeavesInM _ _ _ _ _ _ _ _ _
    rw [h1]
    exact ⟨(by intro h; cases h), .inl ⟨D, _, rfl, run_takeDeferred h2, v, h3, h4⟩⟩
end
section
variable (P : Program) (call : CallF) (rs : List Nat) (nt : Nat)
/-- the codes ahead, one after the other, then what is asked of the rest -/
noncomputable def wHead (Rt : List Value → World → Prop) : Code → List WAnn → Env → World → (Code → Env → World → Prop) → Prop
  | c, [], e, w, K => K c e w
  | .seq a b, x :: xs, e, w, K => wCode P call rs nt Rt a x [] e w fun e w => wHead Rt b xs e w K
  | _, _ :: _, _, _, _ => False
/-- an iterator that yields nothing, called; what follows begins in the world behind it -/
noncomputable def rangeGo (gv : Value) (w : World) (K : World → Prop) : Prop := match gv with
  | .func (.func gf) caps lb => caps = #[] ∧ (∀ args w, (callFunc gf args).run P w = .ok (.enter gf args) w) ∧ ∀ r : Loop, r.state = .ready → r.pending = none → r.defers = w.heap.size →
      hold (call gf (#[.func (.yield (w.heap.size + 1)) #[] #[]] ++ lb) (rangeW w r)) fun p => p.2.heap[w.heap.size + 1]? = some (.loop r) ∧ K (p.2.putObj (w.heap.size + 1) (.loop { r with state := .exhausted }))
  | _ => False
/-- what is asked behind the range, when the function returns: its mark is taken away -/
def unmark (w : World) (Rt : List Value → World → Prop) : List Value → World → Prop := fun vs w' => w'.heap[w.heap.size]? = some (.deferred (some [])) ∧ Rt vs (w'.putObj w.heap.size (.deferred none))
/-- a range over an iterator that yields nothing, and what follows -/
noncomputable def wRange (Rt : List Value → World → Prop) (x y : WAnn) : Code → Env → World → Prop
  | .seq (.seq c0 (.block _ (.rangeFunc g _ _ _))) rest, e, w => wCode P call rs nt Rt c0 x [] e w fun e w => hold (ev e g) fun gv => rangeGo P call gv w fun w2 => wCode P call rs nt (unmark w Rt) rest y [] e w2 (fun _ _ => False)
  | _, _, _ => False
end
section
variable {P : Program}
theorem wHead_ok {call : CallF} (hc : CallOk P call) (hm : P.follows .mixedOrders = true) {rs : List Nat} {nt : Nat} {ds : List Deferred} {Rt : List Value → World → Prop} {K : Code → Env → World → Prop} {Q : Exit → Act → World → Prop}
    (hr : ∀ vs w', Rt vs w' → ∀ a', From nt ds a' → Has rs vs a' → Q .ret a' w') (hk : ∀ c e w, K c e w → ∀ a, From nt ds a → Agree e a → c.wp P Q a w) :
    ∀ (xs : List WAnn) (c : Code) (e : Env) (w : World), wHead P call rs nt Rt c xs e w K → ∀ a, From nt ds a → Agree e a → c.wp P Q a w
  | [], c, e, w, h, a, hf, ha => by
    cases c <;> exact hk _ e w h a hf ha
  | x :: xs, c, e, w, h, a, hf, ha => by
    cases c with
    | seq c1 c2 =>
      refine wp_seq (wCode_ok (ds := ds) hc hm c1 x [] e w _ h _ a hf ha ?_ (fun id vs w' ho => ho.elim) ?_)
      · intro e' w' h' a' hf' ha'
        exact wHead_ok hc hm hr hk xs c2 e' w' h' a' hf' ha'
      · exact hr
    | _ => exact h.elim
/-- a function whose code is heads, one range over an iterator that yields nothing, a rest that returns -/
theorem calls_of_range {ann : FuncId → Ann} {prim : Prim} (hm : P.follows .mixedOrders = true) (hp : PrimOk P prim) {f : FuncId} {fn : Func} {c : Code} {rs : List Nat} {args : Array Value} {w : World} (hf : P.funcs[f]? = some fn) (hb : fn.body = some c) (hts : tmpsOf fn.results.toList = some rs) {xs : List WAnn} {x y : WAnn} {Q : Value → World → Prop}
    (h : wHead P (run P ann prim) rs fn.ntmps (fun vs w' => Q (outcome vs) w') c xs (ofArgs args) w (wRange P (run P ann prim) rs fn.ntmps (fun vs w' => Q (outcome vs) w') x y)) : Calls P f args w fun e w' => ∃ v, e = .returned v ∧ Q v w' := by
  refine calls_of_mark hf hb ?_
  have hargs : Agree (ofArgs args) { tmps := args ++ Array.replicate (fn.ntmps - args.size) undef, defers := [] } := by
    intro t v ht
    simp only [ofArgs] at ht
    have hlt : t < args.size := (Array.getElem?_eq_some_iff.mp ht).1
    rw [Array.getElem?_append_left hlt]; exact ht
  refine wHead_ok (ds := []) (callOk_run hm hp) hm (K := wRange P (run P ann prim) rs fn.ntmps (fun vs w' => Q (outcome vs) w') x y) ?_ ?_ xs c _ w h _ ⟨by simp; omega, rfl⟩ hargs
  · intro vs w' hq a' hf' hh
    exact ⟨rfl, _, .inl ⟨hf'.defers, results_ok hts hh w', _, rfl, hq⟩⟩
  · intro c e w h a hf' ha
    unfold wRange at h
    split at h
    case h_2 => exact h.elim
    rename_i c0 id g ps as bd rest
    refine wp_seq (wp_seq (wCode_ok (ds := []) (callOk_run hm hp) hm c0 x [] e w _ h _ a hf' ha ?_ (fun _ _ _ h => h.elim) ?_))
    case refine_2 =>
      intro vs w' hq a' hf2 hh
      exact ⟨rfl, _, .inl ⟨hf2.defers, results_ok hts hh w', _, rfl, hq⟩⟩
    clear h ha hf' a e w
    intro e w h a hf' ha
    obtain ⟨gv, h1, h2⟩ := hold_iff.mp h
    unfold rangeGo at h2
    split at h2
    case h_2 => exact h2.elim
    rename_i gf caps lb
    obtain ⟨rfl, henter, h3⟩ := h2
    refine wp_block ?_
    refine wp_range_none (ha.eval h1) henter fun r r1 r2 r3 => ?_
    obtain ⟨p, h4, h5, h6⟩ := hold_iff.mp (h3 r r1 r2 r3)
    refine ⟨p.1, p.2, (callOk_run hm hp).calls _ _ _ _ h4, h5, ?_⟩
    refine wCode_ok (ds := [markOf w]) (callOk_run hm hp) hm rest y [] e _ _ h6 _ { a with defers := markOf w :: a.defers } ⟨hf'.size, by rw [hf'.defers]⟩ ha (fun _ _ h => h.elim) (fun _ _ _ h => h.elim) ?_
    rintro vs w' ⟨q1, q2⟩ a' hf2 hh
    exact ⟨rfl, _, .inr ⟨w.heap.size, hf2.defers, q1, results_ok hts hh _, _, rfl, q2⟩⟩
end
end Go.Sh

namespace Go.Sh
open Go Go.RowKit Go.ChangeShapes Go.WideShapes
set_option linter.unusedVariables false
end Go.Sh

namespace Go.Sh
open Go
/-- the settled world, some variables' one cell set -/
noncomputable def handled (P : Program) (os : Os) (l : List (Nat × Value)) : World :=
  l.foldl (fun w x => { w with heap := w.heap.modify x.1 fun
      | .cells _ t frozen => .cells #[x.2] t frozen
      | o => o }) (World.holding P os ⟨#[], #[], []⟩)
theorem handled_os (P : Program) (os : Os) (l : List (Nat × Value)) : (handled P os l).os = os := by
  have key : ∀ (l : List (Nat × Value)) (w : World), (l.foldl (fun w x => { w with heap := w.heap.modify x.1 fun
      | .cells _ t frozen => .cells #[x.2] t frozen
      | o => o }) w).os = w.os := by
    intro l
    induction l with
    | nil => intro w; rfl
    | cons x r ih => intro w; rw [List.foldl_cons, ih]
  exact key l _
theorem laidMet_lay {P : Program} {w0 : World} {laid : List (String × DataW Unit)} (hf : w0.layFits P laid [] = true) (hi : w0.layIfaces P laid (w0.layVars P laid) = true) : laidMet P laid (w0.layVars P laid) := by
  have e1 : (laid.filter fun x => (laid.map (·.1)).contains x.1) = laid := List.filter_eq_self.2 fun x hx => List.contains_iff_mem.2 (List.mem_map.2 ⟨x, hx, rfl⟩)
  have e2 : (laid.filter fun x => !(laid.map (·.1)).contains x.1) = [] := List.filter_eq_nil_iff.2 fun x hx => by rw [List.contains_iff_mem.2 (List.mem_map.2 ⟨x, hx, rfl⟩)]; simp
  exact laidMet_layVars (w0 := w0) (laid.map (·.1)) [] (by rw [e1]) (by rw [e1]; exact hf) (by rw [e1]; exact hi) (by rw [e2]; exact LaidIn.none)
end Go.Sh

