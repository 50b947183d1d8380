/- The layer 'Sh': structs that are compared. No condition but those that each statement names. -/
import Derived.Laws.StructEq
import Derived.Deep.Strs
import Derived.DataElems
import Derived.SizedLaws
import Derived.ArgAppend
import Derived.Test.YtkghbcadnbojgaaGreatDoorQD1
namespace Go.Sh
open Go Go.RowKit
set_option linter.unusedVariables false
open Go Go.RowKit Go.ChangeShapes Go.WideShapes
set_option linter.unusedSimpArgs false
open Go
open Go.Instr renaming storeAt → Zs, sliceAt → Zc
open Option renaming bind_eq_some_iff → Ob
open Option.some renaming injEq → Oj
open List renaming getElem?_eq_getElem → Yg, length_append → Ya, getElem?_append_left → Yf, length_drop → Ye
section
variable {P : Program} (w : World)
theorem rr_equalIn_struct (d : Nat) (t : TypeId) (xs ys : Array Value) (ht : P.underlying t = some (.struct (P.fieldsOf t))) (hp : P.stoodInHeld t = false) :
  rrun P (Op.equalIn (d + 1) t (.agg xs) (.agg ys)) w = rrun P (Op.eqFields d xs ys (P.fieldsOf t).toList) w := by
 simp only [Op.equalIn, rrun_bind, rrun_of_prun (prun_underlying ht), Option.bind_some, rrun_of_prun prun_program, hp, Bool.false_eq_true, if_false]
 rw [← Array.forIn_toList]
 generalize (P.fieldsOf t).toList = fs
 clear ht
 induction fs with
 | nil => simp [Op.eqFields]
 | cons f fs ih =>
  simp only [List.forIn_cons, Op.eqFields]
  split
  ·simp only [rrun_bind]
   cases rrun P (part f.type xs f.offset) w with
   | none => rfl
   | some a =>
    simp only [Option.bind_some]
    cases rrun P (part f.type ys f.offset) w with
    | none => rfl
    | some b =>
     simp only [Option.bind_some]
     cases rrun P (Op.equalIn d f.type a b) w with
     | none => rfl
     | some r =>
      cases r
      ·simp
      ·simpa using ih
  ·simpa using ih
theorem rr_equalIn_int (d : Nat) (t : TypeId) (k k' : IntKind) (a b : Int) (h : P.underlying t = some (.int k')) : rrun P (Op.equalIn (d + 1) t (.int k a) (.int k b)) w = some (a == b) := by
 simp [Op.equalIn, rrun_bind, rrun_of_prun (prun_underlying h)]
theorem rr_equalIn_string (d : Nat) (t : TypeId) (a b : ByteArray) (h : P.underlying t = some .string) : rrun P (Op.equalIn (d + 1) t (.string a) (.string b)) w = some (a.toList == b.toList) := by
 simp [Op.equalIn, rrun_bind, rrun_of_prun (prun_underlying h), beq_toListBytes]
theorem rr_eqFields_nil (d : Nat) (xs ys : Array Value) : rrun P (Op.eqFields d xs ys []) w = some true := by simp [Op.eqFields]
theorem rr_eqFields_cons (d : Nat) (xs ys : Array Value) (f : Field) (fs : List Field) (a b : Value) (r q : Bool) (hn : f.name ≠ "_") (h1 : rrun P (part f.type xs f.offset) w = some a) (h2 : rrun P (part f.type ys f.offset) w = some b)
  (h3 : rrun P (Op.equalIn d f.type a b) w = some r) (h4 : rrun P (Op.eqFields d xs ys fs) w = some q) : rrun P (Op.eqFields d xs ys (f :: fs)) w = some (r && q) := by
 simp only [Op.eqFields, hn, ne_eq, not_false_eq_true, if_true, rrun_bind, h1, h2, h3, Option.bind_some]
 cases r <;> simp [h4]
theorem rr_eql (t : TypeId) (x y : Operand) (xs ys : Array Value) (b : Bool) (hm : P.eqGuardType P.depth t = false) (ht : P.underlying t = some (.struct (P.fieldsOf t))) (hp : P.stoodInHeld t = false)
  (h : rrun P (Op.eqFields 9999 xs ys (P.fieldsOf t).toList) w = some b) : rrun P (do eqGuard .eql t x y (.agg xs) (.agg ys); binOp .eql t (.agg xs) (.agg ys)) w = some (.bool b) := by
 have h1 := rr_equalIn_struct (P := P) w 9999 t xs ys ht hp
 rw [h] at h1
 simp [eqGuard, rrun_bind, rrun_of_prun prun_program, hm, binOp, Op.equal, Op.maxDepth, h1]
theorem rr_neq (t : TypeId) (x y : Operand) (xs ys : Array Value) (b : Bool) (hm : P.eqGuardType P.depth t = false) (ht : P.underlying t = some (.struct (P.fieldsOf t))) (hp : P.stoodInHeld t = false)
  (h : rrun P (Op.eqFields 9999 xs ys (P.fieldsOf t).toList) w = some b) : rrun P (do eqGuard .neq t x y (.agg xs) (.agg ys); binOp .neq t (.agg xs) (.agg ys)) w = some (.bool (!b)) := by
 have h1 := rr_equalIn_struct (P := P) w 9999 t xs ys ht hp
 rw [h] at h1
 simp [eqGuard, rrun_bind, rrun_of_prun prun_program, hm, binOp, Op.equal, Op.maxDepth, h1]
end
open Go Go.RowKit Go.ChangeShapes Go.WideShapes
section
variable {H : Type} {enc : TypeId × Value → H} {P : Program} {W : World}
end
structure Rows (w : World) (base : Nat) (e : TypeId) (q : List (Value × List Value)) : Prop where
 own : ∀ p ∈ q, w.ownsRow base e 1 p.1 p.2.length p.2
 dis : ∀ (i j : Nat) p p', q[i]? = some p → q[j]? = some p' → i ≠ j → ∀ k, p.1.ownBlock = some k → p'.1.ownBlock ≠ some k
def rfp (q : List (Value × List Value)) : Nat → Prop := fun k => ∃ p ∈ q, p.1.ownBlock = some k
section
variable {w w' : World} {base : Nat} {e e' : TypeId} {q : List (Value × List Value)} {S : Nat → Prop}
theorem Rows.nil : Rows w base e [] := ⟨by simp, by simp⟩
theorem Rows.grew (h : Rows w base e q) (hg : Grew S w w') (hn : ∀ k, rfp q k → ¬ S k) : Rows w' base e q :=
 ⟨fun p hp => own_grew (h.own p hp) hg fun k hk => hn k ⟨p, hp, hk⟩, h.dis⟩
theorem Rows.new (h : Rows w base e q) (hg : w.grownBy w' none) : Rows w' base e q := h.grew (grew_new (S := fun _ => False) hg) fun _ _ h => h
theorem Rows.push (h : Rows w base e q) {p : Value × List Value} (o : w.ownsRow base e 1 p.1 p.2.length p.2) (hd : ∀ k, p.1.ownBlock = some k → ¬ rfp q k) : Rows w base e (q ++ [p]) := by
 refine ⟨fun p' hp => ?_, fun i j x y hi hj hne k hx hy => ?_⟩
 ·simp only [List.mem_append, List.mem_singleton] at hp
  rcases hp with hp | rfl
  ·exact h.own p' hp
  ·exact o
 ·have li := (List.getElem?_eq_some_iff.mp hi).1
  have lj := (List.getElem?_eq_some_iff.mp hj).1
  simp only [Ya, List.length_singleton] at li lj
  by_cases i1 : i < q.length
  ·rw [Yf i1] at hi
   by_cases j1 : j < q.length
   ·rw [Yf j1] at hj
    exact h.dis i j x y hi hj hne k hx hy
   ·rw [List.getElem?_append_right (by omega), show j - q.length = 0 by omega] at hj
    simp at hj
    subst hj
    exact hd k hy ⟨x, List.mem_of_getElem? hi, hx⟩
  ·rw [List.getElem?_append_right (by omega), show i - q.length = 0 by omega] at hi
   simp at hi
   subst hi
   by_cases j1 : j < q.length
   ·rw [Yf j1] at hj
    exact hd k hx ⟨y, List.mem_of_getElem? hj, hy⟩
   ·omega
theorem Rows.set (h : Rows w base e q) {i : Nat} {p p' : Value × List Value} (hi : q[i]? = some p) (hg : Grew (fun k => p.1.ownBlock = some k) w w') (o : w'.ownsRow base e 1 p'.1 p'.2.length p'.2)
  (hk : ∀ k, p'.1.ownBlock = some k → p.1.ownBlock = some k ∨ w.heap.size ≤ k) : Rows w' base e (q.set i p') := by
 have hil := (List.getElem?_eq_some_iff.mp hi).1
 have other : ∀ j x, q[j]? = some x → i ≠ j → ∀ k, x.1.ownBlock = some k → p.1.ownBlock ≠ some k := fun j x hj hne k hx hp => h.dis i j p x hi hj hne k hp hx
 refine ⟨fun x hx => ?_, fun a b x y ha hb hne k hx hy => ?_⟩
 ·obtain ⟨j, hj⟩ := List.getElem?_of_mem hx
  by_cases hij : i = j
  ·subst hij
   rw [List.getElem?_set_self hil] at hj
   cases hj
   exact o
  ·rw [List.getElem?_set_ne hij] at hj
   exact own_grew (h.own x (List.mem_of_getElem? hj)) hg fun k hk => other j x hj hij k hk
 ·by_cases hia : i = a
  ·subst hia
   rw [List.getElem?_set_self hil] at ha
   cases ha
   rw [List.getElem?_set_ne hne] at hb
   rcases hk k hx with h1 | h1
   ·exact other b y hb hne k hy h1
   ·have := ((h.own y (List.mem_of_getElem? hb)).lt k hy).2; omega
  ·rw [List.getElem?_set_ne hia] at ha
   by_cases hib : i = b
   ·subst hib
    rw [List.getElem?_set_self hil] at hb
    cases hb
    rcases hk k hy with h1 | h1
    ·exact other a x ha hia k hx h1
    ·have := ((h.own x (List.mem_of_getElem? ha)).lt k hx).2; omega
   ·rw [List.getElem?_set_ne hib] at hb
    exact h.dis a b x y ha hb hne k hx hy
theorem Rows.part (h : Rows w base e q) {i : Nat} {p : Value × List Value} (hi : q[i]? = some p) : w.ownsRow base e 1 p.1 p.2.length p.2 := h.own p (List.mem_of_getElem? hi)
end
set_option linter.unusedSimpArgs false
theorem iter_once {f : List Value → World → Option Res} {vs vs' : List Value} {w w' : World} (h : f vs w = some (.norm vs' w')) {r : Res} (h' : iter f vs' w' = some r) : iter f vs w = some r := iter_of_rounds (.more h (rounds_of_iter h'))
theorem own_rebase {w : World} {base B : Nat} {e : TypeId} {size n : Nat} {v : Value} {xs : List Value} (h : w.ownsRow base e size v n xs) (hB : ∀ k, v.ownBlock = some k → B ≤ k) : w.ownsRow B e size v n xs := by
 obtain ⟨h0, h1⟩ := h
 refine ⟨h0, ?_⟩
 rcases h1 with h1 | ⟨g, cap, cur, rfl, h2, h3⟩
 ·exact .inl h1
 ·exact .inr ⟨g, cap, cur, rfl, hB g rfl, h3⟩
section
structure Asn (base : Nat) where
 at_ : (Nat → Prop) → World → Prop
 frame : ∀ {S : Nat → Prop} {w w' : World} {T : Nat → Prop}, at_ S w → Grew T w w' → (∀ k, S k → ¬ T k) → at_ S w'
 rng : ∀ {S : Nat → Prop} {w : World}, at_ S w → ∀ k, S k → base ≤ k ∧ k < w.heap.size
variable {base : Nat}
theorem Asn.ext' {P Q : Asn base} (h : ∀ S w, P.at_ S w ↔ Q.at_ S w) : P = Q := by
 cases P; cases Q
 congr
 funext S w
 exact propext (h S w)
def emp : Asn base := ⟨fun S _ => S = fun _ => False, fun h _ _ => h, fun h k hk => by subst h; exact hk.elim⟩
def StarAt (P Q : Asn base) (S : Nat → Prop) (w : World) : Prop := ∃ A B : Nat → Prop, (∀ k, A k → ¬ B k) ∧ S = (fun k => A k ∨ B k) ∧ P.at_ A w ∧ Q.at_ B w
theorem starAt_frame {P Q : Asn base} {S : Nat → Prop} {w w' : World} {T : Nat → Prop} (h : StarAt P Q S w) (hg : Grew T w w') (hs : ∀ k, S k → ¬ T k) : StarAt P Q S w' := by
 obtain ⟨A, B, d, e, p, q⟩ := h
 exact ⟨A, B, d, e, P.frame p hg fun k hk => hs k (by rw [e]; exact .inl hk), Q.frame q hg fun k hk => hs k (by rw [e]; exact .inr hk)⟩
theorem starAt_rng {P Q : Asn base} {S : Nat → Prop} {w : World} (h : StarAt P Q S w) (k : Nat) (hk : S k) : base ≤ k ∧ k < w.heap.size := by
 obtain ⟨A, B, d, e, p, q⟩ := h
 rw [e] at hk
 rcases hk with hk | hk
 ·exact P.rng p k hk
 ·exact Q.rng q k hk
def star (P Q : Asn base) : Asn base := ⟨StarAt P Q, starAt_frame, starAt_rng⟩
instance : Mul (Asn base) := ⟨star⟩
theorem star_comm (P Q : Asn base) : P * Q = Q * P := by
 apply Asn.ext'
 intro S w
 constructor
 ·rintro ⟨A, B, d, e, p, q⟩
  exact ⟨B, A, fun k hb ha => d k ha hb, by rw [e]; funext k; exact propext or_comm, q, p⟩
 ·rintro ⟨A, B, d, e, p, q⟩
  exact ⟨B, A, fun k hb ha => d k ha hb, by rw [e]; funext k; exact propext or_comm, q, p⟩
theorem star_assoc (P Q R : Asn base) : (P * Q) * R = P * (Q * R) := by
 apply Asn.ext'
 intro S w
 constructor
 ·rintro ⟨X, C, d, e, ⟨A, B, d', e', p, q⟩, r⟩
  subst e'
  refine ⟨A, fun k => B k ∨ C k, fun k ha hbc => ?_, by rw [e]; funext k; exact propext or_assoc, p, B, C, fun k hb hc => d k (.inr hb) hc, rfl, q, r⟩
  rcases hbc with hb | hc
  ·exact d' k ha hb
  ·exact d k (.inl ha) hc
 ·rintro ⟨A, X, d, e, p, B, C, d', e', q, r⟩
  subst e'
  refine ⟨fun k => A k ∨ B k, C, fun k hab hc => ?_, by rw [e]; funext k; exact propext or_assoc.symm, ⟨A, B, fun k ha hb => d k ha (.inl hb), rfl, p, q⟩, r⟩
  rcases hab with ha | hb
  ·exact d k ha (.inr hc)
  ·exact d' k hb hc
theorem emp_star (P : Asn base) : emp * P = P := by
 apply Asn.ext'
 intro S w
 constructor
 ·rintro ⟨A, B, d, e, p, q⟩
  have hA : A = fun _ => False := p
  subst hA
  have : S = B := by rw [e]; funext k; simp
  rw [this]; exact q
 ·intro q
  exact ⟨fun _ => False, S, fun k h => h.elim, by funext k; simp, rfl, q⟩
theorem star_emp (P : Asn base) : P * emp = P := by rw [star_comm, emp_star]
instance : Std.Associative (α := Asn base) (· * ·) := ⟨star_assoc⟩
instance : Std.Commutative (α := Asn base) (· * ·) := ⟨star_comm⟩
def all {α : Type} (f : α → Asn base) : List α → Asn base
 | [] => emp
 | a :: l => f a * all f l
theorem all_append {α : Type} (f : α → Asn base) (l l' : List α) : all f (l ++ l') = all f l * all f l' := by
 induction l with
 | nil => simp [all, emp_star]
 | cons a l ih => simp only [List.cons_append, all, ih, star_assoc]
theorem all_get {α : Type} (f : α → Asn base) {l : List α} {i : Nat} {a : α} (h : l[i]? = some a) : all f l = f a * all f (l.eraseIdx i) := by
 induction l generalizing i with
 | nil => simp at h
 | cons b l ih =>
  cases i with
  | zero => simp at h; subst h; simp [all]
  | succ i =>
   simp at h
   simp only [all, List.eraseIdx_cons_succ, ih h]
   ac_rfl
theorem all_set {α : Type} (f : α → Asn base) {l : List α} {i : Nat} (h : i < l.length) (a' : α) : all f (l.set i a') = f a' * all f (l.eraseIdx i) := by
 induction l generalizing i with
 | nil => simp at h
 | cons b l ih =>
  cases i with
  | zero => simp [all]
  | succ i =>
   simp at h
   simp only [all, List.eraseIdx_cons_succ, List.set_cons_succ, ih h]
   ac_rfl
def blkA (b : Nat) (e : TypeId) (cs : List Value) : Asn base := ⟨fun S w => Blk w b e cs ∧ base ≤ b ∧ S = fun k => k = b, fun ⟨h, h2, h3⟩ hg hs => ⟨h.grew hg (hs b (by rw [h3])), h2, h3⟩, fun ⟨h, h2, h3⟩ k hk => by rw [h3] at hk; cases hk; exact ⟨h2, h.lt⟩⟩
def rowA (e : TypeId) (sz : Nat) (v : Value) (n : Nat) (xs : List Value) : Asn base := ⟨fun S w => w.ownsRow base e sz v n xs ∧ S = fun k => v.ownBlock = some k, fun ⟨h, h3⟩ hg hs => ⟨own_grew h hg fun k hk => hs k (by rw [h3]; exact hk), h3⟩, fun ⟨h, h3⟩ k hk => by rw [h3] at hk; exact h.lt k hk⟩
def Sat (W : World) (X : Asn W.heap.size) (w : World) : Prop := Grew (fun _ => False) W w ∧ ∃ S, X.at_ S w
def Step {α : Type} (W : World) (P : Asn W.heap.size) (r : World → Option (α × World)) (Q : α → Asn W.heap.size) : Prop :=
 ∀ S w, Grew (fun _ => False) W w → P.at_ S w → ∃ v w' S', r w = some (v, w') ∧ (Q v).at_ S' w' ∧ Grew S w w' ∧ ∀ k, S' k → S k ∨ w.heap.size ≤ k
section
variable {W w w' : World} {P Q R X Y : Asn W.heap.size} {α : Type}
theorem Sat.sub (s : Sat W X w) (h : ∀ S w, X.at_ S w → ∃ S', Y.at_ S' w) : Sat W Y w := by
 obtain ⟨g, S, x⟩ := s
 exact ⟨g, h S w x⟩
theorem Sat.eq (s : Sat W X w) (h : X = Y) : Sat W Y w := h ▸ s
theorem Sat.left (s : Sat W (P * R) w) : Sat W P w := s.sub fun S w ⟨A, B, d, e, p, q⟩ => ⟨A, p⟩
theorem Sat.right (s : Sat W (P * R) w) : Sat W R w := s.sub fun S w ⟨A, B, d, e, p, q⟩ => ⟨B, q⟩
theorem Sat.size (s : Sat W X w) : W.heap.size ≤ w.heap.size := s.1.size
theorem Sat.drew (s : Sat W X w) : Sat W X w.drew := by
 obtain ⟨g, S, x⟩ := s
 exact ⟨g.step (Grew.drew _ _), S, X.frame x (Grew.drew (fun _ => False) w) fun k _ h => h⟩
theorem Sat.grown (s : Sat W X w) (hg : w.grownBy w' none) : Sat W X w' := by
 obtain ⟨g, S, x⟩ := s
 exact ⟨g.step (grew_new hg), S, X.frame x (grew_new (S := fun _ => False) hg) fun k _ h => h⟩
theorem Sat.blk {b : Nat} {e : TypeId} {cs : List Value} (s : Sat W (blkA b e cs * R) w) : Blk w b e cs := by
 obtain ⟨g, S, h, _⟩ := s.left
 exact h
theorem Sat.row {e : TypeId} {sz n : Nat} {v : Value} {xs : List Value} (s : Sat W (rowA e sz v n xs * R) w) : w.ownsRow W.heap.size e sz v n xs := by
 obtain ⟨g, S, h, _⟩ := s.left
 exact h
theorem Step.on {r : World → Option (α × World)} {Q : α → Asn W.heap.size} (h : Step W P r Q) (s : Sat W (P * R) w) : ∃ v w', r w = some (v, w') ∧ Sat W (Q v * R) w' ∧ w.heap.size ≤ w'.heap.size := by
 obtain ⟨g, S, A, B, d, e, p, q⟩ := s
 obtain ⟨v, w', S', h1, h2, h3, h4⟩ := h A w g p
 refine ⟨v, w', h1, ⟨g.trans h3 fun k hk => .inr (P.rng p k hk).1, fun k => S' k ∨ B k, S', B, fun k hs hb => ?_, rfl, h2, R.frame q h3 fun k hb ha => d k ha hb⟩, h3.size⟩
 rcases h4 k hs with h5 | h5
 ·exact d k h5 hb
 ·have := (R.rng q k hb).2; omega
theorem Step.at {r : World → Option (α × World)} {Q : α → Asn W.heap.size} (h : Step W P r Q) (s : Sat W X w) (e : X = P * R) : ∃ v w', r w = some (v, w') ∧ Sat W (Q v * R) w' ∧ w.heap.size ≤ w'.heap.size := h.on (s.eq e)
theorem Step.star {r : World → Option (α × World)} {Q : α → Asn W.heap.size} (h : Step W P r Q) (R : Asn W.heap.size) : Step W (P * R) r (fun v => Q v * R) := by
 rintro S w g ⟨A, B, d, e, p, q⟩
 obtain ⟨v, w', S', h1, h2, h3, h4⟩ := h A w g p
 refine ⟨v, w', fun k => S' k ∨ B k, h1, ⟨S', B, fun k hs hb => ?_, rfl, h2, R.frame q h3 fun k hb ha => d k ha hb⟩, h3.weak fun k hk => .inl (by rw [e]; exact .inl hk), fun k hk => ?_⟩
 ·rcases h4 k hs with h5 | h5
  ·exact d k h5 hb
  ·have := (R.rng q k hb).2; omega
 ·rcases hk with hk | hk
  ·rcases h4 k hk with h5 | h5
   ·exact .inl (by rw [e]; exact .inl h5)
   ·exact .inr h5
  ·exact .inl (by rw [e]; exact .inr hk)
theorem Sat.newBlk (s : Sat W R w) (e : TypeId) (cs : List Value) : Sat W (blkA w.heap.size e cs * R) (w.alloc (.cells cs.toArray e)) := by
 obtain ⟨g, S, x⟩ := s
 have ga := World.grownBy_alloc w (.cells cs.toArray e) none
 exact ⟨g.step (grew_new ga), fun k => k = w.heap.size ∨ S k, fun k => k = w.heap.size, S, fun k hk hs => by have := (R.rng x k hs).2; omega, rfl, ⟨Blk.new w e cs, g.size, rfl⟩, R.frame x (grew_new (S := fun _ => False) ga) fun k _ h => h⟩
theorem Sat.newRow (s : Sat W R w) (hg : w.grownBy w' none) {e : TypeId} {sz n : Nat} {v : Value} {xs : List Value} (h : w'.ownsRow w.heap.size e sz v n xs) : Sat W (rowA e sz v n xs * R) w' := by
 obtain ⟨g, S, x⟩ := s
 refine ⟨g.step (grew_new hg), fun k => v.ownBlock = some k ∨ S k, fun k => v.ownBlock = some k, S, fun k hk hs => ?_, rfl, ⟨own_rebase h fun k hk => Nat.le_trans g.size (h.lt k hk).1, rfl⟩, R.frame x (grew_new (S := fun _ => False) hg) fun k _ h => h⟩
 have := (R.rng x k hs).2
 have := (h.lt k hk).1
 omega
theorem Sat.nilRow (s : Sat W R w) (e : TypeId) (sz : Nat) : Sat W (rowA e sz (.slice none 0 0) 0 [] * R) w := s.newRow (grown_refl _ _) (World.ownsRow_nil w w.heap.size e sz)
theorem Sat.store {b : Nat} {e : TypeId} {cs cs' : List Value} (s : Sat W (blkA b e cs * R) w) (i : Nat) (v : Value) (h : cs.set i v = cs') : Sat W (blkA b e cs' * R) (w.setCell ⟨b, i, none⟩ v) := by
 obtain ⟨g, S, A, B, d, e, ⟨p, hb, hA⟩, q⟩ := s
 subst hA
 have hg := grew_set (S := fun k => k = b) w i v rfl
 exact ⟨g.trans hg fun k hk => .inr (hk ▸ hb), fun k => k = b ∨ B k, fun k => k = b, B, d, rfl, ⟨p.store2 i v h, hb, rfl⟩, R.frame q hg fun k hB hk => d k hk hB⟩
theorem Sat.rowStep {e : TypeId} {sz n n' : Nat} {v v' : Value} {xs xs' : List Value} (s : Sat W (rowA e sz v n xs * R) w) (hg : w.grownBy w' v.ownBlock) (h : w'.ownsRow W.heap.size e sz v' n' xs') (hk : ∀ k, v'.ownBlock = some k → v.ownBlock = some k ∨ w.heap.size ≤ k) : Sat W (rowA e sz v' n' xs' * R) w' := by
 obtain ⟨g, S, A, B, d, e, ⟨p, hA⟩, q⟩ := s
 subst hA
 have hg' : Grew (fun k => v.ownBlock = some k) w w' := grew_of hg fun k hk => .inl hk
 refine ⟨g.trans hg' fun k hk => .inr (p.lt k hk).1, fun k => v'.ownBlock = some k ∨ B k, fun k => v'.ownBlock = some k, B, fun k h1 h2 => ?_, rfl, ⟨h, rfl⟩, R.frame q hg' fun k hB hk => d k hk hB⟩
 rcases hk k h1 with h3 | h3
 ·exact d k h3 h2
 ·have := (R.rng q k h2).2; omega
theorem Sat.alloc_ge (s : Sat W X w) (o : Obj) : Sat W X (w.alloc o) := s.grown (World.grownBy_alloc w o none)
end
end
section
variable {W w w' : World} {P Q R X Y : Asn W.heap.size}
theorem star_left_comm (P Q R : Asn W.heap.size) : P * (Q * R) = Q * (P * R) := by ac_rfl
theorem Sat.swap (s : Sat W (P * (Q * R)) w) : Sat W (Q * (P * R)) w := s.eq (star_left_comm _ _ _)
theorem Sat.cell {b : Nat} {e : TypeId} {cs : List Value} (s : Sat W (blkA b e cs * R) w) (i : Nat) {v : Value} (h : cs[i]? = some v) : w.cell? ⟨b, i, none⟩ = some v := s.blk.cell_eq i h
theorem Sat.frozen {b : Nat} {e : TypeId} {cs : List Value} (s : Sat W (blkA b e cs * R) w) (i : Nat) : w.frozen? ⟨b, i, none⟩ = false := s.blk.frozen i
theorem Sat.drop2 (s : Sat W (P * (Q * R)) w) : Sat W (P * R) w := s.swap.right
end
section
variable {P : Program}
theorem Blk.storeAll {w : World} {b : Nat} {e : TypeId} {cs : List Value} (h : Blk w b e cs) {t : TypeId} {i : TypeInfo} (hi : P.info? t = some i) {o : Nat} {v : Value} {vs : List Value} (hv : v.cells = vs.toArray) (hs : vs.length = i.size) (hfit : o + vs.length ≤ cs.length) (ho : ∀ u ∈ vs, u.oneCell' = true)
  {cs' : List Value} (hcs : cs.take o ++ vs ++ cs.drop (o + vs.length) = cs') : ∃ w', erun P (Zs t (.pointer (some ⟨b, o, none⟩)) v) w = some ((), w') ∧ Blk w' b e cs' ∧ w.grownBy w' (some b) := by
 subst hcs
 have key := run_storeCells_at (P := P) b o e vs 0 cs.toArray w h (by simpa using hfit) ho
 refine ⟨_, erun_of_run ?_, setRow_heap w b cs.toArray _ e (0, 0) h, ⟨rfl, rfl, rfl, by simp [World.setRow], fun k _ hk => ?_⟩⟩
 ·unfold Zs storeVar
  have e1 : (Instr.sureAddr (.pointer (some ⟨b, o, none⟩))).run P w = .ok ⟨b, o, none⟩ w := rfl
  rw [run_ok e1, run_ok (prun_run (prun_sizeOf hi) w), hv]
  simp only [List.size_toArray, hs, ne_eq, not_true_eq_false, if_false]
  have : (do pure PUnit.unit; storeCells ⟨b, o, none⟩ vs : Sem Unit) = storeCells ⟨b, o, none⟩ vs := rfl
  simpa [hs] using key
 ·have hne : b ≠ k := fun e => hk (by rw [e])
  simp [World.setRow, Array.getElem?_modify, hne]
end
theorem own_put {P : Program} {w : World} {base n c sz : Nat} {e : TypeId} {A : Option Addr} {xs : List Value} (h : w.ownsRow base e sz (.slice A n c) n xs) {t : TypeId} {i : TypeInfo} (hi : P.info? t = some i) (hs : i.size = 1) {j : Nat} (hj : j < n * sz) {v : Value} (hv : v.cells = #[v]) (ho : v.oneCell' = true) :
  ∃ a w', A = some a ∧ base ≤ a.block ∧ erun P (Zs t (.pointer (some (a.add j))) v) w = some ((), w') ∧ w'.ownsRow base e sz (.slice A n c) n (xs.set j v) ∧ w.grownBy w' (some a.block) := by
 rcases h.2 with ⟨h1, h2⟩ | ⟨g, cap, cur, hv', hb, _⟩
 ·subst h2; simp at hj
 ·simp only [Value.slice.injEq, true_and] at hv'
  obtain ⟨rfl, rfl⟩ := hv'
  have hx : xs.length = n * sz := h.1
  have hc := h.cellAt j hj
  rw [Yg (by omega)] at hc
  obtain ⟨s1, s2⟩ := h.stored j v
  exact ⟨_, _, rfl, hb, by rw [addL, Nat.zero_add]; exact store_one hi hs hv ho hc (h.frozenAt j), s1, s2⟩
theorem own_putAll {P : Program} {w : World} {base n c sz : Nat} {e : TypeId} {A : Option Addr} {xs : List Value} (h : w.ownsRow base e sz (.slice A n c) n xs) {t : TypeId} {i : TypeInfo} (hi : P.info? t = some i) {j : Nat} {v : Value} {vs : List Value} (hv : v.cells = vs.toArray) (hs : vs.length = i.size) (hj : j + vs.length ≤ n * sz) (hpos : 0 < n) (ho : ∀ u ∈ vs, u.oneCell' = true) :
  ∃ a w', A = some a ∧ base ≤ a.block ∧ erun P (Zs t (.pointer (some (a.add j))) v) w = some ((), w') ∧ w'.ownsRow base e sz (.slice A n c) n (xs.take j ++ vs ++ xs.drop (j + vs.length)) ∧ w.grownBy w' (some a.block) := by
 rcases h.2 with ⟨h1, h2⟩ | ⟨g, cap, cur, hv', hb, hg, hnc, hcm, hcs, htake⟩
 ·omega
 ·simp only [Value.slice.injEq, true_and] at hv'
  obtain ⟨rfl, rfl⟩ := hv'
  have hx : xs.length = n * sz := h.1
  have hle : n * sz ≤ c * sz := Nat.mul_le_mul_right _ hnc
  have hcl : cur.toList.length = c * sz := by rw [Array.length_toList, hcs]
  obtain ⟨w', h1, h2, h3⟩ := Blk.storeAll (P := P) (w := w) (b := g) (e := e) (cs := cur.toList) (by unfold Blk; simpa using hg) hi (o := j) hv hs (by omega) ho rfl
  refine ⟨_, w', rfl, hb, by rw [addL, Nat.zero_add]; exact h1, ⟨?_, .inr ⟨g, c, _, rfl, hb, h2, hnc, hcm, ?_, ?_⟩⟩, h3⟩
  ·simp only [Ya, List.length_take, Ye]; omega
  ·simp only [List.size_toArray, Ya, List.length_take, Ye]; omega
  ·rw [← htake]
   have l1 : (cur.toList.take j).length = j := by rw [List.length_take]; omega
   simp only []
   rw [List.take_append, List.take_of_length_le (by rw [Ya, l1]; omega), Ya, l1, List.take_take, Nat.min_eq_left (by omega), List.drop_take]
theorem Sat.put {P : Program} {W w : World} {X : Asn W.heap.size} {e : TypeId} {sz n : Nat} {v : Value} {xs : List Value} (s : Sat W (rowA e sz v n xs * X) w) {t : TypeId} {i : TypeInfo} (hi : P.info? t = some i) (hs : i.size = 1) {j : Nat} (hj : j < n * sz) {u : Value} (hv : u.cells = #[u]) (ho : u.oneCell' = true) :
  ∃ a c w', v = .slice (some a) n c ∧ erun P (Zs t (.pointer (some (a.add j))) u) w = some ((), w') ∧ Sat W (rowA e sz v n (xs.set j u) * X) w' := by
 obtain ⟨A, c, rfl, hc⟩ := own_form s.row
 obtain ⟨a, w', rfl, _, h1, h2, h3⟩ := own_put (P := P) s.row hi hs hj hv ho
 exact ⟨a, c, w', rfl, h1, s.rowStep h3 h2 fun k hk => .inl hk⟩
section
variable {P : Program} {W w : World} {X : Asn W.heap.size}
theorem Sat.push {t ty e : TypeId} {i : TypeInfo} {z : Value} {size bytes : Nat} (ht : P.underlying t = some (.slice e)) (hi : P.info? e = some i) (hz : i.zero = some z) (hsize : i.size = size) (hby : i.bytes = bytes) (hzs : z.cells.size = size) (hsz : 0 < size)
  {v : Value} {n : Nat} {xs : List Value} (x : Sat W (rowA e size v n xs * X) w) {news : List Value} (hl : news.length = size) (h1 : ∀ u ∈ news, u.oneCell' = true) (hm : n + 1 ≤ maxLen) (hbytes : (n + 1) * bytes ≤ 140737488355328) :
  ∃ v' w', erun P (Builtin.append_ #[t, t] ty #[v, .slice (some ⟨w.heap.size, 0, none⟩) 1 1]) (w.alloc (.cells news.toArray e)) = some (v', w') ∧ Sat W (rowA e size v' (n + 1) (xs ++ news) * X) w' := by
 have x1 := x.alloc_ge (.cells news.toArray e)
 have r1 : Rd (w.alloc (.cells news.toArray e)) (some ⟨w.heap.size, 0, none⟩) news := by
  intro j v hj
  rw [addL, Nat.zero_add, World.cell?_alloc_new]
  simpa using hj
 obtain ⟨v', w', k1, k2, k3, k4⟩ := e_append2 (P := P) (ty := ty) ht hi hz hsize hby hzs hsz x1.row (m := 1) (c := 1) (news := news) (by omega) r1 (fun h => by cases h) h1 hm hbytes x1.size
 exact ⟨v', w', k1, x1.rowStep k3 k2 k4⟩
end
abbrev st (l : List UInt8) : Value := .string ⟨l.toArray⟩
theorem st_size (l : List UInt8) : (⟨l.toArray⟩ : ByteArray).size = l.length := by simp [ByteArray.size]
section
variable {P : Program}
theorem str_len {t : TypeId} (ht : P.underlying t = some .string) (ty : TypeId) (l : List UInt8) : prun P (Builtin.len_ #[t] ty #[st l]) = some (.int .i64 l.length) := by
 rw [len_string ht, st_size]
theorem str_index {t : TypeId} (ht : P.underlying t = some .string) (l : List UInt8) (k : IntKind) (i : Nat) (h : i < l.length) : prun P (Instr.index t (st l) (.int k i)) = some (.int .u8 (l[i]).toNat) := by
 have e : (⟨l.toArray⟩ : ByteArray)[i]? = some l[i] := by
  rw [getElem?_pos _ _ (by simpa [ByteArray.size] using h)]
  rfl
 unfold Instr.index
 have h0 : (0 : Int) ≤ i := by omega
 simp [prun_bind, prun_underlying ht, asIntOf, h0, e]
theorem str_slice {t : TypeId} (ht : P.underlying t = some .string) (s : ByteArray) (lo hi : Option Value) (l h m : Nat) (hb : prun P (Instr.sliceBounds false s.size s.size lo hi none) = some (l, h, m)) : prun P (Zc t (.string s) lo hi none) = some (.string (s.extract l h)) := by
 unfold Zc
 simp only [prun_bind, prun_underlying ht, Option.bind_some]
 unfold Instr.slice
 simp [prun_bind, prun_underlying ht, hb]
theorem toList_st (l : List UInt8) : (⟨l.toArray⟩ : ByteArray).toList = l := by
 rw [show (⟨l.toArray⟩ : ByteArray).toList = (⟨l.toArray⟩ : ByteArray).data.toList from by simp]
theorem st_extract (l : List UInt8) (i j : Nat) : (⟨l.toArray⟩ : ByteArray).extract i j = ⟨((l.drop i).take (j - i)).toArray⟩ := by
 apply ByteArray.ext
 simp [ByteArray.data_extract]
theorem str_from {t : TypeId} (ht : P.underlying t = some .string) (l : List UInt8) (k : IntKind) (i : Nat) (h : i ≤ l.length) : prun P (Zc t (st l) (some (.int k i)) none none) = some (st (l.drop i)) := by
 rw [str_slice ht _ _ _ i l.length l.length, st_extract, List.take_of_length_le (by simp)]
 unfold Instr.sliceBounds
 rw [st_size]
 simp [prun_bind, bound_ok k i l.length _ (by omega) (by omega)]
theorem str_part {t : TypeId} (ht : P.underlying t = some .string) (l : List UInt8) (k k' : IntKind) (i j : Nat) (h : i ≤ j) (h' : j ≤ l.length) : prun P (Zc t (st l) (some (.int k i)) (some (.int k' j)) none) = some (st ((l.drop i).take (j - i))) := by
 rw [str_slice ht _ _ _ i j l.length, st_extract]
 unfold Instr.sliceBounds
 rw [st_size]
 simp [prun_bind, bound_ok k' j l.length _ (by omega) (by omega), bound_ok k i j _ (by omega) (by omega)]
theorem str_add {t : TypeId} (ht : P.underlying t = some .string) (x y : Operand) (a b : List UInt8) (h : a.length + b.length ≤ 9223372036854775807) : prun P (do eqGuard .add t x y (st a) (st b); binOp .add t (st a) (st b)) = some (st (a ++ b)) := by
 have h1 : ¬ (9223372036854775807 : Int) < (a.length : Int) + (b.length : Int) := by omega
 have e : (⟨a.toArray⟩ ++ ⟨b.toArray⟩ : ByteArray) = ⟨(a ++ b).toArray⟩ := by
  apply ByteArray.ext
  simp
 simp [eqGuard, binOp, Op.stringOp, IntKind.max, IntKind.signed, IntKind.bits]
 rw [st_size, st_size, if_neg h1, e]
 rfl
theorem str_eql {t : TypeId} (x y : Operand) (a b : List UInt8) : prun P (do eqGuard .eql t x y (st a) (st b); binOp .eql t (st a) (st b)) = some (.bool (decide (a = b))) := by
 have key : prun P (Op.stringOp .eql ⟨a.toArray⟩ ⟨b.toArray⟩) = some (.bool (decide (a = b))) := by
  simp only [Op.stringOp, toList_st]
  by_cases hab : a = b
  ·simp [hab]
  ·simp [hab]
 simpa [eqGuard, binOp, Op.equal, Op.maxDepth] using key
theorem str_neq {t : TypeId} (x y : Operand) (a b : List UInt8) : prun P (do eqGuard .neq t x y (st a) (st b); binOp .neq t (st a) (st b)) = some (.bool (decide (a ≠ b))) := by
 have key : prun P (Op.stringOp .neq ⟨a.toArray⟩ ⟨b.toArray⟩) = some (.bool (decide (a ≠ b))) := by
  simp only [Op.stringOp, toList_st]
  by_cases hab : a = b
  ·simp [hab]
  ·simp [hab]
 simpa [eqGuard, binOp, Op.equal, Op.maxDepth] using key
theorem str_range {t : TypeId} (ht : P.underlying t = some .string) (s : ByteArray) (w : World) : erun P (Instr.range t (.string s)) w = some (.pointer (some ⟨w.heap.size, 0, none⟩), w.alloc (.stringIter s 0)) := by
 apply erun_of_run
 unfold Instr.range
 rw [run_ok (prun_run (prun_underlying ht) w)]
 rfl
end
def iterA {base : Nat} (r : Nat) (s : ByteArray) (pos : Nat) : Asn base := ⟨fun S w => w.heap[r]? = some (.stringIter s pos) ∧ base ≤ r ∧ S = fun k => k = r,
 fun ⟨h, h2, h3⟩ hg hs => ⟨(hg.block r (Array.getElem?_eq_some_iff.mp h).1 (hs r (by rw [h3]))).trans h, h2, h3⟩,
 fun ⟨h, h2, h3⟩ k hk => by rw [h3] at hk; cases hk; exact ⟨h2, (Array.getElem?_eq_some_iff.mp h).1⟩⟩
section
variable {P : Program} {W w : World} {X : Asn W.heap.size} {r : Nat} {s : ByteArray} {pos : Nat}
theorem Sat.newIter (x : Sat W X w) (s : ByteArray) : Sat W (iterA w.heap.size s 0 * X) (w.alloc (.stringIter s 0)) := by
 obtain ⟨g, S, x⟩ := x
 have ga := World.grownBy_alloc w (.stringIter s 0) none
 exact ⟨g.step (grew_new ga), fun k => k = w.heap.size ∨ S k, fun k => k = w.heap.size, S, fun k hk hs => by have := (X.rng x k hs).2; omega, rfl, ⟨heap_alloc_new w _, g.size, rfl⟩, X.frame x (grew_new (S := fun _ => False) ga) fun k _ h => h⟩
theorem Sat.iterEnd (x : Sat W (iterA r s pos * X) w) (ty : TypeId) (h : ¬ pos < s.size) : erun P (Instr.next (.pointer (some ⟨r, 0, none⟩)) true ty) w = some (.tuple #[.bool false], w) := by
 obtain ⟨g, S, hr, _⟩ := x.left
 apply erun_of_run
 simp [Instr.next, getObj, Sem.run, hr, h]
theorem Sat.iterNext (x : Sat W (iterA r s pos * X) w) (ty : TypeId) (h : pos < s.size) : ∃ w', erun P (Instr.next (.pointer (some ⟨r, 0, none⟩)) true ty) w = some (.tuple #[.bool true, .int .i64 pos, .int .i32 (Utf8.decode s pos).1], w') ∧ Sat W (iterA r s (pos + (Utf8.decode s pos).2) * X) w' := by
 obtain ⟨g, S, A, B, d, e, ⟨hr, hb, hA⟩, q⟩ := x
 subst hA
 have hlt := (Array.getElem?_eq_some_iff.mp hr).1
 obtain ⟨w', hw'⟩ : ∃ w', w' = { w with heap := w.heap.setIfInBounds r (.stringIter s (pos + (Utf8.decode s pos).2)) } := ⟨_, rfl⟩
 have hg : Grew (fun k => k = r) w w' := by
  subst hw'
  refine ⟨rfl, rfl, rfl, by simp, fun k _ hk => ?_⟩
  have : r ≠ k := fun e => hk e.symm
  simp [Array.getElem?_setIfInBounds, this]
 refine ⟨w', erun_of_run ?_, g.trans hg fun k hk => .inr (hk ▸ hb), fun k => k = r ∨ B k, fun k => k = r, B, d, rfl, ⟨?_, hb, rfl⟩, X.frame q hg fun k hB hk => d k hk hB⟩
 ·subst hw'
  simp [Instr.next, getObj, setObj, Sem.run, hr, h, goInt, Result.andThen]
 ·subst hw'
  simp [Array.getElem?_setIfInBounds, hlt]
end
open Go
section
variable {P : Program} {call : CallF} {all : List Oper} {L : List Ent} {a0 : Act} {w0 : World}
theorem order_step (hF : Flat P all) {nt : Nat} (hreg : regionOk nt all = true) (hnt : nt ≤ a0.tmps.size) {a' : Act} {w' : World} (hL : LexRun P call all all a0 w0 L a' w')
  (hchk : ∀ i m, (i, m) ∈ loose P all → ∃ x y, L[i]? = some x ∧ L[m]? = some y ∧ x.chk y.before ∧ x.chk y.after)
  (listed : Array Bool) (b : Act) (W : World) (hs : listed.size = all.length) (hcl : Closed all (fun j => listed.getD j false = true))
  (h1 : SlotsAt all L a0 (fun j => listed.getD j false = true) b) (h2 : WorldOf P all L w0 (fun j => listed.getD j false = true) W) (i : Nat) (hi : i ∈ Region.ready .any all.toArray listed) :
  ∃ o x W', all[i]? = some o ∧ L[i]? = some x ∧ Region.wanted o (yielded all.toArray b.tmps) = x.g ∧ (x.g = true → Exec3 P call o b W x.v W') ∧ (x.g = false → x.v = undef ∧ W' = W) ∧ (quietOp P o.op = true → W' = W) ∧
   Closed all (fun j => (listed.setIfInBounds i true).getD j false = true) ∧ SlotsAt all L a0 (fun j => (listed.setIfInBounds i true).getD j false = true) (b.put o.dst x.v) ∧ WorldOf P all L w0 (fun j => (listed.setIfInBounds i true).getD j false = true) W' := by
 obtain ⟨hlen, _⟩ := lex_split _ _ _ _ _ _ hL
 have hin : ∀ (listed : Array Bool) j, listed.size = all.length → listed.getD j false = true → j < all.length := by
  intro listed j hs h
  rcases Nat.lt_or_ge j listed.size with h' | h'
  ·omega
  ·simp [Array.getElem?_eq_none h'] at h
 have hgd : ∀ (listed : Array Bool) j, listed.size = all.length → j < all.length → listed.getD j true = listed.getD j false := by
  intro listed j hs hj
  simp [show j < listed.size by omega]
 obtain ⟨hun, o, ho', hdep'⟩ := mem_ready.mp hi
 have ho : all[i]? = some o := by simpa using ho'
 have hil : i < all.length := (List.getElem?_eq_some_iff.mp ho).1
 have hdep : Deps all (fun j => listed.getD j false = true) i := fun q hq e he hb => by
  rw [ho] at hq; cases hq
  exact hdep' e (by simpa using he) hb
 have hunF : listed.getD i false = false := by rw [← hgd listed i hs hil]; exact hun
 have hx : L[i]? = some (L[i]'(by omega)) := Yg (by omega)
 obtain ⟨bi, vi, l1, l2, l3⟩ := lex_at hF hreg hnt hL i (by omega)
 rw [List.drop_eq_getElem_cons hil, List.drop_eq_getElem_cons (by omega : i < L.length)] at l1
 have hoe : all[i] = o := Option.some.inj ((Yg hil).symm.trans ho)
 rw [hoe] at l1
 obtain ⟨e1, e2, e3, _⟩ := l1
 generalize L[i]'(by omega) = x at hx e1 e2 e3
 subst e1 e2
 have ancIn := anc_in hF.back hcl
 have ancLt : ∀ k j, k < all.length → ((ancs all).getD k 0).testBit j = true → j < k := fun k j hk hb =>
  (anc_in hF.back (S := fun _ => True) (fun _ _ _ _ _ _ _ => trivial) k hk (fun _ _ _ _ _ => trivial) j hb).2
 have notAnc : ∀ m, listed.getD m false = true → ((ancs all).getD m 0).testBit i = false := by
  intro m hm
  cases hb : ((ancs all).getD m 0).testBit i with
  | false => rfl
  | true =>
   have hml := hin listed m hs hm
   have := (ancIn m hml (fun q hq e he hb => hcl m q hm hq e he hb) i hb).1
   rw [hunF] at this
   cases this
 have iAnc : ∀ m, ((ancs all).getD i 0).testBit m = true → listed.getD m false = true := fun m hm => (ancIn i hil hdep m hm).1
 -- the slots that it looks at are as in the text's order
 have same : ∀ t ∈ looks all o, b.tmps[t]? = x.act.tmps[t]? := by
  intro t ht
  by_cases hw : ∃ (j : Nat) (q : Oper), all[j]? = some q ∧ q.dst = some t
  ·obtain ⟨j, q, hq, hqt⟩ := hw
   have hjl : j < all.length := (List.getElem?_eq_some_iff.mp hq).1
   have sole : ∀ (k : Nat) (z : Oper), all[k]? = some z → k ≠ j → z.dst ≠ some t := fun k z hz hk => hF.one k j z q t hz hq (Ne.symm hk) hqt
   have none_of : ∀ (T : Nat → Prop) (c : Act), SlotsAt all L a0 T c → ¬ T j → c.tmps[t]? = a0.tmps[t]? := fun T c hc hj => hc.old t fun k z hk hz => by
    by_cases hkj : k = j
    ·subst hkj; exact absurd hk hj
    ·exact sole k z hz hkj
   have some_of : ∀ (T : Nat → Prop) (c : Act), SlotsAt all L a0 T c → T j → c.tmps[t]? = some (L[j]'(by omega)).v := fun T c hc hj =>
    hc.done j q _ t hj hq (Yg (by omega)) hqt
   by_cases hji : j = i
   ·subst hji
    rw [none_of _ _ h1 (by simp [hunF]), none_of _ _ l2 (by omega)]
   ·rcases hF.look i j o q t ho hq hji hqt ht with ha | ha
    ·rw [some_of _ _ h1 (iAnc j ha), some_of _ _ l2 (ancLt i j hil ha)]
    ·have hij := ancLt j i hjl ha
     rw [none_of _ _ h1 (fun hj => by rw [notAnc j hj] at ha; cases ha), none_of _ _ l2 (by omega)]
  ·have no : ∀ (T : Nat → Prop) (c : Act), SlotsAt all L a0 T c → c.tmps[t]? = a0.tmps[t]? := fun T c hc => hc.old t fun k z _ hz hzt => hw ⟨k, z, hz, hzt⟩
   rw [no _ _ h1, no _ _ l2]
 have hex : execOp b.eval o = execOp x.act.eval o := by
  refine execOp_congr o (fun cs bb => hF.sel i o cs bb ho) fun y hy => ?_
  cases y with
  | tmp t =>
   have : t ∈ looks all o := List.mem_append_left _ (List.mem_filterMap.mpr ⟨.tmp t, by simpa using hy, rfl⟩)
   simp only [Act.eval, Array.getD_eq_getD_getElem?, same t this]
  | _ => rfl
 have hwant : Region.wanted o (yielded all.toArray b.tmps) = x.g := by
  rw [← e3.want]
  unfold Region.wanted
  cases hg : o.guard with
  | none => rfl
  | some jw =>
   obtain ⟨j, want⟩ := jw
   obtain ⟨_, d, hd⟩ := (regionOk_spec hreg ho).2 j want hg
   simp only [yielded_of hd]
   have : d ∈ looks all o := List.mem_append_right _ (by simp [hg, hd.1])
   rw [same d this]
 have conv : ∀ {W v W'}, Exec3 P call o x.act W v W' → Exec3 P call o b W v W' := by
  intro W v W' h
  unfold Exec3 at *
  rw [hex]
  exact h
 have hT : (fun j => (listed.setIfInBounds i true).getD j false = true) = (fun j => listed.getD j false = true ∨ j = i) := by
  funext j
  refine propext ⟨fun h => ?_, fun h => ?_⟩
  ·by_cases hji : j = i
   ·exact .inr hji
   ·rw [getD_set_ne false (Ne.symm hji)] at h; exact .inl h
  ·rcases h with h | rfl
   ·exact getD_set_true h
   ·simp [show j < listed.size by omega]
 have hcl' : Closed all (fun j => (listed.setIfInBounds i true).getD j false = true) := by
  rw [hT]
  intro k q hk hq e he hb
  rcases hk with hk | rfl
  ·exact .inl (hcl k q hk hq e he hb)
  ·exact .inl (hdep q hq e he hb)
 have hslots : SlotsAt all L a0 (fun j => (listed.setIfInBounds i true).getD j false = true) (b.put o.dst x.v) := by
  rw [hT]
  exact h1.put ho hx (fun j q d hq hj hd => hF.one i j o q d ho hq hj hd) hnt (regionOk_spec hreg ho).1
 by_cases he : Eff P all i
 ·-- it may change the world: all such ahead of it are done, none behind it
  have hW : W = x.before := by
   refine h2.same l3 fun m hm => ⟨fun h => ?_, fun h => ?_⟩
   ·have hmi : m ≠ i := fun h' => by subst h'; rw [hunF] at h; cases h
    rcases hF.chain m i hm he hmi with ha | ha
    ·rw [notAnc m h] at ha; cases ha
    ·exact ancLt i m hil ha
   ·have hmi : m ≠ i := by omega
    have hm' := hm
    obtain ⟨q, hq, _⟩ := hm
    have hml : m < all.length := (List.getElem?_eq_some_iff.mp hq).1
    rcases hF.chain m i hm' he hmi with ha | ha
    ·have := ancLt m i hml ha; omega
    ·exact iAnc m ha
  subst hW
  have hlt : ∀ m, listed.getD m false = true → Eff P all m → m < i := by
   intro m h hm
   have hmi : m ≠ i := fun h' => by subst h'; rw [hunF] at h; cases h
   rcases hF.chain m i hm he hmi with ha | ha
   ·rw [notAnc m h] at ha; cases ha
   ·exact ancLt i m hil ha
  have hnext : WorldOf P all L w0 (fun j => (listed.setIfInBounds i true).getD j false = true) x.after := by rw [hT]; exact WorldOf.eff he hlt hx
  refine ⟨o, x, x.after, ho, hx, hwant, fun hg => conv (e3.exec hg), fun hg => e3.none hg, fun hq => e3.quiet hq, hcl', hslots, hnext⟩
 ·have hq : quietOp P o.op = true := by
   cases hq : quietOp P o.op with
   | true => rfl
   | false => exact absurd ⟨o, ho, hq⟩ he
  have hnext : WorldOf P all L w0 (fun j => (listed.setIfInBounds i true).getD j false = true) W := by rw [hT]; exact h2.quiet he
  refine ⟨o, x, W, ho, hx, hwant, fun hg => ?_, fun hg => ⟨(e3.none hg).1, rfl⟩, fun _ => rfl, hcl', hslots, hnext⟩
  ·refine conv ?_
   cases hp : pureOp P o.op with
   | true => exact e3.pure hg hp W
   | false =>
    -- it reads
    have ck : ∀ m, Eff P all m → ((ancs all).getD i 0).testBit m = false → ((ancs all).getD m 0).testBit i = false → ∃ y, L[m]? = some y ∧ x.chk y.before ∧ x.chk y.after := by
     intro m ⟨q, hq1, hq2⟩ b1 b2
     obtain ⟨x', y, c1, c2, c3, c4⟩ := hchk i m (loose_mem ho hq1 hq hp hq2 b1 b2)
     rw [hx] at c1; cases c1
     exact ⟨y, c2, c3, c4⟩
    by_cases hbig : ∃ m, listed.getD m false = true ∧ Eff P all m ∧ i < m
    ·-- one behind it is done already: the world is what the last of them left
     obtain ⟨m, m1, m2, m3⟩ := hbig
     rcases h2 with ⟨M, y, y1, y2, y3, y4, rfl⟩ | ⟨y1, _⟩
     ·have hMi : i < M := Nat.lt_of_lt_of_le m3 (y3 m m1 m2)
      have hMl := hin listed M hs y1
      obtain ⟨y', c1, _, c3⟩ := ck M y2 (by
       cases hb : ((ancs all).getD i 0).testBit M with
       | false => rfl
       | true => have := ancLt i M hil hb; omega) (notAnc M y1)
      rw [y4] at c1; cases c1
      exact e3.chk hg hq _ c3
     ·exact absurd m2 (y1 m m1)
    ·have hsmall : ∀ m, listed.getD m false = true → Eff P all m → m < i := by
      intro m h hm
      rcases Nat.lt_trichotomy m i with h' | h' | h'
      ·exact h'
      ·subst h'; rw [hunF] at h; cases h
      ·exact absurd ⟨m, h, hm, h'⟩ hbig
     by_cases hall : ∀ m, m < i → Eff P all m → listed.getD m false = true
     ·have hW : W = x.before := h2.same l3 fun m hm => ⟨fun h => hsmall m h hm, fun h => hall m h hm⟩
      subst hW
      have := e3.exec hg
      rw [e3.quiet hq] at this
      exact this
     ·-- one ahead of it is not done yet: the least of them has still the world of now ahead of it
      have hex2 : ∃ m, m < i ∧ Eff P all m ∧ listed.getD m false = false := by
       refine Classical.byContradiction fun hn => hall fun m hm he => ?_
       cases hl : listed.getD m false with
       | true => rfl
       | false => exact absurd ⟨m, hm, he, hl⟩ hn
      have least : ∃ m, (m < i ∧ Eff P all m ∧ listed.getD m false = false) ∧ ∀ k, k < m → ¬ (k < i ∧ Eff P all k ∧ listed.getD k false = false) := by
       obtain ⟨m, hm⟩ := hex2
       induction m using Nat.strongRecOn with
       | _ m ihm =>
        by_cases hk : ∃ k, k < m ∧ (k < i ∧ Eff P all k ∧ listed.getD k false = false)
        ·obtain ⟨k, k1, k2⟩ := hk
         exact ihm k k1 k2
        ·exact ⟨m, hm, fun k k1 k2 => hk ⟨k, k1, k2⟩⟩
      obtain ⟨m, ⟨m1, m2, m3⟩, m4⟩ := least
      have hml : m < all.length := by omega
      obtain ⟨y, c1, c2, _⟩ := ck m m2 (by
       cases hb : ((ancs all).getD i 0).testBit m with
       | false => rfl
       | true => have := iAnc m hb; rw [m3] at this; cases this) (by
       cases hb : ((ancs all).getD m 0).testBit i with
       | false => rfl
       | true => have := ancLt m i hml hb; omega)
      obtain ⟨bm, vm, n1, _, n3⟩ := lex_at hF hreg hnt hL m (by omega)
      rw [List.drop_eq_getElem_cons hml, List.drop_eq_getElem_cons (by omega : m < L.length)] at n1
      obtain ⟨_, n2, _, _⟩ := n1
      have hym : L[m]'(by omega) = y := Option.some.inj ((Yg (by omega)).symm.trans c1)
      rw [hym] at n2
      have hW : W = y.before := by
       rw [n2]
       refine h2.same n3 fun k hk => ⟨fun h => ?_, fun h => ?_⟩
       ·have hkm : k ≠ m := fun h' => by subst h'; rw [m3] at h; cases h
        rcases hF.chain k m hk m2 hkm with ha | ha
        ·have hkl := hin listed k hs h
         have := (ancIn k hkl (fun q hq e he hb => hcl k q h hq e he hb) m ha).1
         rw [m3] at this
         cases this
        ·exact ancLt m k hml ha
       ·cases hl : listed.getD k false with
        | true => rfl
        | false => exact absurd ⟨by omega, hk, hl⟩ (m4 k h)
      rw [hW]
      exact e3.chk hg hq _ c2
end
structure Turn (ops all : List Oper) (σ : Nat → Nat) : Prop where
 len : all.length = ops.length
 lt : ∀ i, i < ops.length → σ i < ops.length
 inj : ∀ i j, i < ops.length → j < ops.length → σ i = σ j → i = j
 onto : ∀ k, k < ops.length → ∃ i, i < ops.length ∧ σ i = k
 same : ∀ (i : Nat) (o : Oper), ops[i]? = some o → ∃ o', all[σ i]? = some o' ∧ o' = { o with after := o'.after, guard := o.guard.map fun g => (σ g.1, g.2) }
 guard : ∀ (i : Nat) (o : Oper) g, ops[i]? = some o → o.guard = some g → g.1 < ops.length
section
variable {P : Program} {call : CallF} {ops all : List Oper} {σ : Nat → Nat}
theorem Turn.wanted (h : Turn ops all σ) {i : Nat} {o o' : Oper} (ho : ops[i]? = some o) (ho' : all[σ i]? = some o') (tmps : Array Value) : Region.wanted o' (yielded all.toArray tmps) = Region.wanted o (yielded ops.toArray tmps) := by
 obtain ⟨o2, h1, h2⟩ := h.same i o ho
 rw [ho'] at h1
 cases h1
 have hg : o'.guard = o.guard.map fun g => (σ g.1, g.2) := by rw [h2]
 unfold Region.wanted
 rw [hg]
 cases hh : o.guard with
 | none => rfl
 | some g =>
  obtain ⟨j, want⟩ := g
  have hj := h.guard i o _ ho hh
  have hq : ops[j]? = some ops[j] := Yg hj
  obtain ⟨q', k1, k2⟩ := h.same j _ hq
  have hd : q'.dst = ops[j].dst := by rw [k2]
  simp only [Option.map_some, yielded, List.getElem?_toArray, k1, hq, Option.bind_some, hd]
theorem Turn.exec (h : Turn ops all σ) {i : Nat} {o o' : Oper} (ho : ops[i]? = some o) (ho' : all[σ i]? = some o') : o'.dst = o.dst ∧ o'.op = o.op ∧ ∀ (f : Operand → Value), execOp f o' = execOp f o := by
 obtain ⟨o2, h1, h2⟩ := h.same i o ho
 rw [ho'] at h1
 cases h1
 refine ⟨by rw [h2], by rw [h2], fun f => ?_⟩
 rw [h2]
 rfl
def Lst (n : Nat) (σ : Nat → Nat) (listed listed' : Array Bool) : Prop := listed.size = n ∧ listed'.size = n ∧ ∀ i, i < n → listed'.getD (σ i) false = listed.getD i false
theorem Lst.step {n : Nat} {listed listed' : Array Bool} (hlt : ∀ i, i < n → σ i < n) (hinj : ∀ i j, i < n → j < n → σ i = σ j → i = j) (h : Lst n σ listed listed') {i : Nat} (hi : i < n) : Lst n σ (listed.setIfInBounds i true) (listed'.setIfInBounds (σ i) true) := by
 obtain ⟨h1, h2, h3⟩ := h
 refine ⟨by simpa using h1, by simpa using h2, fun j hj => ?_⟩
 by_cases hij : i = j
 ·subst hij
  have a := hlt i hi
  simp [Array.getD_eq_getD_getElem?, Array.getElem?_setIfInBounds, h1, h2, hi, a]
 ·have hne : σ i ≠ σ j := fun e => hij (hinj i j hi hj e)
  rw [getD_set_ne false hij, getD_set_ne false hne]
  exact h3 j hj
theorem all_listed {n : Nat} {listed : Array Bool} (hn : ops.length = n) (hs : listed.size = n) (hback : ∀ (i : Nat) (o : Oper), ops[i]? = some o → ∀ e ∈ o.after.toList, Region.binds .any e = true → e.on < i)
  (hr : Region.ready .any ops.toArray listed = []) : ∀ j, j < n → listed.getD j false = true := by
 have hgd : ∀ j, j < n → listed.getD j true = listed.getD j false := by
  intro j hj
  simp [show j < listed.size by omega]
 intro j
 induction j using Nat.strongRecOn with
 | _ j ih =>
  intro hj
  cases hl : listed.getD j false with
  | true => rfl
  | false =>
   have ho : ops[j]? = some (ops[j]'(by omega)) := Yg (by omega)
   have : j ∈ Region.ready .any ops.toArray listed := mem_ready.mpr ⟨by rw [hgd j hj]; exact hl, ops[j]'(by omega), by simp [ho], fun e he hb => by
    have hlt := hback j _ ho e (by simpa using he) hb
    exact ih e.on hlt (by omega)⟩
   rw [hr] at this
   cases this
section
variable {L : List Ent} {a0 : Act} {w0 : World}
theorem one_order (hc : CallOk P call) (T : Turn ops all σ) (hback : ∀ (i : Nat) (o : Oper), ops[i]? = some o → ∀ e ∈ o.after.toList, Region.binds .any e = true → e.on < i)
  (hF : Flat P all) {nt : Nat} (hreg : regionOk nt all = true) (hnt : nt ≤ a0.tmps.size) {a' : Act} {w' : World} (hL : LexRun P call all all a0 w0 L a' w')
  (hchk : ∀ i m, (i, m) ∈ loose P all → ∃ x y, L[i]? = some x ∧ L[m]? = some y ∧ x.chk y.before ∧ x.chk y.after)
  {Q : Exit → Act → World → Prop} (hQ : ∀ b W, SlotsAt all L a0 (fun j => j < all.length) b → WorldOf P all L w0 (fun j => j < all.length) W → Q .normal b W)
  {c : Nat} (hcl : c < ops.length) (hready : ∀ listed listed', Lst ops.length σ listed listed' → listed.getD c false = true → ∀ i, i ∈ Region.ready .any ops.toArray listed → σ i ∈ Region.ready .any all.toArray listed') :
  ∀ (fuel : Nat) (listed listed' : Array Bool) (b : Act) (W : World), Lst ops.length σ listed listed' → listed.getD c false = true → un listed ops.length = fuel → Closed all (fun j => listed'.getD j false = true) →
   SlotsAt all L a0 (fun j => listed'.getD j false = true) b → WorldOf P all L w0 (fun j => listed'.getD j false = true) W → wpAny P .any ops.toArray Q fuel listed b W := by
 have hfin : ∀ (listed listed' : Array Bool) (b : Act) (W : World), Lst ops.length σ listed listed' → (∀ j, j < ops.length → listed.getD j false = true) →
   SlotsAt all L a0 (fun j => listed'.getD j false = true) b → WorldOf P all L w0 (fun j => listed'.getD j false = true) W → Q .normal b W := by
  intro listed listed' b W hl hall h1 h2
  have : (fun j => listed'.getD j false = true) = (fun j => j < all.length) := by
   funext j
   refine propext ⟨fun h => ?_, fun h => ?_⟩
   ·rcases Nat.lt_or_ge j listed'.size with h' | h'
    ·have := hl.2.1; have := T.len; omega
    ·simp [Array.getElem?_eq_none h'] at h
   ·rw [T.len] at h
    obtain ⟨i, hi, rfl⟩ := T.onto j h
    rw [hl.2.2 i hi]
    exact hall i hi
  rw [this] at h1 h2
  exact hQ b W h1 h2
 intro fuel
 induction fuel with
 | zero =>
  intro listed listed' b W hl hcd hu hcl' h1 h2
  have hgd : ∀ j, j < ops.length → listed.getD j true = listed.getD j false := by
   intro j hj
   simp [show j < listed.size by have := hl.1; omega]
  have hall : ∀ j, j < ops.length → listed.getD j false = true := fun j hj => by rw [← hgd j hj]; exact un_zero _ hu j hj
  refine ⟨?_, hfin listed listed' b W hl hall h1 h2⟩
  cases hr : Region.ready .any ops.toArray listed with
  | nil => rfl
  | cons j r =>
   have hj : j ∈ Region.ready .any ops.toArray listed := by rw [hr]; simp
   obtain ⟨h3, o, ho, _⟩ := mem_ready.mp hj
   have hjl : j < ops.length := (List.getElem?_eq_some_iff.mp (by simpa using ho)).1
   rw [hgd j hjl, hall j hjl] at h3
   cases h3
 | succ fuel ih =>
  intro listed listed' b W hl hcd hu hcl' h1 h2
  refine ⟨fun hr => hfin listed listed' b W hl (all_listed rfl hl.1 hback hr) h1 h2, fun i hi => ?_⟩
  obtain ⟨hun, o, ho', hdep'⟩ := mem_ready.mp hi
  have ho : ops[i]? = some o := by simpa using ho'
  have hil : i < ops.length := (List.getElem?_eq_some_iff.mp ho).1
  obtain ⟨o2, x, W', k1, k2, k3, k4, k5, k6, k7, k8, k9⟩ := order_step hF hreg hnt hL hchk listed' b W (by rw [hl.2.1, T.len]) hcl' h1 h2 (σ i) (hready listed listed' hl hcd i hi)
  obtain ⟨d1, d2, d3⟩ := T.exec ho k1
  rw [T.wanted ho k1] at k3
  rw [d1] at k8
  have hst : Lst ops.length σ (listed.setIfInBounds i true) (listed'.setIfInBounds (σ i) true) := hl.step T.lt T.inj hil
  have hcd' : (listed.setIfInBounds i true).getD c false = true := by
   by_cases hic : i = c
   ·subst hic
    have := hl.1
    simp [Array.getD_eq_getD_getElem?, Array.getElem?_setIfInBounds, this, hil]
   ·rw [getD_set_ne false hic]; exact hcd
  have hnext := ih (listed.setIfInBounds i true) (listed'.setIfInBounds (σ i) true) (b.put o.dst x.v) W' hst hcd' (by
   have := un_set hun ops.length hil
   omega) k7 k8 k9
  unfold wpOp
  simp only [ho', k3]
  cases hg : x.g with
  | true =>
   simp only [if_true]
   refine .inl (exec_wp hc (v := x.v) (w' := W') ?_ _ hnext)
   have e := k4 hg
   unfold Exec3 at e ⊢
   rw [d3] at e
   exact e
  | false =>
   simp only [Bool.false_eq_true, if_false]
   obtain ⟨g1, g2⟩ := k5 hg
   rw [g1, g2] at hnext
   exact hnext
end
theorem Exec3.one {P : Program} {call : CallF} {o o' : Oper} {b : Act} {W : World} {v v' : Value} {W1 W2 : World} (he : ∀ (f : Operand → Value), execOp f o' = execOp f o) (h : Exec3 P call o b W v W1) (h' : Exec3 P call o' b W v' W2) : v = v' := by
  unfold Exec3 at h h'
  rw [he] at h'
  rcases h with h | ⟨h, rfl⟩ | ⟨f, args, h, hf⟩ <;> rcases h' with h' | ⟨h', rfl⟩ | ⟨f', args', h', hf'⟩ <;> rw [h] at h' <;> cases h' <;> first
    | rfl
    | (rw [hf] at hf'
       cases hf'
       rfl)
end
theorem Exec3.world {P : Program} {call : CallF} {o o' : Oper} {b : Act} {W : World} {v v' : Value} {W1 W2 : World} (he : ∀ (f : Operand → Value), execOp f o' = execOp f o) (h : Exec3 P call o b W v W1) (h' : Exec3 P call o' b W v' W2) : v = v' ∧ W1 = W2 := by
  unfold Exec3 at h h'
  rw [he] at h'
  rcases h with h | ⟨h, rfl⟩ | ⟨f, args, h, hf⟩ <;> rcases h' with h' | ⟨h', rfl⟩ | ⟨f', args', h', hf'⟩ <;> rw [h] at h' <;> cases h' <;> first
    | exact ⟨rfl, rfl⟩
    | (rw [hf] at hf'
       cases hf'
       exact ⟨rfl, rfl⟩)
theorem getD_set_self {listed : Array Bool} {i : Nat} (hi : i < listed.size) : (listed.setIfInBounds i true).getD i false = true := by
 simp [Array.getD_eq_getD_getElem?, Array.getElem?_setIfInBounds, hi]
theorem some_place (cs : List Nat) (listed : Array Bool) : ∃ j, j ≤ cs.length ∧ (∀ c, 1 ≤ j → cs[j - 1]? = some c → listed.getD c false = true) ∧ ∀ c, cs[j]? = some c → listed.getD c false = false := by
 have key : ∀ n, n ≤ cs.length → (∀ x c, n ≤ x → cs[x]? = some c → listed.getD c false = false) → ∃ j, j ≤ n ∧ (∀ c, 1 ≤ j → cs[j - 1]? = some c → listed.getD c false = true) ∧ ∀ c, cs[j]? = some c → listed.getD c false = false := by
  intro n
  induction n with
  | zero => intro _ h; exact ⟨0, Nat.le_refl _, fun c h1 => absurd h1 (by omega), fun c h1 => h 0 c (Nat.le_refl _) h1⟩
  | succ n ih =>
   intro hn h
   have h4 : cs[n]? = some (cs[n]'(by omega)) := Yg (by omega)
   cases hl : listed.getD (cs[n]'(by omega)) false with
   | true => exact ⟨n + 1, Nat.le_refl _, fun c _ h2 => by rw [Nat.add_sub_cancel, h4] at h2; cases h2; exact hl, fun c h1 => h (n + 1) c (Nat.le_refl _) h1⟩
   | false =>
    obtain ⟨j, j1, j2, j3⟩ := ih (by omega) (fun x c hx hc => by
     rcases Nat.eq_or_lt_of_le hx with rfl | hx
     ·rw [h4] at hc; cases hc; exact hl
     ·exact h x c hx hc)
    exact ⟨j, by omega, j2, j3⟩
 exact key cs.length (Nat.le_refl _) (fun x c hx hc => absurd (List.getElem?_eq_some_iff.mp hc).1 (by omega))
def Nxt (cs : List Nat) (a j i : Nat) (listed : Array Bool) : Prop :=
 (∀ c, 1 ≤ j → cs[j - 1]? = some c → i = a → listed.getD c false = true) ∧ (∀ c, cs[j]? = some c → i = c → listed.getD a false = true)
section
variable {P : Program} {call : CallF} {ops : List Oper} {a0 : Act} {w0 : World}
theorem many_orders {cs : List Nat} {a : Nat} {all : Nat → List Oper} {σ : Nat → Nat → Nat} {L : Nat → List Ent} (hc : CallOk P call) (T : ∀ j, j ≤ cs.length → Turn ops (all j) (σ j))
  (hback : ∀ (i : Nat) (o : Oper), ops[i]? = some o → ∀ e ∈ o.after.toList, Region.binds .any e = true → e.on < i)
  (hF : ∀ j, j ≤ cs.length → Flat P (all j)) {nt : Nat} (hreg : ∀ j, j ≤ cs.length → regionOk nt (all j) = true) (hnt : nt ≤ a0.tmps.size) {fa : Nat → Act} {fw : Nat → World} (hL : ∀ j, j ≤ cs.length → LexRun P call (all j) (all j) a0 w0 (L j) (fa j) (fw j))
  (hchk : ∀ j, j ≤ cs.length → ∀ i m, (i, m) ∈ loose P (all j) → ∃ x y, (L j)[i]? = some x ∧ (L j)[m]? = some y ∧ x.chk y.before ∧ x.chk y.after)
  {Q : Exit → Act → World → Prop} (hQ : ∀ j, j ≤ cs.length → ∀ b W, SlotsAt (all j) (L j) a0 (fun i => i < (all j).length) b → WorldOf P (all j) (L j) w0 (fun i => i < (all j).length) W → Q .normal b W)
  (hal : a < ops.length) (hac : a ∉ cs)
  (hrdy : ∀ j, j ≤ cs.length → ∀ listed listed', Lst ops.length (σ j) listed listed' → ∀ i, Nxt cs a j i listed → i ∈ Region.ready .any ops.toArray listed → σ j i ∈ Region.ready .any (all j).toArray listed') :
  ∀ (fuel : Nat) (listed : Array Bool) (b : Act) (W : World), listed.size = ops.length → un listed ops.length = fuel → listed.getD a false = false →
   (∀ j, j ≤ cs.length → (∀ c, cs[j]? = some c → listed.getD c false = false) → ∃ l', Lst ops.length (σ j) listed l' ∧ Closed (all j) (fun i => l'.getD i false = true) ∧ SlotsAt (all j) (L j) a0 (fun i => l'.getD i false = true) b ∧ WorldOf P (all j) (L j) w0 (fun i => l'.getD i false = true) W) →
   wpAny P .any ops.toArray Q fuel listed b W := by
 intro fuel
 induction fuel with
 | zero =>
  intro listed b W hs hu hau hinv
  have hgd : listed.getD a true = listed.getD a false := by simp [show a < listed.size by omega]
  have := un_zero _ hu a hal
  rw [hgd, hau] at this
  cases this
 | succ fuel ih =>
  intro listed b W hs hu hau hinv
  refine ⟨fun hr => ?_, fun i hi => ?_⟩
  ·have := all_listed rfl hs hback hr a hal
   rw [hau] at this
   cases this
  obtain ⟨hun, o, ho', hdep'⟩ := mem_ready.mp hi
  have ho : ops[i]? = some o := by simpa using ho'
  have hil : i < ops.length := (List.getElem?_eq_some_iff.mp ho).1
  have hun' : un (listed.setIfInBounds i true) ops.length = fuel := by
   have := un_set hun ops.length hil
   omega
  -- one step by the order j
  have stepOf : ∀ j, j ≤ cs.length → (∀ c, cs[j]? = some c → listed.getD c false = false) → Nxt cs a j i listed → ∃ (o2 : Oper) (x : Ent) (W' : World) (l' : Array Bool), (∀ f : Operand → Value, execOp f o2 = execOp f o) ∧ Region.wanted o (yielded ops.toArray b.tmps) = x.g ∧ (x.g = true → Exec3 P call o2 b W x.v W') ∧ (x.g = false → x.v = undef ∧ W' = W) ∧
    Lst ops.length (σ j) (listed.setIfInBounds i true) l' ∧ Closed (all j) (fun k => l'.getD k false = true) ∧ SlotsAt (all j) (L j) a0 (fun k => l'.getD k false = true) (b.put o.dst x.v) ∧ WorldOf P (all j) (L j) w0 (fun k => l'.getD k false = true) W' := by
   intro j hj hm hn
   obtain ⟨l', hl, p1, p2, p3⟩ := hinv j hj hm
   obtain ⟨o2, x, W', k1, k2, k3, k4, k5, k6, k7, k8, k9⟩ := order_step (hF j hj) (hreg j hj) hnt (hL j hj) (hchk j hj) l' b W (by rw [hl.2.1, (T j hj).len]) p1 p2 p3 (σ j i) (hrdy j hj listed l' hl i hn hi)
   obtain ⟨d1, d2, d3⟩ := (T j hj).exec ho k1
   rw [(T j hj).wanted ho k1] at k3
   rw [d1] at k8
   exact ⟨o2, x, W', _, d3, k3, k4, k5, hl.step (T j hj).lt (T j hj).inj hil, k7, k8, k9⟩
  have fin : ∀ (g : Bool) (v : Value) (W' : World) (o2 : Oper), (∀ f : Operand → Value, execOp f o2 = execOp f o) → Region.wanted o (yielded ops.toArray b.tmps) = g → (g = true → Exec3 P call o2 b W v W') → (g = false → v = undef ∧ W' = W) →
    wpAny P .any ops.toArray Q fuel (listed.setIfInBounds i true) (b.put o.dst v) W' → wpOp P ops.toArray Q i (wpAny P .any ops.toArray Q fuel (listed.setIfInBounds i true)) b W := by
   intro g v W' o2 d3 k3 k4 k5 hnext
   unfold wpOp
   simp only [ho', k3]
   cases hg : g with
   | true =>
    simp only [if_true]
    refine .inl (exec_wp hc (v := v) (w' := W') ?_ _ hnext)
    have e := k4 hg
    unfold Exec3 at e ⊢
    rw [d3] at e
    exact e
   | false =>
    simp only [Bool.false_eq_true, if_false]
    obtain ⟨g1, g2⟩ := k5 hg
    rw [g1, g2] at hnext
    exact hnext
  by_cases hia : i = a
  ·subst hia
   obtain ⟨j, hj, j2, j3⟩ := some_place cs listed
   obtain ⟨o2, x, W', l', s1, s3, s4, s5, s6, s7, s8, s9⟩ := stepOf j hj j3 ⟨fun c h1 h2 _ => j2 c h1 h2, fun c h1 h2 => by subst h2; exact absurd (List.mem_of_getElem? h1) hac⟩
   refine fin x.g x.v W' o2 s1 s3 s4 s5 (one_order hc (T j hj) hback (hF j hj) (hreg j hj) hnt (hL j hj) (hchk j hj) (hQ j hj) hal (fun listed listed' hl hla k hk => ?_) fuel _ _ _ _ s6 (getD_set_self (by omega)) hun' s7 s8 s9)
   refine hrdy j hj listed listed' hl k ⟨fun c _ _ e => ?_, fun c _ _ => hla⟩ hk
   subst e
   have h := (mem_ready.mp hk).1
   have : listed.getD k true = listed.getD k false := by simp [show k < listed.size by have := hl.1; omega]
   rw [this, hla] at h
   cases h
  ·have hau' : (listed.setIfInBounds i true).getD a false = false := by rw [getD_set_ne false hia]; exact hau
   have old : ∀ c, (listed.setIfInBounds i true).getD c false = false → listed.getD c false = false ∧ i ≠ c := by
    intro c h
    by_cases hic : i = c
    ·subst hic; rw [getD_set_self (by omega)] at h; cases h
    ·rw [getD_set_ne false hic] at h; exact ⟨h, hic⟩
   have nx : ∀ j, j ≤ cs.length → (∀ c, cs[j]? = some c → (listed.setIfInBounds i true).getD c false = false) → (∀ c, cs[j]? = some c → listed.getD c false = false) ∧ Nxt cs a j i listed := by
    intro j hj h
    exact ⟨fun c hc => (old c (h c hc)).1, fun c _ _ e => absurd e hia, fun c h1 h2 => absurd h2 (old c (h c h1)).2⟩
   have hlast : ∀ c, cs[cs.length]? = some c → (listed.setIfInBounds i true).getD c false = false := fun c h => by simp at h
   obtain ⟨n1, n2⟩ := nx cs.length (Nat.le_refl _) hlast
   obtain ⟨o2, x, W', l', s1, s3, s4, s5, s6, s7, s8, s9⟩ := stepOf cs.length (Nat.le_refl _) n1 n2
   refine fin x.g x.v W' o2 s1 s3 s4 s5 (ih _ _ _ (by simpa using hs) hun' hau' fun j hj hm => ?_)
   obtain ⟨m1, m2⟩ := nx j hj hm
   obtain ⟨o3, y, W2, l2, t1, t3, t4, t5, t6, t7, t8, t9⟩ := stepOf j hj m1 m2
   have hg : x.g = y.g := s3.symm.trans t3
   have hvw : x.v = y.v ∧ W' = W2 := by
    cases h : x.g with
    | true => exact Exec3.world (fun f => (t1 f).trans (s1 f).symm) (s4 h) (t4 (hg ▸ h))
    | false => exact ⟨(s5 h).1.trans (t5 (hg ▸ h)).1.symm, (s5 h).2.trans (t5 (hg ▸ h)).2.symm⟩
   rw [← hvw.1] at t8
   rw [← hvw.2] at t9
   exact ⟨l2, t6, t7, t8, t9⟩
end
inductive WAnn where
 | r
 | d (K : List Nat) (x : Ann)
 | s (a b : WAnn)
 | c (a b : WAnn)
 | b (K : List Nat) (a : WAnn)
 | l (K : List Nat) (a : WAnn)
 | t (a : Nat) (cs : List Nat) (K : List Nat)
 | q (i : Nat)
 | e (x : Ann)
structure Way where
 id : Nat
 keep : List Nat
 go : List Value → World → Prop
abbrev Ways := List Way
def Ways.ctx (X : Ways) : Ctx := X.map fun y => (y.id, y.keep)
def Ways.out : Ways → Nat → List Value → World → Prop
 | [], _, _, _ => False
 | y :: r, id, vs, w => if y.id = id then y.go vs w else Ways.out r id vs w
theorem Ways.ctx_cons (y : Way) (X : Ways) : Ways.ctx (y :: X) = (y.id, y.keep) :: Ways.ctx X := rfl
def itN (F : (List Value → World → Prop) → List Value → World → Prop) : Nat → List Value → World → Prop
 | 0, _, _ => False
 | n + 1, vs, w => F (itN F n) vs w
def after (Rt : List Value → World → Prop) (X : Ways) (K : List Value → World → Prop) : Res → Prop
 | .norm vs w => K vs w
 | .exit id vs w => X.out id vs w
 | .ret vs w => Rt vs w
def hold {α : Type} (x : Option α) (f : α → Prop) : Prop := match x with | some a => f a | none => False
theorem hold_iff {α : Type} {x : Option α} {f : α → Prop} : hold x f ↔ ∃ a, x = some a ∧ f a := by
 cases x <;> simp [hold]
@[simp] theorem hold_some {α : Type} (a : α) (f : α → Prop) : hold (some a) f = f a := rfl
open Classical in
noncomputable def okIf (w : World) (c : Prop) : Option Res := if c then some (.norm [] w) else none
theorem okIf_some {w : World} {c : Prop} {r : Res} : okIf w c = some r ↔ c ∧ r = .norm [] w := by
 unfold okIf
 split
 ·rename_i h; simp [h]; exact eq_comm
 ·rename_i h; simp [h]
def nthN (l : List Nat) (i : Nat) : Nat := l.getD i 0
def permOk (n : Nat) (s p : List Nat) : Bool := (List.range n).all fun i => Nat.blt (nthN s i) n && Nat.blt (nthN p i) n && Nat.beq (nthN p (nthN s i)) i && Nat.beq (nthN s (nthN p i)) i
def turnOp (s : List Nat) (o : Oper) (ex : List Edge) : Oper := { o with after := (o.after.toList.map (fun e => (⟨nthN s e.on, e.ground⟩ : Edge)) ++ ex).toArray, guard := o.guard.map fun g => (nthN s g.1, g.2) }
def noOper : Oper := ⟨none, .move (.const undef), 0, "", #[], none⟩
def ancL (ops : List Oper) (a : Nat) : List Nat :=
 (List.range a).reverse.foldl (fun S i => if (a :: S).any (fun k => (ops.getD k noOper).after.toList.any fun e => Region.binds .any e && Nat.beq e.on i) = true then i :: S else S) []
def placeAt (ops : List Oper) (a : Nat) (cs : List Nat) (j : Nat) : List Nat :=
 let l := (List.range ops.length).filter fun i => !Nat.beq i a
 match j with
 | 0 => ancL ops a ++ a :: l.filter fun i => !(ancL ops a).any (Nat.beq i)
 | j + 1 =>
  let A := (ancL ops a).filter fun i => Nat.blt (nthN cs j) i
  (l.filter fun i => Nat.ble i (nthN cs j)) ++ A ++ a :: l.filter fun i => Nat.blt (nthN cs j) i && !A.any (Nat.beq i)
def backOf (n : Nat) (p : List Nat) : List Nat := (List.range n).map fun i => p.idxOf i
def extra (a : Nat) (cs : List Nat) (j : Nat) (s : List Nat) (i : Nat) : List Edge :=
 (if Nat.beq i a = true then (match j with | 0 => [] | j + 1 => [⟨nthN s (nthN cs j), .data⟩]) else []) ++ (if (Nat.blt j cs.length && Nat.beq i (nthN cs j)) = true then [⟨nthN s a, .data⟩] else [])
def turned (ops : List Oper) (s p : List Nat) (ex : Nat → List Edge) : List Oper :=
 (List.range ops.length).map fun k => turnOp s (ops.getD (nthN p k) noOper) (ex (nthN p k))
def order (ops : List Oper) (a : Nat) (cs : List Nat) (j : Nat) : List Oper :=
 let p := placeAt ops a cs j
 let s := backOf ops.length p
 turned ops s p (extra a cs j s)
def manyOk (P : Program) (nt : Nat) (ops : List Oper) (a : Nat) (cs : List Nat) : Bool :=
 regionOk nt ops && Nat.blt a ops.length && cs.all (fun c => Nat.blt c ops.length && !Nat.beq c a) &&
 (ops.zipIdx.all fun (o, i) => o.after.toList.all (fun e => !Region.binds .any e || Nat.blt e.on i)) &&
 ((List.range (cs.length + 1)).all fun j => permOk ops.length (backOf ops.length (placeAt ops a cs j)) (placeAt ops a cs j) && regionOk nt (order ops a cs j) && flatOk P (order ops a cs j))
theorem permOk_spec {n : Nat} {s p : List Nat} (h : permOk n s p = true) {i : Nat} (hi : i < n) : nthN s i < n ∧ nthN p i < n ∧ nthN p (nthN s i) = i ∧ nthN s (nthN p i) = i := by
 unfold permOk at h
 have := List.all_eq_true.mp h i (List.mem_range.mpr hi)
 simp only [Bool.and_eq_true, Nat.blt_eq, Nat.beq_eq] at this
 exact ⟨this.1.1.1, this.1.1.2, this.1.2, this.2⟩
theorem turned_get {ops : List Oper} {s p : List Nat} {ex : Nat → List Edge} {k : Nat} (hk : k < ops.length) : (turned ops s p ex)[k]? = some (turnOp s (ops.getD (nthN p k) noOper) (ex (nthN p k))) := by
 unfold turned
 rw [List.getElem?_map, List.getElem?_range hk]
 rfl
theorem turned_at {ops : List Oper} {s p : List Nat} {ex : Nat → List Edge} {i : Nat} {o : Oper} (h : permOk ops.length s p = true) (ho : ops[i]? = some o) : (turned ops s p ex)[nthN s i]? = some (turnOp s o (ex i)) := by
 have hi : i < ops.length := (List.getElem?_eq_some_iff.mp ho).1
 obtain ⟨h1, _, h3, _⟩ := permOk_spec h hi
 rw [turned_get h1, h3]
 simp [List.getD_eq_getElem?_getD, ho]
theorem turn_of {nt : Nat} {ops : List Oper} {s p : List Nat} {ex : Nat → List Edge} (h : permOk ops.length s p = true) (hreg : regionOk nt ops = true) : Turn ops (turned ops s p ex) (nthN s) where
 len := by simp [turned]
 lt := fun i hi => (permOk_spec h hi).1
 inj := fun i j hi hj e => by rw [← (permOk_spec h hi).2.2.1, e, (permOk_spec h hj).2.2.1]
 onto := fun k hk => ⟨nthN p k, (permOk_spec h hk).2.1, (permOk_spec h hk).2.2.2⟩
 same := fun i o ho => ⟨_, turned_at h ho, rfl⟩
 guard := fun i o g ho hg => by
  have := ((regionOk_spec hreg ho).2 g.1 g.2 hg).1
  have hi : i < ops.length := (List.getElem?_eq_some_iff.mp ho).1
  omega
theorem turn_ready {ops : List Oper} {a j : Nat} {cs s p : List Nat} (h : permOk ops.length s p = true) (hal : a < ops.length) (hcs : ∀ c ∈ cs, c < ops.length)
  (hback : ∀ (i : Nat) (o : Oper), ops[i]? = some o → ∀ e ∈ o.after.toList, Region.binds .any e = true → e.on < i) (hj : j ≤ cs.length)
  {listed listed' : Array Bool} (hl : Lst ops.length (nthN s) listed listed') {i : Nat} (hn : Nxt cs a j i listed) (hi : i ∈ Region.ready .any ops.toArray listed) : nthN s i ∈ Region.ready .any (turned ops s p (extra a cs j s)).toArray listed' := by
 obtain ⟨hun, o, ho', hdep⟩ := mem_ready.mp hi
 have ho : ops[i]? = some o := by simpa using ho'
 have hil : i < ops.length := (List.getElem?_eq_some_iff.mp ho).1
 obtain ⟨l1, l2, l3⟩ := hl
 have hlt := (permOk_spec h hil).1
 have gd : ∀ (l : Array Bool) j, l.size = ops.length → j < ops.length → l.getD j true = l.getD j false := by
  intro l j hs hj
  simp [show j < l.size by omega]
 refine mem_ready.mpr ⟨by rw [gd _ _ l2 hlt, l3 i hil, ← gd _ _ l1 hil]; exact hun, _, by simpa using turned_at h ho, fun e he hb => ?_⟩
 have he : e ∈ o.after.toList.map (fun e => (⟨nthN s e.on, e.ground⟩ : Edge)) ++ extra a cs j s i := by simpa only [turnOp, List.mem_toArray, Array.mem_toList_iff] using he
 rw [List.mem_append, List.mem_map] at he
 rcases he with ⟨e0, h1, rfl⟩ | he
 ·have hb0 : Region.binds .any e0 = true := hb
  have := hback i o ho e0 h1 hb0
  show listed'.getD (nthN s e0.on) false = true
  rw [l3 e0.on (by omega)]
  exact hdep e0 (by simpa using h1) hb0
 ·unfold extra at he
  rw [List.mem_append] at he
  rcases he with he | he
  ·split at he
   ·rename_i hia
    rw [Nat.beq_eq] at hia
    cases j with
    | zero => simp at he
    | succ j =>
     simp only [List.mem_singleton] at he
     subst he
     have hc : cs[j]? = some (cs[j]'(by omega)) := Yg (by omega)
     have hcn : nthN cs j = cs[j]'(by omega) := by simp [nthN, List.getD_eq_getElem?_getD, hc]
     show listed'.getD (nthN s (nthN cs j)) false = true
     rw [hcn, l3 _ (hcs _ (List.getElem_mem _))]
     exact hn.1 _ (by omega) (by simp) hia
   ·simp at he
  ·split at he
   ·rename_i hjc
    simp only [Bool.and_eq_true, Nat.blt_eq, Nat.beq_eq] at hjc
    simp only [List.mem_singleton] at he
    subst he
    have hc : cs[j]? = some (cs[j]'hjc.1) := Yg hjc.1
    have hcn : nthN cs j = cs[j]'hjc.1 := by simp [nthN, List.getD_eq_getElem?_getD, hc]
    show listed'.getD (nthN s a) false = true
    rw [l3 _ hal]
    exact hn.2 _ hc (hjc.2.trans hcn)
   ·simp at he
def wOrders (F : List Oper → Prop) : List (List Oper) → Prop
 | [] => True
 | x :: r => F x ∧ wOrders F r
theorem wOrders_mem {F : List Oper → Prop} : ∀ {l : List (List Oper)}, wOrders F l → ∀ x ∈ l, F x
 | [], _, _, h => by cases h
 | y :: r, h, x, hx => by
  rcases List.mem_cons.mp hx with rfl | hx
  ·exact h.1
  ·exact wOrders_mem h.2 x hx
def relF (P : Program) (f : FuncId) (args : Array Value) (w : World) (K : Value → World → Prop) : Prop :=
 (callFunc f args).run P w = .ok (.enter f args) w ∧ Calls P f args w fun x w' => ∃ v, x = .returned v ∧ K v w'
def relCall (P : Program) (o : Oper) (e : Env) (w : World) (K : Value → World → Prop) : Prop :=
 match o.op, o.guard with
 | .call ⟨.value (.func f), args, _⟩, none => hold (evs e args.toList) fun vs => relF P f vs.toArray w K
 | _, _ => False
theorem relCall_spec {P : Program} {o : Oper} {e : Env} {w : World} {K : Value → World → Prop} (h : relCall P o e w K) :
  ∃ c f vs, o.op = .call c ∧ c.callee = .value (.func f) ∧ o.guard = none ∧ evs e c.args.toList = some vs ∧ relF P f vs.toArray w K := by
 unfold relCall at h
 split at h
 ·rename_i f args ts h1 h2
  obtain ⟨vs, h3, h4⟩ := hold_iff.mp h
  exact ⟨_, f, vs, h1, rfl, h2, h3, h4⟩
 ·exact h.elim
theorem relF_mono {P : Program} {f : FuncId} {args : Array Value} {w : World} {K K' : Value → World → Prop} (hk : ∀ v w', K v w' → K' v w') (h : relF P f args w K) : relF P f args w K' :=
 ⟨h.1, h.2.mono fun x w' ⟨v, hx, hv⟩ => ⟨v, hx, hk _ _ hv⟩⟩
def wRel (P : Program) (call : CallF) (nt : Nat) (ops : List Oper) (i : Nat) (e : Env) (w : World) (K : Env → World → Prop) : Prop :=
 regionOk nt ops = true ∧ i < ops.length ∧
 aOps P call ops (2 * ops.length + 1) 0 (ops.take i) [] e w (fun e' w' => okIf w (relCall P (ops.getD i noOper) e' w' fun v w2 =>
  aOps P call ops (2 * ops.length + 1) (i + 1) (ops.drop (i + 1)) [] (e'.put (ops.getD i noOper).dst v) w2 (fun e w' => okIf w (K e w')) = some (.norm [] w))) = some (.norm [] w)
theorem rel_exec {P : Program} {o : Oper} {e : Env} {a : Act} {w : World} {K : Value → World → Prop} (ha : Agree e a) (h : relCall P o e w K) :
  ∃ f args, (execOp a.eval o).run P w = .ok (.enter f args) w ∧ Calls P f args w (fun x w' => ∃ v, x = .returned v ∧ K v w') ∧ quietOp P o.op = false := by
 obtain ⟨c, f, vs, h1, h2, h3, h4, h5, h6⟩ := relCall_spec h
 refine ⟨f, vs.toArray, ?_, h6, by rw [h1]; obtain ⟨cal, ca, ct⟩ := c; simp only at h2; subst h2; rfl⟩
 have h7 := ha.evalsA h4
 have hr : (resolve a.eval c o.type).run P w = .ok { target := .fn (.func f) #[], args := vs.toArray } w := by
  unfold resolve; simp only [h7, h2, Act.eval, Deferred.ofValue]; simp
 simp only [execOp, h1]
 rw [run_ok hr]
 exact h5
theorem rel_wp {P : Program} {Q : Exit → Act → World → Prop} {o : Oper} {e : Env} {a : Act} {w : World} {K : Act → World → Prop} (ha : Agree e a) (h : relCall P o e w fun v w' => K (a.put o.dst v) w') : wpStep P Q o K a w := by
 obtain ⟨f, args, h1, h2, _⟩ := rel_exec ha h
 refine .inl ?_
 unfold Oper.wp
 rw [h1]
 exact h2.mono fun x w' ⟨v, hx, hk⟩ => by subst hx; exact hk
theorem rel_both {P : Program} {Q : Exit → Act → World → Prop} {o : Oper} {e : Env} {a : Act} {w : World} {K : Act → World → Prop} (ha : Agree e a) (h : relCall P o e w fun v w' => K (a.put o.dst v) w') : bothStep P Q o K a w :=
 ⟨fun q => (by obtain ⟨_, _, _, _, h3⟩ := rel_exec ha h; rw [h3] at q; cases q), rel_wp ha h⟩
theorem relCall_mono {P : Program} {o : Oper} {e : Env} {w : World} {K K' : Value → World → Prop} (hk : ∀ v w', K v w' → K' v w') (h : relCall P o e w K) : relCall P o e w K' := by
 unfold relCall at h ⊢
 split at h
 ·rename_i f args ts h1 h2
  obtain ⟨vs, h3, h4⟩ := hold_iff.mp h
  rw [h3]
  exact relF_mono hk h4
 ·exact h.elim
theorem wRel_ok {P : Program} {call : CallF} (hc : CallOk P call) {nt : Nat} {ops : List Oper} {i : Nat} {e : Env} {w : World} {K : Env → World → Prop} (h : wRel P call nt ops i e w K)
  {step : Oper → (Act → World → Prop) → Act → World → Prop} (hs : Steps1 P call ops step) (hrel : ∀ o e (K : Act → World → Prop) a w, Agree e a → (relCall P o e w fun v w' => K (a.put o.dst v) w') → step o K a w)
  {Q : Act → World → Prop} {a : Act} (hnt : nt ≤ a.tmps.size) (ha : Agree e a) (hQ : ∀ e' w', K e' w' → ∀ a', a'.tmps.size = a.tmps.size → a'.defers = a.defers → Agree e' a' → Q a' w') : wpG step ops.toArray ops Q a w := by
 obtain ⟨hreg, hi, h⟩ := h
 have hst : ∀ i a, StripOk ops [] i a := fun i a j b h => by simp [inStrip] at h
 obtain ⟨e1, w1, h1, h2⟩ := aOps_ok hc hreg hs _ 0 _ [] e w _ _ h (fun m hm => by
  rw [List.length_take] at hm
  rw [Nat.zero_add, List.getElem?_take_of_lt (by omega)])
 have hr := (okIf_some.mp h1).1
 have hg : ops.getD i noOper = ops[i] := by simp [List.getD, hi]
 rw [hg] at hr
 have hsplit : ops = ops.take i ++ (ops[i] :: ops.drop (i + 1)) := by rw [List.getElem_cons_drop, List.take_append_drop]
 have hoi : ops[i]? = some ops[i] := by simp [hi]
 obtain ⟨hd, hgd⟩ := regionOk_spec hreg hoi
 have key : wpG step ops.toArray (ops.take i ++ (ops[i] :: ops.drop (i + 1))) Q a w := by
  refine wpG_append step _ hs.mono _ _ _ _ _ (h2 _ a hnt ha (hst 0 a) fun a1 hk1 ha1 => ?_)
  have hw : Region.wanted ops[i] (yielded ops.toArray a1.tmps) = true := by
   obtain ⟨c, f, vs, _, _, h3, _⟩ := relCall_spec hr
   simp [Region.wanted, h3]
  simp only [wpG, hw, if_true]
  refine hrel _ e1 _ _ _ ha1 (relCall_mono (fun v w2 h3 => ?_) hr)
  obtain ⟨e2, w3, h4, h5⟩ := aOps_ok hc hreg hs _ (i + 1) _ [] _ w2 _ _ h3 (fun m hm => by
   rw [List.getElem?_drop])
  have hput : Kept (dsts [ops[i]]) a1 (a1.put ops[i].dst v) := Kept.put _ _ _ fun n hn => by simp [dsts, hn]
  have hsz : nt ≤ a1.tmps.size := by rw [hk1.size]; exact hnt
  refine h5 _ _ (by rw [hput.size]; exact hsz) (ha1.put fun m hm => Nat.lt_of_lt_of_le (hd m hm) hsz) (hst _ _) fun a2 hk2 ha2 => ?_
  exact hQ _ _ (okIf_some.mp h4).1 a2 (by rw [hk2.size, hput.size, hk1.size]) (by rw [hk2.defers, hput.defers, hk1.defers]) ha2
 rw [← hsplit] at key
 exact key
theorem draw_of_both {P : Program} (hm : P.follows .mixedOrders = true) {id : Nat} {ops : Array Oper} {Q : Exit → Act → World → Prop} {a : Act} {w : World} (hdraw : drawOk P ops.toList = true)
  (h3 : wpG (bothStep P Q) ops.toList.toArray ops.toList (Q .normal) a w.drew) : (Code.region id ops true).wp P Q a w := by
 unfold drawOk at hdraw
 rw [Bool.or_eq_true] at hdraw
 have hlit : (Code.region id ops true) = Code.region id ops.toList.toArray true := by rw [Array.toArray_toList]
 rw [hlit]
 rcases hdraw with hd | hd
 ·rw [Bool.and_eq_true] at hd
  refine wp_region_still_lit hm hd.2 ?_
  have := wpStill_of_both [] ops.toList a (fun o ho => List.all_eq_true.mp hd.1 o ho) (by simpa using h3)
  exact this
 ·refine wp_region_still_tail (tailFrom P ops.toList) hm hd ?_
  refine wpStill_of_both (ops.toList.drop (tailFrom P ops.toList)) (ops.toList.take (tailFrom P ops.toList)) a (fun o ho => ?_) (by simpa using h3)
  unfold tailFrom at ho
  have htw : ∀ (l : List Oper), l.take (l.takeWhile fun o => quietOp P o.op).length = l.takeWhile fun o => quietOp P o.op := by
   intro l
   induction l with
   | nil => rfl
   | cons q r ih =>
    by_cases hq : quietOp P q.op = true
    ·simp [hq, ih]
    ·simp [hq]
  rw [htw] at ho
  have : ∀ (l : List Oper), ∀ o ∈ l.takeWhile (fun o => quietOp P o.op), quietOp P o.op = true := by
   intro l
   induction l with
   | nil => intro o h; simp at h
   | cons q r ih =>
    intro o h
    by_cases hq : quietOp P q.op = true
    ·simp only [List.takeWhile_cons, hq, if_true, List.mem_cons] at h
     rcases h with rfl | h
     ·exact hq
     ·exact ih o h
    ·simp [hq] at h
  exact this _ o ho
theorem wq_ok {P : Program} {call : CallF} (hc : CallOk P call) (hm : P.follows .mixedOrders = true) {nt id : Nat} {ops : Array Oper} {draw : Bool} {i : Nat} {e : Env} {w : World} {K : Env → World → Prop}
  (h : (draw = true → drawOk P ops.toList = true) ∧ wRel P call nt ops.toList i e (if draw = true then w.drew else w) K) :
  ∀ (Q : Exit → Act → World → Prop) (b : Act), nt ≤ b.tmps.size → Agree e b →
   (∀ e' w', K e' w' → ∀ a', a'.tmps.size = b.tmps.size → a'.defers = b.defers → Agree e' a' → Q .normal a' w') → (Code.region id ops draw).wp P Q b w := by
 intro Q b hnt ha hQ
 obtain ⟨hd, h⟩ := h
 cases draw with
 | false =>
  refine wp_region ?_
  have := wpList_of_wpG _ _ _ (wRel_ok hc h (steps_wp hc ops.toList Q) (fun o e K a w ha h => rel_wp ha h) (Q := Q .normal) hnt ha hQ)
  have e1 := wpOps_eq_wpList (P := P) (Q := Q) (ops := ops) ops.toList 0 (fun j => by simp)
  rw [Array.toArray_toList] at this
  rw [← e1] at this
  simpa [List.range_eq_range'] using this
 | true => exact draw_of_both hm (hd rfl) (wRel_ok hc h (steps_both hc ops.toList Q) (fun o e K a w ha h => rel_both ha h) (Q := Q .normal) hnt ha hQ)
section
variable (P : Program) (call : CallF) (rs : List Nat) (nt : Nat) (Rt : List Value → World → Prop)
noncomputable def wCode : Code → WAnn → Ways → Env → World → (Env → World → Prop) → Prop
 | .seq a b, .s x y, X, e, w, K => wCode a x X e w fun e w => wCode b y X e w K
 | .cond t a b, .c x y, X, e, w, K => hold (ev e t) fun v => hold (asB v) fun t => if t = true then wCode a x X e w K else wCode b y X e w K
 | .block id a, .b Kp x, X, e, w, K => wCode a x (⟨id, Kp, fun vs w => K (ofList 0 Kp vs) w⟩ :: X) e w fun e w => hold (gets e Kp) fun vs => K (ofList 0 Kp vs) w
 | .loop a, .l Kp x, X, e, w, _ => hold (gets e Kp) fun vs => ∃ n, itN (fun rec vs w => wCode a x X (ofList 0 Kp vs) w fun e w => hold (gets e Kp) fun vs => rec vs w) n vs w
 | .region i ops dr, .r, X, e, w, K => aCode P call rs nt (.region i ops dr) .z [] e w (fun e' w' => okIf w (K e' w')) = some (.norm [] w)
 | .region _ ops true, .t a cs Kp, X, e, w, K => manyOk P nt ops.toList a cs = true ∧
   wOrders (fun all => aFlat P call all all e w.drew [] (fun e' w' log => chkThen (chkAll log (loose P all)) (okIf w (hold (gets e' Kp) fun vs => K (ofList 0 Kp vs) w'))) = some (.norm [] w)) ((List.range (cs.length + 1)).map (order ops.toList a cs))
 | .region _ ops false, .q i, X, e, w, K => wRel P call nt ops.toList i e w K
 | .region _ ops true, .q i, X, e, w, K => drawOk P ops.toList = true ∧ wRel P call nt ops.toList i e w.drew K
 | .skip, .r, X, e, w, K => K e w
 | .exit id, .r, X, e, w, K => hold (Ctx.keep X.ctx id) fun Kp => hold (gets e Kp) fun vs => X.out id vs w
 | .ret, .r, X, e, w, K => hold (gets e rs) fun vs => Rt vs w
 | c, .d Kp x, X, e, w, K => hold (aCode P call rs nt c x X.ctx e w (fun e w => (gets e Kp).ebind fun vs => some (.norm vs w))) (after Rt X (fun vs w => K (ofList 0 Kp vs) w))
 | c, .e x, X, e, w, _ => hold (aCode P call rs nt c x X.ctx e w (fun e w => (gets e []).ebind fun vs => some (.norm vs w))) (after Rt X (fun _ _ => False))
 | _, _, _, _, _, _ => False
end
theorem wd_ok {P : Program} {call : CallF} (hc : CallOk P call) (hm : P.follows .mixedOrders = true) {rs : List Nat} {nt : Nat} {ds : List Deferred} {Rt : List Value → World → Prop} {c : Code} {x : Ann} {Kp : List Nat} {X : Ways} {e : Env} {w : World} {K : Env → World → Prop}
  (h : hold (aCode P call rs nt c x X.ctx e w (fun e w => (gets e Kp).ebind fun vs => some (.norm vs w))) (after Rt X (fun vs w => K (ofList 0 Kp vs) w))) :
   ∀ (Q : Exit → Act → World → Prop) (a : Act), From nt ds a → Agree e a →
    (∀ e' w', K e' w' → ∀ a', From nt ds a' → Agree e' a' → Q .normal a' w') →
    (∀ id vs w', X.out id vs w' → ∀ Kp, Ctx.keep X.ctx id = some Kp → ∀ a', From nt ds a' → Has Kp vs a' → Q (.exit id) a' w') →
    (∀ vs w', Rt vs w' → ∀ a', From nt ds a' → Has rs vs a' → Q .ret a' w') →
    c.wp P Q a w := by
 intro Q a hf ha hk hx hr
 obtain ⟨r, h1, h2⟩ := hold_iff.mp h
 refine aCode_ok hc hm c x _ e w _ r h1 Q a hf ha ?_ ?_ ?_
 ·intro e' w' h5 a' hf' ha'
  simp only [Option.ebind_eq, Ob, Oj] at h5
  obtain ⟨vs, h6, rfl⟩ := h5
  exact hk _ _ h2 a' hf' (agree_gets ha' h6)
 ·rintro id vs w' rfl Kp' hK a' hf' hh
  exact hx id vs w' h2 Kp' hK a' hf' hh
 ·rintro vs w' rfl a' hf' hh
  exact hr vs w' h2 a' hf' hh
theorem wt_ok {P : Program} {call : CallF} (hc : CallOk P call) (hm : P.follows .mixedOrders = true) {nt id : Nat} {ops : Array Oper} {a : Nat} {cs Kp : List Nat} {e : Env} {w : World} {K : Env → World → Prop}
  (h : manyOk P nt ops.toList a cs = true ∧
   wOrders (fun all => aFlat P call all all e w.drew [] (fun e' w' log => chkThen (chkAll log (loose P all)) (okIf w (hold (gets e' Kp) fun vs => K (ofList 0 Kp vs) w'))) = some (.norm [] w)) ((List.range (cs.length + 1)).map (order ops.toList a cs))) :
  ∀ (Q : Exit → Act → World → Prop) (b : Act), nt ≤ b.tmps.size → Agree e b →
   (∀ e' w', K e' w' → ∀ a', a'.tmps.size = b.tmps.size → a'.defers = b.defers → Agree e' a' → Q .normal a' w') → (Code.region id ops true).wp P Q b w := by
 intro Q b hnt ha hQ
 obtain ⟨hok, hf⟩ := h
 unfold manyOk at hok
 simp only [Bool.and_eq_true, Nat.blt_eq] at hok
 obtain ⟨⟨⟨⟨k1, k2⟩, k3⟩, k4⟩, k5⟩ := hok
 have hcs : ∀ c ∈ cs, c < ops.toList.length ∧ c ≠ a := by
  intro c hc
  have := List.all_eq_true.mp k3 c hc
  simp only [Bool.and_eq_true, Nat.blt_eq, Bool.not_eq_true'] at this
  refine ⟨this.1, fun e => ?_⟩
  have h2 := this.2
  rw [e] at h2
  simp at h2
 have hback : ∀ (i : Nat) (o : Oper), ops.toList[i]? = some o → ∀ e ∈ o.after.toList, Region.binds .any e = true → e.on < i := by
  intro i o ho e he hb
  have := List.all_eq_true.mp (List.all_eq_true.mp k4 (o, i) (List.mem_zipIdx_iff_getElem?.mpr (by simpa using ho))) e he
  rw [hb] at this
  simpa using this
 have hj : ∀ j, j ≤ cs.length → permOk ops.toList.length (backOf ops.toList.length (placeAt ops.toList a cs j)) (placeAt ops.toList a cs j) = true ∧ regionOk nt (order ops.toList a cs j) = true ∧ flatOk P (order ops.toList a cs j) = true := by
  intro j hj
  have := List.all_eq_true.mp k5 j (List.mem_range.mpr (by omega))
  simp only [Bool.and_eq_true] at this
  exact ⟨this.1.1, this.1.2, this.2⟩
 have one : ∀ j, j ≤ cs.length → ∃ (L : List Ent) (a' : Act) (w' : World), LexRun P call (order ops.toList a cs j) (order ops.toList a cs j) b w.drew L a' w' ∧ (∀ i m, (i, m) ∈ loose P (order ops.toList a cs j) → ∃ x y, L[i]? = some x ∧ L[m]? = some y ∧ x.chk y.before ∧ x.chk y.after) ∧
    ∀ b' W, SlotsAt (order ops.toList a cs j) L b (fun i => i < (order ops.toList a cs j).length) b' → WorldOf P (order ops.toList a cs j) L w.drew (fun i => i < (order ops.toList a cs j).length) W → Q .normal b' W := by
  intro j hjl
  obtain ⟨_, hreg, hflat⟩ := hj j hjl
  have hf := wOrders_mem hf _ (List.mem_map.mpr ⟨j, List.mem_range.mpr (by omega), rfl⟩)
  generalize order ops.toList a cs j = all at *
  have hF := flat_of hflat
  obtain ⟨logs, e', w', h1, h2⟩ := aFlat_ok hc hreg all 0 e w.drew [] _ _ (fun m _ => by rw [Nat.zero_add]) hf
  simp only [List.nil_append] at h1
  unfold chkThen at h1
  split at h1
  case isFalse => cases h1
  rename_i hchk
  obtain ⟨L, a', l1, l2, l3, l4⟩ := h2 b hnt ha
  refine ⟨L, a', w', l1, ?_, ?_⟩
  ·intro i m him
   obtain ⟨x, y, c1, c2, c3, c4⟩ := chkAll_mem hchk i m him
   rw [l3, List.getElem?_map, Option.map_eq_some_iff] at c1 c2
   obtain ⟨x', d1, rfl⟩ := c1
   obtain ⟨y', d2, rfl⟩ := c2
   exact ⟨x', y', d1, d2, c3, c4⟩
  ·intro b' W b1 b2
   obtain ⟨rfl, g2, g3⟩ := last_same hF hreg hnt l1 b1 b2
   obtain ⟨vs, v1, v2⟩ := hold_iff.mp (okIf_some.mp h1).1
   exact hQ _ W v2 b' g3.size g3.defers (agree_gets (e := e') (fun t v ht => by rw [g2 t]; exact l2 t v ht) v1)
 let Ls : Nat → List Ent := fun j => if h : j ≤ cs.length then (one j h).choose else []
 let As : Nat → Act := fun j => if h : j ≤ cs.length then (one j h).choose_spec.choose else b
 let Ws : Nat → World := fun j => if h : j ≤ cs.length then (one j h).choose_spec.choose_spec.choose else w
 have sp : ∀ j, j ≤ cs.length → LexRun P call (order ops.toList a cs j) (order ops.toList a cs j) b w.drew (Ls j) (As j) (Ws j) ∧ (∀ i m, (i, m) ∈ loose P (order ops.toList a cs j) → ∃ x y, (Ls j)[i]? = some x ∧ (Ls j)[m]? = some y ∧ x.chk y.before ∧ x.chk y.after) ∧
    ∀ b' W, SlotsAt (order ops.toList a cs j) (Ls j) b (fun i => i < (order ops.toList a cs j).length) b' → WorldOf P (order ops.toList a cs j) (Ls j) w.drew (fun i => i < (order ops.toList a cs j).length) W → Q .normal b' W := by
  intro j h
  have := (one j h).choose_spec.choose_spec.choose_spec
  simp only [Ls, As, Ws, h, dif_pos]
  exact this
 refine wp_region_any hm ?_
 have key := many_orders (ops := ops.toList) (cs := cs) (a := a) (all := order ops.toList a cs) (σ := fun j => nthN (backOf ops.toList.length (placeAt ops.toList a cs j))) (L := Ls) (a0 := b) (w0 := w.drew) hc
  (fun j h => turn_of (hj j h).1 k1) hback (fun j h => flat_of (hj j h).2.2) (fun j h => (hj j h).2.1) hnt (fun j h => (sp j h).1) (fun j h => (sp j h).2.1) (Q := Q) (fun j h => (sp j h).2.2) k2 (fun h => (hcs a h).2 rfl)
  (fun j h listed listed' hl i hn hi => turn_ready (hj j h).1 k2 (fun c hc => (hcs c hc).1) hback h hl hn hi)
  ops.toList.length (Array.replicate ops.size false) b w.drew (by simp) ?_ ?_ ?_
 ·rw [Array.toArray_toList] at key
  simpa using key
 ·have : ∀ n, n ≤ ops.size → un (Array.replicate ops.size false) n = n := by
   intro n
   induction n with
   | zero => intro _; rfl
   | succ n ih => intro hn; simp only [un]; rw [ih (by omega)]; simp [show n < ops.size by omega]
  simpa using this ops.size (Nat.le_refl _)
 ·rw [getD_replicate_false]
 ·intro j h _
  refine ⟨Array.replicate ops.size false, ⟨by simp, by simp, fun i hi => by rw [getD_replicate_false, getD_replicate_false]⟩, ?_, ?_, ?_⟩
  ·intro i o hi; exact absurd hi (by rw [getD_replicate_false]; decide)
  ·exact ⟨rfl, rfl, fun i o x t hi => absurd hi (by simp only [getD_replicate_false]; decide), fun t _ => rfl⟩
  ·exact .inr ⟨fun m hm => absurd hm (by simp only [getD_replicate_false]; decide), rfl⟩
theorem wCode_ok {P : Program} {call : CallF} (hc : CallOk P call) (hm : P.follows .mixedOrders = true) {rs : List Nat} {nt : Nat} {ds : List Deferred} {Rt : List Value → World → Prop} :
  ∀ (c : Code) (x : WAnn) (X : Ways) (e : Env) (w : World) (K : Env → World → Prop), wCode P call rs nt Rt c x X e w K →
   ∀ (Q : Exit → Act → World → Prop) (a : Act), From nt ds a → Agree e a →
    (∀ e' w', K e' w' → ∀ a', From nt ds a' → Agree e' a' → Q .normal a' w') →
    (∀ id vs w', X.out id vs w' → ∀ Kp, Ctx.keep X.ctx id = some Kp → ∀ a', From nt ds a' → Has Kp vs a' → Q (.exit id) a' w') →
    (∀ vs w', Rt vs w' → ∀ a', From nt ds a' → Has rs vs a' → Q .ret a' w') →
    c.wp P Q a w := by
 intro c
 induction c with
 | skip =>
  intro x X e w K h Q a hf ha hk hx hr
  cases x with
  | r => exact wp_skip (hk e w h a hf ha)
  | d Kp x => exact wd_ok hc hm h Q a hf ha hk hx hr
  | e x => exact wd_ok (Kp := []) (K := fun _ _ => False) hc hm h Q a hf ha (fun _ _ h => h.elim) hx hr
  | _ => exact h.elim
 | region id ops draw =>
  intro x X e w K h Q a hf ha hk hx hr
  cases x with
  | r =>
   refine region_ok hc hm h Q a hf.size ha fun e' w' h1 a' h2 h3 => ?_
   exact hk e' w' (okIf_some.mp h1).1 a' ⟨by rw [h2.size]; exact hf.size, by rw [h2.defers]; exact hf.defers⟩ h3
  | d Kp x => exact wd_ok hc hm h Q a hf ha hk hx hr
  | e x => exact wd_ok (Kp := []) (K := fun _ _ => False) hc hm h Q a hf ha (fun _ _ h => h.elim) hx hr
  | t a' cs Kp =>
   cases draw with
   | false => exact h.elim
   | true =>
    refine wt_ok hc hm h Q a hf.size ha fun e' w' h1 b h2 h3 h4 => ?_
    exact hk e' w' h1 b ⟨by rw [h2]; exact hf.size, by rw [h3]; exact hf.defers⟩ h4
  | q i =>
   have h : (draw = true → drawOk P ops.toList = true) ∧ wRel P call nt ops.toList i e (if draw = true then w.drew else w) K := by
    cases draw with
    | false => exact ⟨fun h => (by cases h), h⟩
    | true => exact ⟨fun _ => h.1, h.2⟩
   refine wq_ok hc hm h Q a hf.size ha fun e' w' h1 b h2 h3 h4 => ?_
   exact hk e' w' h1 b ⟨by rw [h2]; exact hf.size, by rw [h3]; exact hf.defers⟩ h4
  | _ => exact h.elim
 | seq c1 c2 ih1 ih2 =>
  intro x X e w K h Q a hf ha hk hx hr
  cases x with
  | s x y =>
   refine wp_seq (ih1 x X e w _ h _ a hf ha ?_ ?_ ?_)
   ·intro e' w' h' a' hf' ha'
    exact ih2 y X e' w' K h' Q a' hf' ha' hk hx hr
   ·exact hx
   ·exact hr
  | d Kp x => exact wd_ok hc hm h Q a hf ha hk hx hr
  | e x => exact wd_ok (Kp := []) (K := fun _ _ => False) hc hm h Q a hf ha (fun _ _ h => h.elim) hx hr
  | _ => exact h.elim
 | cond t c1 c2 ih1 ih2 =>
  intro x X e w K h Q a hf ha hk hx hr
  cases x with
  | c x y =>
   obtain ⟨v, h1, h⟩ := hold_iff.mp h
   obtain ⟨b, h2, h3⟩ := hold_iff.mp h
   have hv : v = .bool b := by cases v <;> simp [asB] at h2; subst h2; rfl
   subst hv
   cases b with
   | true => exact wp_cond_true (ha.eval h1) (ih1 x X e w K (by simpa using h3) Q a hf ha hk hx hr)
   | false => exact wp_cond_false (ha.eval h1) (ih2 y X e w K (by simpa using h3) Q a hf ha hk hx hr)
  | d Kp x => exact wd_ok hc hm h Q a hf ha hk hx hr
  | e x => exact wd_ok (Kp := []) (K := fun _ _ => False) hc hm h Q a hf ha (fun _ _ h => h.elim) hx hr
  | _ => exact h.elim
 | block id c1 ih1 =>
  intro x X e w K h Q a hf ha hk hx hr
  cases x with
  | b Kp x =>
   refine wp_block (ih1 x _ e w _ h _ a hf ha ?_ ?_ ?_)
   ·intro e' w' h a' hf' ha'
    obtain ⟨vs, h6, h7⟩ := hold_iff.mp h
    exact hk _ _ h7 a' hf' (agree_gets ha' h6)
   ·intro i vs w' ho K' hK' a' hf' hh
    rw [Ways.ctx_cons, keep_cons] at hK'
    simp only [Ways.out] at ho
    simp only [Exit.inBlock]
    by_cases hi : i = id
    ·subst hi
     simp only [if_true, Oj] at hK' ho ⊢
     subst hK'
     exact hk _ _ ho a' hf' hh.agree
    ·have hi' : ¬ id = i := fun h => hi h.symm
     simp only [hi, hi', if_false] at hK' ho ⊢
     exact hx i vs w' ho K' hK' a' hf' hh
   ·exact hr
  | d Kp x => exact wd_ok hc hm h Q a hf ha hk hx hr
  | e x => exact wd_ok (Kp := []) (K := fun _ _ => False) hc hm h Q a hf ha (fun _ _ h => h.elim) hx hr
  | _ => exact h.elim
 | loop c1 ih1 =>
  intro x X e w K h Q a hf ha hk hx hr
  cases x with
  | l Kp x =>
   obtain ⟨vs0, h1, n, h2⟩ := hold_iff.mp h
   have key : ∀ (n : Nat) (vs : List Value) (w : World), itN (fun rec vs w => wCode P call rs nt Rt c1 x X (ofList 0 Kp vs) w fun e w => hold (gets e Kp) fun vs => rec vs w) n vs w → ∀ a, From nt ds a → Agree (ofList 0 Kp vs) a → Code.rounds P c1 Q n a w := by
    intro n
    induction n with
    | zero => intro vs w h; exact h.elim
    | succ n ih =>
     intro vs w h a hf ha
     rw [rounds_succ]
     refine ih1 x X _ _ _ h _ a hf ha ?_ hx hr
     intro e' w' h a' hf' ha'
     obtain ⟨vs, h6, h7⟩ := hold_iff.mp h
     exact ih _ _ h7 a' hf' (agree_gets ha' h6)
   exact wp_loop_rounds n (key n vs0 w h2 a hf (agree_gets ha h1))
  | d Kp x => exact wd_ok hc hm h Q a hf ha hk hx hr
  | e x => exact wd_ok (Kp := []) (K := fun _ _ => False) hc hm h Q a hf ha (fun _ _ h => h.elim) hx hr
  | _ => exact h.elim
 | exit id =>
  intro x X e w K h Q a hf ha hk hx hr
  cases x with
  | r =>
   obtain ⟨Kp, h1, h⟩ := hold_iff.mp h
   obtain ⟨vs, h2, h3⟩ := hold_iff.mp h
   exact wp_exit (hx id vs w h3 Kp h1 a hf (.of ha h2))
  | d Kp x => exact wd_ok hc hm h Q a hf ha hk hx hr
  | e x => exact wd_ok (Kp := []) (K := fun _ _ => False) hc hm h Q a hf ha (fun _ _ h => h.elim) hx hr
  | _ => exact h.elim
 | ret =>
  intro x X e w K h Q a hf ha hk hx hr
  cases x with
  | r =>
   obtain ⟨vs, h2, h3⟩ := hold_iff.mp h
   exact wp_ret (hr vs w h3 a hf (.of ha h2))
  | d Kp x => exact wd_ok hc hm h Q a hf ha hk hx hr
  | e x => exact wd_ok (Kp := []) (K := fun _ _ => False) hc hm h Q a hf ha (fun _ _ h => h.elim) hx hr
  | _ => exact h.elim
 | _ =>
  intro x X e w K h Q a hf ha hk hx hr
  cases x with
  | d Kp x => exact wd_ok hc hm h Q a hf ha hk hx hr
  | e x => exact wd_ok (Kp := []) (K := fun _ _ => False) hc hm h Q a hf ha (fun _ _ h => h.elim) hx hr
  | _ => exact h.elim
theorem callOk_run {P : Program} {ann : FuncId → Ann} {prim : Prim} (hm : P.follows .mixedOrders = true) (hp : PrimOk P prim) : CallOk P (run P ann prim) :=
 ⟨fun f args w r h => (calls_of_tells hm hp (tells_of_run h)).1, fun f args w r h => (calls_of_tells hm hp (tells_of_run h)).2⟩
theorem calls_of_w {P : Program} {ann : FuncId → Ann} {prim : Prim} (hm : P.follows .mixedOrders = true) (hp : PrimOk P prim) {f : FuncId} {fn : Func} {c : Code} {rs : List Nat} {args : Array Value} {w : World} (hf : P.funcs[f]? = some fn) (hb : fn.body = some c) (hts : tmpsOf fn.results.toList = some rs) {x : WAnn} {Q : Value → World → Prop}
  (h : wCode P (run P ann prim) rs fn.ntmps (fun vs w' => Q (outcome vs) w') c x [] (ofArgs args) w (fun e w' => hold (gets e rs) fun vs => Q (outcome vs) w')) : Calls P f args w fun e w' => ∃ v, e = .returned v ∧ Q v w' := by
 refine calls_of_wp hf hb ?_
 have hargs : Agree (ofArgs args) { tmps := args ++ Array.replicate (fn.ntmps - args.size) undef, defers := [] } := by
  intro t v ht
  simp only [ofArgs] at ht
  have hlt : t < args.size := (Array.getElem?_eq_some_iff.mp ht).1
  rw [Array.getElem?_append_left hlt]; exact ht
 refine wCode_ok (ds := []) (callOk_run hm hp) hm c x [] _ w _ h _ _ ⟨by simp; omega, rfl⟩ hargs ?_ ?_ ?_
 ·intro e' w' h a' hf' ha'
  obtain ⟨vs, h1, h2⟩ := hold_iff.mp h
  exact ⟨hf'.defers, _, results_ok hts (.of ha' h1) w', _, rfl, h2⟩
 ·intro id vs w' ho
  exact ho.elim
 ·intro vs w' hq a' hf' hh
  exact ⟨hf'.defers, _, results_ok hts hh w', _, rfl, hq⟩
theorem calls_of_wR {P : Program} {ann : FuncId → Ann} {prim : Prim} (hm : P.follows .mixedOrders = true) (hp : PrimOk P prim) {f : FuncId} {fn : Func} {c : Code} {args : Array Value} {w : World} (hf : P.funcs[f]? = some fn) (hb : fn.body = some c) {x : WAnn} {Q : Value → World → Prop}
  (h : wCode P (run P ann prim) (slotsOf fn.results.toList) fn.ntmps (fun vs w' => hold (Res.doneR P fn.results.toList (.ret vs w')) fun r => Q r.1 r.2) c x [] (ofArgs args) w (fun e w' => hold (gets e (slotsOf fn.results.toList)) fun vs => hold (Res.doneR P fn.results.toList (.ret vs w')) fun r => Q r.1 r.2)) : Calls P f args w fun e w' => ∃ v, e = .returned v ∧ Q v w' := by
 refine calls_of_wp hf hb ?_
 have hargs : Agree (ofArgs args) { tmps := args ++ Array.replicate (fn.ntmps - args.size) undef, defers := [] } := by
  intro t v ht
  simp only [ofArgs] at ht
  have hlt : t < args.size := (Array.getElem?_eq_some_iff.mp ht).1
  rw [Array.getElem?_append_left hlt]; exact ht
 refine wCode_ok (ds := []) (callOk_run hm hp) hm c x [] _ w _ h _ _ ⟨by simp; omega, rfl⟩ hargs ?_ ?_ ?_
 ·intro e' w' h a' hf' ha'
  obtain ⟨vs, h1, h2⟩ := hold_iff.mp h
  obtain ⟨r, h3, h4⟩ := hold_iff.mp h2
  simp only [Res.doneR, Ob, Oj] at h3
  obtain ⟨us, hu, rfl⟩ := h3
  exact ⟨hf'.defers, _, results_okR hu (.of ha' h1), _, rfl, h4⟩
 ·intro id vs w' ho
  exact ho.elim
 ·intro vs w' hq a' hf' hh
  obtain ⟨r, h3, h4⟩ := hold_iff.mp hq
  simp only [Res.doneR, Ob, Oj] at h3
  obtain ⟨us, hu, rfl⟩ := h3
  exact ⟨hf'.defers, _, results_okR hu hh, _, rfl, h4⟩
theorem calls_of_wR' {P : Program} {ann : FuncId → Ann} {prim : Prim} (hm : P.follows .mixedOrders = true) (hp : PrimOk P prim) {f : FuncId} {fn : Func} {c : Code} {args : Array Value} {w : World} {vars : List ResultVar} {rs : List Nat} (hf : P.funcs[f]? = some fn) (hb : fn.body = some c) (hv : fn.results.toList = vars) (hs : slotsOf vars = rs) {x : WAnn} {Q : Value → World → Prop}
  (h : wCode P (run P ann prim) rs fn.ntmps (fun vs w' => hold (Res.doneR P vars (.ret vs w')) fun r => Q r.1 r.2) c x [] (ofArgs args) w (fun e w' => hold (gets e rs) fun vs => hold (Res.doneR P vars (.ret vs w')) fun r => Q r.1 r.2)) : Calls P f args w fun e w' => ∃ v, e = .returned v ∧ Q v w' := by
 subst hs
 subst hv
 exact calls_of_wR hm hp hf hb h
@[simp] theorem okIf_iff {w : World} {c : Prop} : (okIf w c = some (.norm [] w)) = c := propext ⟨fun h => (okIf_some.mp h).1, fun h => okIf_some.mpr ⟨h, rfl⟩⟩
theorem itN_down {F : (List Value → World → Prop) → List Value → World → Prop} {I : Nat → List Value → World → Prop} (h : ∀ m vs w, I m vs w → ∀ rec, (∀ k vs w, k < m → I k vs w → rec vs w) → F rec vs w) {m : Nat} {vs : List Value} {w : World} (hI : I m vs w) : ∃ n, itN F n vs w := by
 have key : ∀ n m vs w, m ≤ n → I m vs w → itN F (n + 1) vs w := by
  intro n
  induction n with
  | zero => intro m vs w hm hI; exact h m vs w hI _ fun k vs w hk => absurd hk (by omega)
  | succ n ih => intro m vs w hm hI; exact h m vs w hI _ fun k vs w hk hI' => ih k vs w (by omega) hI'
 exact ⟨m + 1, key m m vs w (Nat.le_refl _) hI⟩
end Go.Sh
