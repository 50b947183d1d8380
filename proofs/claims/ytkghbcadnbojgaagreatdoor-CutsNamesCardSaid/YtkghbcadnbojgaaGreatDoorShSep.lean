/- The layer 'Sh': parts of memory beside one another. An assertion speaks of a set of blocks, all of them newer than a world W; what lies beside it does not touch it. Conditions: those of each statement. -/
import Derived.Test.YtkghbcadnbojgaaGreatDoorShFull
namespace Go.Sh
open Go Go.RowKit
set_option linter.unusedVariables false
set_option linter.unusedSimpArgs false
/-- an assertion about blocks that are newer than base -/
structure Asn (base : Nat) where
  at_ : (Nat → Prop) → World → Prop
  frame : ∀ {S : Nat → Prop} {w w' : World} {T : Nat → Prop}, at_ S w → Grew T w w' → (∀ k, S k → ¬ T k) → at_ S w'
  rng : ∀ {S : Nat → Prop} {w : World}, at_ S w → ∀ k, S k → base ≤ k ∧ k < w.heap.size
variable {base : Nat}
theorem Asn.ext' {P Q : Asn base} (h : ∀ S w, P.at_ S w ↔ Q.at_ S w) : P = Q := by
  cases P; cases Q
  congr
  funext S w
  exact propext (h S w)
/-- nothing -/
def emp : Asn base := ⟨fun S _ => S = fun _ => False, fun h _ _ => h, fun h k hk => by subst h; exact hk.elim⟩
/-- a fact -/
def fact (p : Prop) : Asn base := ⟨fun S _ => p ∧ S = fun _ => False, fun h _ _ => h, fun h k hk => by rw [h.2] at hk; exact hk.elim⟩
/-- for some -/
def some_ {α : Type} (P : α → Asn base) : Asn base := ⟨fun S w => ∃ a, (P a).at_ S w, fun ⟨a, h⟩ hg hs => ⟨a, (P a).frame h hg hs⟩, fun ⟨a, h⟩ k hk => (P a).rng h k hk⟩
def StarAt (P Q : Asn base) (S : Nat → Prop) (w : World) : Prop := ∃ A B : Nat → Prop, (∀ k, A k → ¬ B k) ∧ S = (fun k => A k ∨ B k) ∧ P.at_ A w ∧ Q.at_ B w
theorem starAt_frame {P Q : Asn base} {S : Nat → Prop} {w w' : World} {T : Nat → Prop} (h : StarAt P Q S w) (hg : Grew T w w') (hs : ∀ k, S k → ¬ T k) : StarAt P Q S w' := by
  obtain ⟨A, B, d, e, p, q⟩ := h
  exact ⟨A, B, d, e, P.frame p hg fun k hk => hs k (by rw [e]; exact .inl hk), Q.frame q hg fun k hk => hs k (by rw [e]; exact .inr hk)⟩
theorem starAt_rng {P Q : Asn base} {S : Nat → Prop} {w : World} (h : StarAt P Q S w) (k : Nat) (hk : S k) : base ≤ k ∧ k < w.heap.size := by
  obtain ⟨A, B, d, e, p, q⟩ := h
  rw [e] at hk
  rcases hk with hk | hk
  · exact P.rng p k hk
  · exact Q.rng q k hk
/-- beside -/
def star (P Q : Asn base) : Asn base := ⟨StarAt P Q, starAt_frame, starAt_rng⟩
instance : Mul (Asn base) := ⟨star⟩
theorem star_comm (P Q : Asn base) : P * Q = Q * P := by
  apply Asn.ext'
  intro S w
  constructor
  · rintro ⟨A, B, d, e, p, q⟩
    exact ⟨B, A, fun k hb ha => d k ha hb, by rw [e]; funext k; exact propext or_comm, q, p⟩
  · rintro ⟨A, B, d, e, p, q⟩
    exact ⟨B, A, fun k hb ha => d k ha hb, by rw [e]; funext k; exact propext or_comm, q, p⟩
theorem star_assoc (P Q R : Asn base) : (P * Q) * R = P * (Q * R) := by
  apply Asn.ext'
  intro S w
  constructor
  · rintro ⟨X, C, d, e, ⟨A, B, d', e', p, q⟩, r⟩
    subst e'
    refine ⟨A, fun k => B k ∨ C k, fun k ha hbc => ?_, by rw [e]; funext k; exact propext or_assoc, p, B, C, fun k hb hc => d k (.inr hb) hc, rfl, q, r⟩
    rcases hbc with hb | hc
    · exact d' k ha hb
    · exact d k (.inl ha) hc
  · rintro ⟨A, X, d, e, p, B, C, d', e', q, r⟩
    subst e'
    refine ⟨fun k => A k ∨ B k, C, fun k hab hc => ?_, by rw [e]; funext k; exact propext or_assoc.symm, ⟨A, B, fun k ha hb => d k ha (.inl hb), rfl, p, q⟩, r⟩
    rcases hab with ha | hb
    · exact d k ha (.inr hc)
    · exact d' k hb hc
theorem emp_star (P : Asn base) : emp * P = P := by
  apply Asn.ext'
  intro S w
  constructor
  · rintro ⟨A, B, d, e, p, q⟩
    have hA : A = fun _ => False := p
    subst hA
    have : S = B := by rw [e]; funext k; simp
    rw [this]; exact q
  · intro q
    exact ⟨fun _ => False, S, fun k h => h.elim, by funext k; simp, rfl, q⟩
theorem star_emp (P : Asn base) : P * emp = P := by rw [star_comm, emp_star]
instance : Std.Associative (α := Asn base) (· * ·) := ⟨star_assoc⟩
instance : Std.Commutative (α := Asn base) (· * ·) := ⟨star_comm⟩
theorem fact_true (p : Prop) (h : p) : (fact p : Asn base) = emp := Asn.ext' fun S w => ⟨fun x => x.2, fun x => ⟨h, x⟩⟩
theorem star_some {α : Type} (P : α → Asn base) (R : Asn base) : some_ P * R = some_ fun a => P a * R := by
  apply Asn.ext'
  intro S w
  constructor
  · rintro ⟨A, B, d, e, ⟨a, p⟩, q⟩
    exact ⟨a, A, B, d, e, p, q⟩
  · rintro ⟨a, A, B, d, e, p, q⟩
    exact ⟨A, B, d, e, ⟨a, p⟩, q⟩
/-- one beside the other, for each of a list -/
def all {α : Type} (f : α → Asn base) : List α → Asn base
  | [] => emp
  | a :: l => f a * all f l
theorem all_append {α : Type} (f : α → Asn base) (l l' : List α) : all f (l ++ l') = all f l * all f l' := by
  induction l with
  | nil => simp [all, emp_star]
  | cons a l ih => simp only [List.cons_append, all, ih, star_assoc]
theorem all_get {α : Type} (f : α → Asn base) {l : List α} {i : Nat} {a : α} (h : l[i]? = some a) : all f l = f a * all f (l.eraseIdx i) := by
  induction l generalizing i with
  | nil => simp at h
  | cons b l ih =>
    cases i with
    | zero => simp at h; subst h; simp [all]
    | succ i =>
      simp at h
      simp only [all, List.eraseIdx_cons_succ, ih h]
      ac_rfl
theorem all_set {α : Type} (f : α → Asn base) {l : List α} {i : Nat} (h : i < l.length) (a' : α) : all f (l.set i a') = f a' * all f (l.eraseIdx i) := by
  induction l generalizing i with
  | nil => simp at h
  | cons b l ih =>
    cases i with
    | zero => simp [all]
    | succ i =>
      simp at h
      simp only [all, List.eraseIdx_cons_succ, List.set_cons_succ, ih h]
      ac_rfl

/-- a block, with its cells -/
def blkA (b : Nat) (e : TypeId) (cs : List Value) : Asn base := ⟨fun S w => Blk w b e cs ∧ base ≤ b ∧ S = fun k => k = b, fun ⟨h, h2, h3⟩ hg hs => ⟨h.grew hg (hs b (by rw [h3])), h2, h3⟩, fun ⟨h, h2, h3⟩ k hk => by rw [h3] at hk; cases hk; exact ⟨h2, h.lt⟩⟩
/-- a row with room of its own -/
def rowA (e : TypeId) (sz : Nat) (v : Value) (n : Nat) (xs : List Value) : Asn base := ⟨fun S w => w.ownsRow base e sz v n xs ∧ S = fun k => v.ownBlock = some k, fun ⟨h, h3⟩ hg hs => ⟨own_grew h hg fun k hk => hs k (by rw [h3]; exact hk), h3⟩, fun ⟨h, h3⟩ k hk => by rw [h3] at hk; exact h.lt k hk⟩
/-- a row that came out, clipped to what it holds -/
def clipA (e : TypeId) (sz : Nat) (v : Value) (n : Nat) (xs : List Value) : Asn base := ⟨fun S w => (∃ A c, v = .slice A n n ∧ n ≤ c ∧ w.ownsRow base e sz (.slice A n c) n xs) ∧ S = fun k => v.ownBlock = some k,
  fun ⟨⟨A, c, h1, h2, h⟩, h3⟩ hg hs => ⟨⟨A, c, h1, h2, own_grew h hg fun k hk => hs k (by rw [h3, h1]; cases A <;> exact hk)⟩, h3⟩,
  fun ⟨⟨A, c, h1, h2, h⟩, h3⟩ k hk => by rw [h3, h1] at hk; exact h.lt k (by cases A <;> exact hk)⟩

/-- the state: since W nothing older has changed, and the parts stand as X says -/
def Sat (W : World) (X : Asn W.heap.size) (w : World) : Prop := Grew (fun _ => False) W w ∧ ∃ S, X.at_ S w
/-- what a run does to P, whatever lies beside it -/
def Step {α : Type} (W : World) (P : Asn W.heap.size) (r : World → Option (α × World)) (Q : α → Asn W.heap.size) : Prop :=
  ∀ S w, Grew (fun _ => False) W w → P.at_ S w → ∃ v w' S', r w = some (v, w') ∧ (Q v).at_ S' w' ∧ Grew S w w' ∧ ∀ k, S' k → S k ∨ w.heap.size ≤ k
section
variable {W w w' : World} {P Q R X Y : Asn W.heap.size} {α : Type}
theorem Sat.sub (s : Sat W X w) (h : ∀ S w, X.at_ S w → ∃ S', Y.at_ S' w) : Sat W Y w := by
  obtain ⟨g, S, x⟩ := s
  exact ⟨g, h S w x⟩
theorem Sat.eq (s : Sat W X w) (h : X = Y) : Sat W Y w := h ▸ s
theorem Sat.left (s : Sat W (P * R) w) : Sat W P w := s.sub fun S w ⟨A, B, d, e, p, q⟩ => ⟨A, p⟩
theorem Sat.right (s : Sat W (P * R) w) : Sat W R w := s.sub fun S w ⟨A, B, d, e, p, q⟩ => ⟨B, q⟩
theorem Sat.size (s : Sat W X w) : W.heap.size ≤ w.heap.size := s.1.size
theorem Sat.drew (s : Sat W X w) : Sat W X w.drew := by
  obtain ⟨g, S, x⟩ := s
  exact ⟨g.step (Grew.drew _ _), S, X.frame x (Grew.drew (fun _ => False) w) fun k _ h => h⟩
theorem Sat.getFact {p : Prop} (s : Sat W (fact p * R) w) : p ∧ Sat W R w := by
  refine ⟨?_, s.right⟩
  obtain ⟨g, S, A, B, d, e, p, q⟩ := s
  exact p.1
theorem Sat.addFact {p : Prop} (s : Sat W R w) (h : p) : Sat W (fact p * R) w := by rw [fact_true p h, emp_star]; exact s
theorem Sat.forSome {β : Type} {P : β → Asn W.heap.size} (s : Sat W (some_ P * R) w) : ∃ a, Sat W (P a * R) w := by
  rw [star_some] at s
  obtain ⟨g, S, a, h⟩ := s
  exact ⟨a, g, S, h⟩
theorem Sat.forSome0 {β : Type} {P : β → Asn W.heap.size} (s : Sat W (some_ P) w) : ∃ a, Sat W (P a) w := by
  obtain ⟨g, S, a, h⟩ := s
  exact ⟨a, g, S, h⟩
theorem Sat.grown (s : Sat W X w) (hg : w.grownBy w' none) : Sat W X w' := by
  obtain ⟨g, S, x⟩ := s
  exact ⟨g.step (grew_new hg), S, X.frame x (grew_new (S := fun _ => False) hg) fun k _ h => h⟩
theorem Sat.blk {b : Nat} {e : TypeId} {cs : List Value} (s : Sat W (blkA b e cs * R) w) : Blk w b e cs := by
  obtain ⟨g, S, h, _⟩ := s.left
  exact h
theorem Sat.row {e : TypeId} {sz n : Nat} {v : Value} {xs : List Value} (s : Sat W (rowA e sz v n xs * R) w) : w.ownsRow W.heap.size e sz v n xs := by
  obtain ⟨g, S, h, _⟩ := s.left
  exact h
theorem Sat.clip {e : TypeId} {sz n : Nat} {v : Value} {xs : List Value} (s : Sat W (clipA e sz v n xs * R) w) : ∃ A c, v = .slice A n n ∧ n ≤ c ∧ w.ownsRow W.heap.size e sz (.slice A n c) n xs := by
  obtain ⟨g, S, h, _⟩ := s.left
  exact h
theorem Step.on {r : World → Option (α × World)} {Q : α → Asn W.heap.size} (h : Step W P r Q) (s : Sat W (P * R) w) : ∃ v w', r w = some (v, w') ∧ Sat W (Q v * R) w' ∧ w.heap.size ≤ w'.heap.size := by
  obtain ⟨g, S, A, B, d, e, p, q⟩ := s
  obtain ⟨v, w', S', h1, h2, h3, h4⟩ := h A w g p
  refine ⟨v, w', h1, ⟨g.trans h3 fun k hk => .inr (P.rng p k hk).1, fun k => S' k ∨ B k, S', B, fun k hs hb => ?_, rfl, h2, R.frame q h3 fun k hb ha => d k ha hb⟩, h3.size⟩
  rcases h4 k hs with h5 | h5
  · exact d k h5 hb
  · have := (R.rng q k hb).2; omega
theorem Step.on1 {r : World → Option (α × World)} {Q : α → Asn W.heap.size} (h : Step W P r Q) (s : Sat W P w) : ∃ v w', r w = some (v, w') ∧ Sat W (Q v) w' := by
  obtain ⟨v, w', h1, h2, _⟩ := h.on (R := emp) (by rw [star_emp]; exact s)
  rw [star_emp] at h2
  exact ⟨v, w', h1, h2⟩
/-- a step at P, found within X -/
theorem Step.at {r : World → Option (α × World)} {Q : α → Asn W.heap.size} (h : Step W P r Q) (s : Sat W X w) (e : X = P * R) : ∃ v w', r w = some (v, w') ∧ Sat W (Q v * R) w' ∧ w.heap.size ≤ w'.heap.size := h.on (s.eq e)
/-- a step with what lies beside it is a step -/
theorem Step.star {r : World → Option (α × World)} {Q : α → Asn W.heap.size} (h : Step W P r Q) (R : Asn W.heap.size) : Step W (P * R) r (fun v => Q v * R) := by
  rintro S w g ⟨A, B, d, e, p, q⟩
  obtain ⟨v, w', S', h1, h2, h3, h4⟩ := h A w g p
  refine ⟨v, w', fun k => S' k ∨ B k, h1, ⟨S', B, fun k hs hb => ?_, rfl, h2, R.frame q h3 fun k hb ha => d k ha hb⟩, h3.weak fun k hk => .inl (by rw [e]; exact .inl hk), fun k hk => ?_⟩
  · rcases h4 k hs with h5 | h5
    · exact d k h5 hb
    · have := (R.rng q k hb).2; omega
  · rcases hk with hk | hk
    · rcases h4 k hk with h5 | h5
      · exact .inl (by rw [e]; exact .inl h5)
      · exact .inr h5
    · exact .inl (by rw [e]; exact .inr hk)
/-- new memory -/
theorem Sat.newBlk (s : Sat W R w) (e : TypeId) (cs : List Value) : Sat W (blkA w.heap.size e cs * R) (w.alloc (.cells cs.toArray e)) := by
  obtain ⟨g, S, x⟩ := s
  have ga := World.grownBy_alloc w (.cells cs.toArray e) none
  exact ⟨g.step (grew_new ga), fun k => k = w.heap.size ∨ S k, fun k => k = w.heap.size, S, fun k hk hs => by have := (R.rng x k hs).2; omega, rfl, ⟨Blk.new w e cs, g.size, rfl⟩, R.frame x (grew_new (S := fun _ => False) ga) fun k _ h => h⟩
/-- a row in new memory -/
theorem Sat.newRow (s : Sat W R w) (hg : w.grownBy w' none) {e : TypeId} {sz n : Nat} {v : Value} {xs : List Value} (h : w'.ownsRow w.heap.size e sz v n xs) : Sat W (rowA e sz v n xs * R) w' := by
  obtain ⟨g, S, x⟩ := s
  refine ⟨g.step (grew_new hg), fun k => v.ownBlock = some k ∨ S k, fun k => v.ownBlock = some k, S, fun k hk hs => ?_, rfl, ⟨own_rebase h fun k hk => Nat.le_trans g.size (h.lt k hk).1, rfl⟩, R.frame x (grew_new (S := fun _ => False) hg) fun k _ h => h⟩
  have := (R.rng x k hs).2
  have := (h.lt k hk).1
  omega
/-- none -/
theorem Sat.nilRow (s : Sat W R w) (e : TypeId) (sz : Nat) : Sat W (rowA e sz (.slice none 0 0) 0 [] * R) w := s.newRow (grown_refl _ _) (World.ownsRow_nil w w.heap.size e sz)
theorem Sat.row_clip {e : TypeId} {sz n : Nat} {A : Option Addr} {c : Nat} {xs : List Value} (s : Sat W (rowA e sz (.slice A n c) n xs * R) w) (hc : n ≤ c) : Sat W (clipA e sz (.slice A n n) n xs * R) w :=
  s.sub fun S w ⟨X, B, d, e, p, q⟩ => ⟨S, X, B, d, e, ⟨⟨A, c, rfl, hc, p.1⟩, by rw [p.2]; cases A <;> rfl⟩, q⟩
/-- a write of a cell of a block -/
theorem Sat.store {b : Nat} {e : TypeId} {cs cs' : List Value} (s : Sat W (blkA b e cs * R) w) (i : Nat) (v : Value) (h : cs.set i v = cs') : Sat W (blkA b e cs' * R) (w.setCell ⟨b, i, none⟩ v) := by
  obtain ⟨g, S, A, B, d, e, ⟨p, hb, hA⟩, q⟩ := s
  subst hA
  have hg := grew_set (S := fun k => k = b) w i v rfl
  exact ⟨g.trans hg fun k hk => .inr (hk ▸ hb), fun k => k = b ∨ B k, fun k => k = b, B, d, rfl, ⟨p.store2 i v h, hb, rfl⟩, R.frame q hg fun k hB hk => d k hk hB⟩
/-- a row is changed by a run that has its block alone -/
theorem Sat.rowStep {e : TypeId} {sz n n' : Nat} {v v' : Value} {xs xs' : List Value} (s : Sat W (rowA e sz v n xs * R) w) (hg : w.grownBy w' v.ownBlock) (h : w'.ownsRow W.heap.size e sz v' n' xs') (hk : ∀ k, v'.ownBlock = some k → v.ownBlock = some k ∨ w.heap.size ≤ k) : Sat W (rowA e sz v' n' xs' * R) w' := by
  obtain ⟨g, S, A, B, d, e, ⟨p, hA⟩, q⟩ := s
  subst hA
  have hg' : Grew (fun k => v.ownBlock = some k) w w' := grew_of hg fun k hk => .inl hk
  refine ⟨g.trans hg' fun k hk => .inr (p.lt k hk).1, fun k => v'.ownBlock = some k ∨ B k, fun k => v'.ownBlock = some k, B, fun k h1 h2 => ?_, rfl, ⟨h, rfl⟩, R.frame q hg' fun k hB hk => d k hk hB⟩
  rcases hk k h1 with h3 | h3
  · exact d k h3 h2
  · have := (R.rng q k h2).2; omega
theorem Sat.alloc_ge (s : Sat W X w) (o : Obj) : Sat W X (w.alloc o) := s.grown (World.grownBy_alloc w o none)
end
end Go.Sh
namespace Go.Sh
open Go Go.RowKit
set_option linter.unusedVariables false
set_option linter.unusedSimpArgs false
section
variable {W w w' : World} {P Q R X Y : Asn W.heap.size}
theorem star_left_comm (P Q R : Asn W.heap.size) : P * (Q * R) = Q * (P * R) := by ac_rfl
theorem Sat.swap (s : Sat W (P * (Q * R)) w) : Sat W (Q * (P * R)) w := s.eq (star_left_comm _ _ _)
/-- the third first -/
theorem Sat.swap3 (s : Sat W (P * (Q * (X * R))) w) : Sat W (X * (P * (Q * R))) w := s.eq (by ac_rfl)
/-- the first third -/
theorem Sat.back3 (s : Sat W (X * (P * (Q * R))) w) : Sat W (P * (Q * (X * R))) w := s.eq (by ac_rfl)
theorem Sat.fold {β : Type} {P : β → Asn W.heap.size} {b : β} (s : Sat W (P b * R) w) : Sat W (some_ P * R) w := s.sub fun S w ⟨A, B, d, e, p, q⟩ => ⟨S, A, B, d, e, ⟨b, p⟩, q⟩
theorem Sat.cell {b : Nat} {e : TypeId} {cs : List Value} (s : Sat W (blkA b e cs * R) w) (i : Nat) {v : Value} (h : cs[i]? = some v) : w.cell? ⟨b, i, none⟩ = some v := s.blk.cell_eq i h
theorem Sat.frozen {b : Nat} {e : TypeId} {cs : List Value} (s : Sat W (blkA b e cs * R) w) (i : Nat) : w.frozen? ⟨b, i, none⟩ = false := s.blk.frozen i
theorem Sat.drop2 (s : Sat W (P * (Q * R)) w) : Sat W (P * R) w := s.swap.right
end
end Go.Sh
