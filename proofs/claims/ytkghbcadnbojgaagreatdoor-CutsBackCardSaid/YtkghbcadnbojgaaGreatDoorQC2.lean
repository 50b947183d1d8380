/- The layer 'Sh': closed runs that the kernel reckons: abstract values, tries, an abstract heap and how it stands to a world. No condition but those that each statement names. -/
import Derived.Test.YtkghbcadnbojgaaGreatDoorQC1
import Derived.Test.YtkghbcadnbojgaaGreatDoorQC3
/-- 'bind', by the recursor: for the kernel -/
noncomputable def _root_.Option.ob {α β : Type} (x : Option α) (f : α → Option β) : Option β := Option.rec (motive := fun _ => Option β) none f x
theorem _root_.Option.ob_eq {α β : Type} (x : Option α) (f : α → Option β) : x.ob f = x.bind f := by cases x <;> rfl
namespace Go.Sh.Ev
open Go Go.RowKit
set_option linter.unusedVariables false
set_option linter.unusedSimpArgs false

/-! ### tries -/
inductive Tr (α : Type) where
  | leaf
  | node (l : Tr α) (v : Option α) (r : Tr α)
namespace Tr
variable {α : Type}
/-- a look-up; by the recursor, as the kernel reckons it -/
noncomputable def get (t : Tr α) : Nat → Option α :=
  Tr.rec (motive := fun _ => Nat → Option α) (fun _ => none) (fun _ v _ gl gr k => cond (Nat.beq k 0) v (cond (Nat.beq (Nat.mod k 2) 1) (gl (Nat.div k 2)) (gr (Nat.sub (Nat.div k 2) 1)))) t
noncomputable def put (n : Nat) : Tr α → Nat → Option α → Tr α :=
  Nat.rec (motive := fun _ => Tr α → Nat → Option α → Tr α) (fun t _ _ => t)
    (fun _ rec t k x => Tr.rec (motive := fun _ => Tr α)
      (cond (Nat.beq k 0) (node leaf x leaf) (cond (Nat.beq (Nat.mod k 2) 1) (node (rec leaf (Nat.div k 2) x) none leaf) (node leaf none (rec leaf (Nat.sub (Nat.div k 2) 1) x))))
      (fun l v r _ _ => cond (Nat.beq k 0) (node l x r) (cond (Nat.beq (Nat.mod k 2) 1) (node (rec l (Nat.div k 2) x) v r) (node l v (rec r (Nat.sub (Nat.div k 2) 1) x)))) t) n
@[simp] theorem get_leaf (k : Nat) : get (leaf : Tr α) k = none := rfl
theorem get_node (l : Tr α) (v : Option α) (r : Tr α) (k : Nat) : get (node l v r) k = bif Nat.beq k 0 then v else bif Nat.beq (Nat.mod k 2) 1 then get l (Nat.div k 2) else get r (Nat.sub (Nat.div k 2) 1) := rfl
theorem put_leaf (n k : Nat) (x : Option α) : put (n + 1) (leaf : Tr α) k x = bif Nat.beq k 0 then node leaf x leaf else bif Nat.beq (Nat.mod k 2) 1 then node (put n leaf (Nat.div k 2) x) none leaf else node leaf none (put n leaf (Nat.sub (Nat.div k 2) 1) x) := rfl
theorem put_node (n k : Nat) (x : Option α) (l : Tr α) (v : Option α) (r : Tr α) : put (n + 1) (node l v r) k x = bif Nat.beq k 0 then node l x r else bif Nat.beq (Nat.mod k 2) 1 then node (put n l (Nat.div k 2) x) v r else node l v (put n r (Nat.sub (Nat.div k 2) 1) x) := rfl
theorem get_put : ∀ (n : Nat) (t : Tr α) (k j : Nat) (x : Option α), k + 1 < 2 ^ n → get (put n t k x) j = if j = k then x else get t j := by
  intro n
  induction n with
  | zero => intro t k j x hk; exact absurd hk (by simp)
  | succ n ih =>
    intro t k j x hk
    have hp : 2 ^ (n + 1) = 2 * 2 ^ n := by rw [Nat.pow_succ]; omega
    rw [hp] at hk
    have e1 : Nat.mod k 2 = k % 2 := rfl
    have e2 : Nat.div k 2 = k / 2 := rfl
    have e3 : Nat.mod j 2 = j % 2 := rfl
    have e4 : Nat.div j 2 = j / 2 := rfl
    by_cases k0 : k = 0
    · subst k0
      cases t with
      | leaf =>
        by_cases j0 : j = 0
        · subst j0; rfl
        · have c0 : Nat.beq j 0 = false := by cases j with | zero => exact absurd rfl j0 | succ k => rfl
          have p0 : put (n + 1) (leaf : Tr α) 0 x = node leaf x leaf := rfl
          rw [p0]
          simp only [get_node, get_leaf, c0, cond_false, if_neg j0]
          cases Nat.beq (Nat.mod j 2) 1 <;> rfl
      | node l v r =>
        have p0 : put (n + 1) (node l v r) 0 x = node l x r := rfl
        rw [p0]
        by_cases j0 : j = 0
        · subst j0; rfl
        · have c0 : Nat.beq j 0 = false := by cases j with | zero => exact absurd rfl j0 | succ k => rfl
          simp only [get_node, get_leaf, c0, cond_false, if_neg j0]
    · have b0 : Nat.beq k 0 = false := by cases k with | zero => exact absurd rfl k0 | succ k => rfl
      by_cases ho : k % 2 = 1
      · have b1 : Nat.beq (Nat.mod k 2) 1 = true := by rw [e1, ho]; rfl
        have h1 := fun t j => ih t (k / 2) j x (by omega)
        cases t with
        | leaf =>
          simp only [put_leaf, put_node, b0, b1, cond_false, cond_true, e2]
          by_cases j0 : j = 0
          · subst j0
            simp [get_node, show ¬ (0 = k) by omega]
          · have c0 : Nat.beq j 0 = false := by cases j with | zero => exact absurd rfl j0 | succ k => rfl
            by_cases jo : j % 2 = 1
            · have c1 : Nat.beq (Nat.mod j 2) 1 = true := by rw [e3, jo]; rfl
              simp only [get_node, get_leaf, c0, c1, cond_false, cond_true, e4, h1]
              by_cases hjk : j = k
              · simp [hjk]
              · have : ¬ j / 2 = k / 2 := by omega
                simp [hjk, this]
            · have c1 : Nat.beq (Nat.mod j 2) 1 = false := by rw [e3, show j % 2 = 0 by omega]; rfl
              simp [get_node, c0, c1, show ¬ j = k by intro h; rw [h] at jo; exact jo ho]
        | node l v r =>
          simp only [put_leaf, put_node, b0, b1, cond_false, cond_true, e2]
          by_cases j0 : j = 0
          · subst j0
            simp [get_node, show ¬ (0 = k) by omega]
          · have c0 : Nat.beq j 0 = false := by cases j with | zero => exact absurd rfl j0 | succ k => rfl
            by_cases jo : j % 2 = 1
            · have c1 : Nat.beq (Nat.mod j 2) 1 = true := by rw [e3, jo]; rfl
              simp only [get_node, get_leaf, c0, c1, cond_false, cond_true, e4, h1]
              by_cases hjk : j = k
              · simp [hjk]
              · have : ¬ j / 2 = k / 2 := by omega
                simp [hjk, this]
            · have c1 : Nat.beq (Nat.mod j 2) 1 = false := by rw [e3, show j % 2 = 0 by omega]; rfl
              simp [get_node, c0, c1, show ¬ j = k by intro h; rw [h] at jo; exact jo ho]
      · have b1 : Nat.beq (Nat.mod k 2) 1 = false := by rw [e1, show k % 2 = 0 by omega]; rfl
        have h1 := fun t j => ih t (k / 2 - 1) j x (by omega)
        have e5 : Nat.sub (k / 2) 1 = k / 2 - 1 := rfl
        have e6 : Nat.sub (j / 2) 1 = j / 2 - 1 := rfl
        cases t with
        | leaf =>
          simp only [put_leaf, put_node, b0, b1, cond_false, cond_true, e2, e5]
          by_cases j0 : j = 0
          · subst j0
            simp [get_node, show ¬ (0 = k) by omega]
          · have c0 : Nat.beq j 0 = false := by cases j with | zero => exact absurd rfl j0 | succ k => rfl
            by_cases jo : j % 2 = 1
            · have c1 : Nat.beq (Nat.mod j 2) 1 = true := by rw [e3, jo]; rfl
              simp [get_node, c0, c1, show ¬ j = k by intro h; rw [h] at jo; exact ho jo]
            · have c1 : Nat.beq (Nat.mod j 2) 1 = false := by rw [e3, show j % 2 = 0 by omega]; rfl
              simp only [get_node, get_leaf, c0, c1, cond_false, cond_true, e4, e6, h1]
              by_cases hjk : j = k
              · simp [hjk]
              · have : ¬ j / 2 - 1 = k / 2 - 1 := by omega
                simp [hjk, this]
        | node l v r =>
          simp only [put_leaf, put_node, b0, b1, cond_false, cond_true, e2, e5]
          by_cases j0 : j = 0
          · subst j0
            simp [get_node, show ¬ (0 = k) by omega]
          · have c0 : Nat.beq j 0 = false := by cases j with | zero => exact absurd rfl j0 | succ k => rfl
            by_cases jo : j % 2 = 1
            · have c1 : Nat.beq (Nat.mod j 2) 1 = true := by rw [e3, jo]; rfl
              simp [get_node, c0, c1, show ¬ j = k by intro h; rw [h] at jo; exact ho jo]
            · have c1 : Nat.beq (Nat.mod j 2) 1 = false := by rw [e3, show j % 2 = 0 by omega]; rfl
              simp only [get_node, get_leaf, c0, c1, cond_false, cond_true, e4, e6, h1]
              by_cases hjk : j = k
              · simp [hjk]
              · have : ¬ j / 2 - 1 = k / 2 - 1 := by omega
                simp [hjk, this]
/-- the bound that the evaluator keeps to -/
def okKey (k : Nat) : Bool := Nat.ble k 1000000
theorem get_set {t : Tr α} {k : Nat} (h : okKey k = true) (j : Nat) (x : Option α) : get (put 24 t k x) j = if j = k then x else get t j :=
  get_put 24 t k j x (by have := Nat.le_of_ble_eq_true h; omega)
end Tr

/-! ### values -/
inductive Cap where
  | is (c : Nat)
  | less (s : Nat)
def Cap.at (m : Nat) : Cap → Nat
  | .is c => c
  | .less s => m - s
/-- a value: one that is known as it stands; or one that lies, or points, in new memory -/
inductive AV where
  | v (x : Value)
  | ptr (k o : Nat)
  | sl (k o n : Nat) (c : Cap)
  | map (k : Nat)
  | e0 (k j : Nat)
  | fn (f : FuncId) (a l : List AV)
  | ifc (t : TypeId) (x : AV)
  | agg (l : List AV)
  | tup (l : List AV)
/-- where a name lies, and what room it has -/
abbrev Rho := Nat → Option (Nat × Nat)
mutual
def g (ρ : Rho) : AV → Option Value
  | .v x => some x
  | .ptr k o => match ρ k with | some p => some (.pointer (some ⟨p.1, o, none⟩)) | none => none
  | .sl k o n c => match ρ k with | some p => some (.slice (some ⟨p.1, o, none⟩) n (c.at p.2)) | none => none
  | .map k => match ρ k with | some p => some (.map (some p.1)) | none => none
  | .e0 k j => match ρ k with | some p => (match ρ j with | some q => some (.slice (some ⟨p.1, q.1, none⟩) 0 q.2) | none => none) | none => none
  | .fn f a l => match gs ρ a with | some us => (match gs ρ l with | some vs => some (.func (.func f) us.toArray vs.toArray) | none => none) | none => none
  | .ifc t x => match g ρ x with | some V => some (.iface t V) | none => none
  | .agg l => match gs ρ l with | some vs => some (.agg vs.toArray) | none => none
  | .tup l => match gs ρ l with | some vs => some (.tuple vs.toArray) | none => none
def gs (ρ : Rho) : List AV → Option (List Value)
  | [] => some []
  | a :: r => match g ρ a with | some x => (match gs ρ r with | some xs => some (x :: xs) | none => none) | none => none
end
def RhoLe (ρ ρ' : Rho) : Prop := ∀ k p, ρ k = some p → ρ' k = some p
theorem RhoLe.refl (ρ : Rho) : RhoLe ρ ρ := fun _ _ h => h
theorem RhoLe.trans {ρ ρ' ρ'' : Rho} (h : RhoLe ρ ρ') (h' : RhoLe ρ' ρ'') : RhoLe ρ ρ'' := fun k p e => h' k p (h k p e)
theorem gs_cons {ρ : Rho} {a : AV} {r : List AV} {vs : List Value} : gs ρ (a :: r) = some vs ↔ ∃ x xs, g ρ a = some x ∧ gs ρ r = some xs ∧ vs = x :: xs := by
  simp only [gs]
  cases g ρ a with
  | none => simp
  | some x =>
    cases gs ρ r with
    | none => simp
    | some xs => simp [eq_comm]
theorem gs_nil {ρ : Rho} {vs : List Value} : gs ρ [] = some vs ↔ vs = [] := by simp [gs, eq_comm]
mutual
theorem g_mono {ρ ρ' : Rho} (h : RhoLe ρ ρ') : ∀ (a : AV) (V : Value), g ρ a = some V → g ρ' a = some V
  | .v x, V, e => by simpa [g] using e
  | .ptr k o, V, e => by
    simp only [g] at e ⊢
    cases hk : ρ k with
    | none => rw [hk] at e; cases e
    | some p => rw [hk] at e; rw [h k p hk]; exact e
  | .sl k o n c, V, e => by
    simp only [g] at e ⊢
    cases hk : ρ k with
    | none => rw [hk] at e; cases e
    | some p => rw [hk] at e; rw [h k p hk]; exact e
  | .map k, V, e => by
    simp only [g] at e ⊢
    cases hk : ρ k with
    | none => rw [hk] at e; cases e
    | some p => rw [hk] at e; rw [h k p hk]; exact e
  | .e0 k j, V, e => by
    simp only [g] at e ⊢
    cases hk : ρ k with
    | none => rw [hk] at e; cases e
    | some p =>
      cases hj : ρ j with
      | none => rw [hk, hj] at e; cases e
      | some q => rw [hk, hj] at e; rw [h k p hk, h j q hj]; exact e
  | .fn f a l, V, e => by
    simp only [g] at e ⊢
    cases hk : gs ρ a with
    | none => rw [hk] at e; cases e
    | some p =>
      cases hj : gs ρ l with
      | none => rw [hk, hj] at e; cases e
      | some q => rw [hk, hj] at e; rw [gs_mono h a p hk, gs_mono h l q hj]; exact e
  | .ifc t x, V, e => by
    simp only [g] at e ⊢
    cases hk : g ρ x with
    | none => rw [hk] at e; cases e
    | some p => rw [hk] at e; rw [g_mono h x p hk]; exact e
  | .agg l, V, e => by
    simp only [g] at e ⊢
    cases hk : gs ρ l with
    | none => rw [hk] at e; cases e
    | some p => rw [hk] at e; rw [gs_mono h l p hk]; exact e
  | .tup l, V, e => by
    simp only [g] at e ⊢
    cases hk : gs ρ l with
    | none => rw [hk] at e; cases e
    | some p => rw [hk] at e; rw [gs_mono h l p hk]; exact e
theorem gs_mono {ρ ρ' : Rho} (h : RhoLe ρ ρ') : ∀ (l : List AV) (vs : List Value), gs ρ l = some vs → gs ρ' l = some vs
  | [], vs, e => by simpa [gs] using e
  | a :: r, vs, e => by
    obtain ⟨x, xs, h1, h2, rfl⟩ := gs_cons.mp e
    exact gs_cons.mpr ⟨x, xs, g_mono h a x h1, gs_mono h r xs h2, rfl⟩
end
theorem gs_append {ρ : Rho} : ∀ {l m : List AV} {vs us : List Value}, gs ρ l = some vs → gs ρ m = some us → gs ρ (l ++ m) = some (vs ++ us)
  | [], m, vs, us, h, h' => by rw [gs_nil] at h; subst h; simpa using h'
  | a :: r, m, vs, us, h, h' => by
    obtain ⟨x, xs, h1, h2, rfl⟩ := gs_cons.mp h
    exact gs_cons.mpr ⟨x, xs ++ us, h1, gs_append h2 h', rfl⟩
theorem gs_length {ρ : Rho} : ∀ {l : List AV} {vs : List Value}, gs ρ l = some vs → vs.length = l.length
  | [], vs, h => by rw [gs_nil] at h; subst h; rfl
  | a :: r, vs, h => by
    obtain ⟨x, xs, h1, h2, rfl⟩ := gs_cons.mp h
    simp [gs_length h2]
theorem gs_get {ρ : Rho} : ∀ {l : List AV} {vs : List Value} {i : Nat} {a : AV}, gs ρ l = some vs → l[i]? = some a → ∃ V, vs[i]? = some V ∧ g ρ a = some V
  | [], vs, i, a, h, h' => by simp at h'
  | b :: r, vs, i, a, h, h' => by
    obtain ⟨x, xs, h1, h2, rfl⟩ := gs_cons.mp h
    cases i with
    | zero => simp at h'; subst h'; exact ⟨x, rfl, h1⟩
    | succ i => simp at h'; obtain ⟨V, h3, h4⟩ := gs_get h2 h'; exact ⟨V, by simpa using h3, h4⟩
theorem gs_take {ρ : Rho} : ∀ {l : List AV} {vs : List Value} (n : Nat), gs ρ l = some vs → gs ρ (l.take n) = some (vs.take n)
  | [], vs, n, h => by rw [gs_nil] at h; subst h; simp [gs]
  | a :: r, vs, 0, h => by simp [gs]
  | a :: r, vs, n + 1, h => by
    obtain ⟨x, xs, h1, h2, rfl⟩ := gs_cons.mp h
    exact gs_cons.mpr ⟨x, xs.take n, h1, gs_take n h2, rfl⟩
theorem gs_drop {ρ : Rho} : ∀ {l : List AV} {vs : List Value} (n : Nat), gs ρ l = some vs → gs ρ (l.drop n) = some (vs.drop n)
  | [], vs, n, h => by rw [gs_nil] at h; subst h; simp [gs]
  | a :: r, vs, 0, h => by simpa using h
  | a :: r, vs, n + 1, h => by
    obtain ⟨x, xs, h1, h2, rfl⟩ := gs_cons.mp h
    simpa using gs_drop n h2
/-- all known as they stand -/
noncomputable def pl (l : List AV) : Option (List Value) :=
  List.rec (motive := fun _ => Option (List Value)) (some []) (fun a _ rec => AV.casesOn a (fun x => Option.rec (motive := fun _ => Option (List Value)) none (fun xs => some (x :: xs)) rec) (fun _ _ => none) (fun _ _ _ _ => none) (fun _ => none) (fun _ _ => none) (fun _ _ _ => none) (fun _ _ => none) (fun _ => none) (fun _ => none)) l
theorem pl_nil : pl [] = some [] := rfl
theorem pl_cons (a : AV) (r : List AV) : pl (a :: r) = match a with | .v x => (match pl r with | some xs => some (x :: xs) | none => none) | _ => none := by
  cases a with
  | v x =>
    show Option.rec (motive := fun _ => Option (List Value)) none (fun xs => some (x :: xs)) (pl r) = _
    cases pl r <;> rfl
  | _ => rfl
theorem gs_pl {ρ : Rho} : ∀ {l : List AV} {vs : List Value}, pl l = some vs → gs ρ l = some vs
  | [], vs, h => by simpa [pl_nil, gs] using h
  | a :: r, vs, h => by
    rw [pl_cons] at h
    split at h
    · rename_i x
      cases hr : pl r with
      | none => rw [hr] at h; cases h
      | some xs =>
        rw [hr] at h
        injection h with h
        exact gs_cons.mpr ⟨x, xs, rfl, gs_pl hr, h.symm⟩
    · cases h
theorem gs_map {ρ : Rho} : ∀ (vs : List Value), gs ρ (vs.map .v) = some vs
  | [] => rfl
  | x :: r => gs_cons.mpr ⟨x, r, rfl, gs_map r, rfl⟩
noncomputable def mkAgg (l : List AV) : AV := match pl l with | some vs => .v (.agg vs.toArray) | none => .agg l
theorem g_mkAgg {ρ : Rho} {l : List AV} {vs : List Value} (h : gs ρ l = some vs) : g ρ (mkAgg l) = some (.agg vs.toArray) := by
  unfold mkAgg
  split
  · rename_i us hu
    have := gs_pl (ρ := ρ) hu
    rw [h] at this
    cases this
    rfl
  · simp [g, h]
noncomputable def mkTup (l : List AV) : AV := match pl l with | some vs => .v (.tuple vs.toArray) | none => .tup l
theorem g_mkTup {ρ : Rho} {l : List AV} {vs : List Value} (h : gs ρ l = some vs) : g ρ (mkTup l) = some (.tuple vs.toArray) := by
  unfold mkTup
  split
  · rename_i us hu
    have := gs_pl (ρ := ρ) hu
    rw [h] at this
    cases this
    rfl
  · simp [g, h]
/-- a value's cells -/
def cellsOfAV : AV → List AV
  | .v x => x.cells.toList.map .v
  | .agg l => l
  | a => [a]
theorem gs_cells {ρ : Rho} {a : AV} {V : Value} (h : g ρ a = some V) : gs ρ (cellsOfAV a) = some V.cells.toList := by
  cases a with
  | v x => simp only [g, Option.some.injEq] at h; subst h; exact gs_map _
  | agg l =>
    simp only [g] at h
    cases hk : gs ρ l with
    | none => rw [hk] at h; cases h
    | some vs => rw [hk] at h; cases h; simpa [cellsOfAV, Value.cells] using hk
  | ptr k o => simp only [cellsOfAV]; refine gs_cons.mpr ⟨V, [], h, rfl, ?_⟩; simp only [g] at h; split at h <;> cases h; rfl
  | sl k o n c => simp only [cellsOfAV]; refine gs_cons.mpr ⟨V, [], h, rfl, ?_⟩; simp only [g] at h; split at h <;> cases h; rfl
  | map k => simp only [cellsOfAV]; refine gs_cons.mpr ⟨V, [], h, rfl, ?_⟩; simp only [g] at h; split at h <;> cases h; rfl
  | e0 k j => simp only [cellsOfAV]; refine gs_cons.mpr ⟨V, [], h, rfl, ?_⟩; simp only [g] at h; split at h <;> (try (split at h)) <;> cases h; rfl
  | fn f a l => simp only [cellsOfAV]; refine gs_cons.mpr ⟨V, [], h, rfl, ?_⟩; simp only [g] at h; split at h <;> (try (split at h)) <;> cases h; rfl
  | ifc t x => simp only [cellsOfAV]; refine gs_cons.mpr ⟨V, [], h, rfl, ?_⟩; simp only [g] at h; split at h <;> cases h; rfl
  | tup l => simp only [cellsOfAV]; refine gs_cons.mpr ⟨V, [], h, rfl, ?_⟩; simp only [g] at h; split at h <;> cases h; rfl
/-- a value of one cell -/
def oneAV : AV → Bool
  | .v x => x.oneCell'
  | .agg _ | .tup _ => false
  | _ => true
theorem oneCell_of {ρ : Rho} {a : AV} {V : Value} (h : g ρ a = some V) (h1 : oneAV a = true) : V.oneCell' = true := by
  cases a with
  | v x => simp only [g, Option.some.injEq] at h; subst h; exact h1
  | agg l => cases h1
  | tup l => cases h1
  | ptr k o => simp only [g] at h; split at h <;> cases h; rfl
  | sl k o n c => simp only [g] at h; split at h <;> cases h; rfl
  | map k => simp only [g] at h; split at h <;> cases h; rfl
  | e0 k j => simp only [g] at h; split at h <;> (try (split at h)) <;> cases h; rfl
  | fn f a l => simp only [g] at h; split at h <;> (try (split at h)) <;> cases h; rfl
  | ifc t x => simp only [g] at h; split at h <;> cases h; rfl
theorem oneCells_of {ρ : Rho} : ∀ {l : List AV} {vs : List Value}, gs ρ l = some vs → l.all oneAV = true → ∀ v ∈ vs, v.oneCell' = true
  | [], vs, h, _ => by rw [gs_nil] at h; subst h; simp
  | a :: r, vs, h, h1 => by
    obtain ⟨x, xs, h2, h3, rfl⟩ := gs_cons.mp h
    simp only [List.all_cons, Bool.and_eq_true] at h1
    intro v hv
    rcases List.mem_cons.mp hv with rfl | hv
    · exact oneCell_of h2 h1.1
    · exact oneCells_of h3 h1.2 v hv

/-! ### the heap -/
inductive AO where
  | cells (l : List AV) (e : TypeId) (room : Option Nat)
  | iter (s : ByteArray) (pos : Nat)
structure AH where
  next : Nat
  tr : Tr AO
def RO (ρ : Rho) (m : Nat) : AO → Obj → Prop
  | .cells l e none, o => ∃ vs, gs ρ l = some vs ∧ o = .cells vs.toArray e (0, 0)
  | .cells l e (some sz), o => ∃ vs rest, gs ρ l = some vs ∧ o = .cells (vs ++ rest).toArray e (0, 0) ∧ (vs ++ rest).length = m * sz ∧ m ≤ maxLen
  | .iter s p, o => o = .stringIter s p
theorem RO.mono {ρ ρ' : Rho} (h : RhoLe ρ ρ') {m : Nat} {a : AO} {o : Obj} (r : RO ρ m a o) : RO ρ' m a o := by
  cases a with
  | cells l e room =>
    cases room with
    | none => obtain ⟨vs, h1, h2⟩ := r; exact ⟨vs, gs_mono h _ _ h1, h2⟩
    | some sz => obtain ⟨vs, rest, h1, h2⟩ := r; exact ⟨vs, rest, gs_mono h _ _ h1, h2⟩
  | iter s p => exact r
/-- what is laid, cell by cell -/
abbrev Globs := Nat → Option (List Value)
def GlobOk (G : Globs) (W : World) : Prop := ∀ b l, G b = some l → ∀ i V, l[i]? = some V → W.cell? ⟨b, i, none⟩ = some V
structure Live (W : World) (ρ : Rho) (H : AH) (w : World) : Prop where
  grown : W.grownBy w none
  live : ∀ k o, H.tr.get k = some o → ∃ b m O, ρ k = some (b, m) ∧ w.heap[b]? = some O ∧ RO ρ m o O
  inj : ∀ j k oj ok b m m', H.tr.get j = some oj → H.tr.get k = some ok → ρ j = some (b, m) → ρ k = some (b, m') → j = k
  new : ∀ k o b m, H.tr.get k = some o → ρ k = some (b, m) → W.heap.size ≤ b
structure Rel (W : World) (ρ : Rho) (H : AH) (w : World) : Prop extends Live W ρ H w where
  fresh : ∀ k, H.next ≤ k → ρ k = none
theorem Live.mono {W : World} {ρ ρ' : Rho} {H : AH} {w : World} (r : Live W ρ H w) (h : RhoLe ρ ρ') : Live W ρ' H w := by
  refine ⟨r.grown, fun k o hk => ?_, fun j k oj ok b m m' hj hk h1 h2 => ?_, fun k o b m hk h1 => ?_⟩
  · obtain ⟨b, m, O, h1, h2, h3⟩ := r.live k o hk
    exact ⟨b, m, O, h _ _ h1, h2, h3.mono h⟩
  · obtain ⟨b1, m1, _, e1, _⟩ := r.live j oj hj
    obtain ⟨b2, m2, _, e2, _⟩ := r.live k ok hk
    have e3 := h _ _ e1
    have e4 := h _ _ e2
    rw [h1] at e3
    rw [h2] at e4
    cases e3
    cases e4
    exact r.inj j k oj ok b m m' hj hk e1 e2
  · obtain ⟨b1, m1, _, e1, _⟩ := r.live k o hk
    have e3 := h _ _ e1
    rw [h1] at e3
    cases e3
    exact r.new k o b m hk e1
theorem Rel.drew {W : World} {ρ : Rho} {H : AH} {w : World} (r : Rel W ρ H w) : Rel W ρ H w.drew :=
  ⟨⟨⟨r.grown.os, r.grown.tape, r.grown.output, r.grown.size, r.grown.block⟩, r.live, r.inj, r.new⟩, r.fresh⟩
def updR (ρ : Rho) (k : Nat) (p : Nat × Nat) : Rho := fun i => if i = k then some p else ρ i
theorem updR_le {ρ : Rho} {k : Nat} {p : Nat × Nat} (h : ρ k = none) : RhoLe ρ (updR ρ k p) := fun i q hq => by
  unfold updR
  split
  · rename_i e; subst e; rw [h] at hq; cases hq
  · exact hq
@[simp] theorem updR_self (ρ : Rho) (k : Nat) (p : Nat × Nat) : updR ρ k p k = some p := by simp [updR]
/-- a new block -/
noncomputable def AH.add (H : AH) (o : AO) : AH := ⟨H.next + 1, Tr.put 24 H.tr H.next (some o)⟩
noncomputable def AH.set (H : AH) (k : Nat) (o : AO) : AH := ⟨H.next, Tr.put 24 H.tr k (some o)⟩
/-- one that takes another's place -/
noncomputable def AH.turn (H : AH) (k : Nat) (o : AO) : AH := ⟨H.next + 1, Tr.put 24 (Tr.put 24 H.tr k none) H.next (some o)⟩
theorem Rel.new_ {W : World} {ρ : Rho} {H : AH} {w w' : World} (r : Rel W ρ H w) (hg : w.grownBy w' none) {b m : Nat} {O : Obj} {o : AO} (hb : w.heap.size ≤ b) (hO : w'.heap[b]? = some O) (hr : RO (updR ρ H.next (b, m)) m o O) (hk : Tr.okKey H.next = true) :
    Rel W (updR ρ H.next (b, m)) (H.add o) w' := by
  have le := updR_le (p := (b, m)) (r.fresh H.next (Nat.le_refl _))
  have old : ∀ k o', H.tr.get k = some o' → k ≠ H.next := fun k o' hk' e => by
    obtain ⟨b', m', _, e1, _⟩ := r.live k o' hk'
    rw [e, r.fresh H.next (Nat.le_refl _)] at e1
    cases e1
  refine ⟨⟨grown_trans r.grown hg (by simp), fun k o' h => ?_, fun j k oj ok b1 m1 m2 hj hk' h1 h2 => ?_, fun k o' b' m' hk' h => ?_⟩, fun k h => ?_⟩
  · simp only [AH.add, Tr.get_set hk] at h
    split at h
    · rename_i e
      subst e
      cases h
      exact ⟨b, m, O, by simp, hO, hr⟩
    · obtain ⟨b', m', O', e1, e2, e3⟩ := r.live k o' h
      exact ⟨b', m', O', le _ _ e1, (hg.block b' ((Array.getElem?_eq_some_iff.mp e2).1) (by simp)).trans e2, e3.mono le⟩
  · simp only [AH.add, Tr.get_set hk] at hj hk'
    have lt : ∀ i oi b0 m0, H.tr.get i = some oi → updR ρ H.next (b, m) i = some (b0, m0) → b0 < w.heap.size ∧ ρ i = some (b0, m0) := by
      intro i oi b0 m0 hi h0
      obtain ⟨b', m', O', e1, e2, e3⟩ := r.live i oi hi
      have := le _ _ e1
      rw [h0] at this
      cases this
      exact ⟨(Array.getElem?_eq_some_iff.mp e2).1, e1⟩
    split at hj <;> split at hk'
    · rename_i a1 a2; rw [a1, a2]
    · rename_i a1 a2
      subst a1
      rw [updR_self] at h1
      cases h1
      have := (lt k ok b m2 hk' h2).1
      omega
    · rename_i a1 a2
      subst a2
      rw [updR_self] at h2
      cases h2
      have := (lt j oj b m1 hj h1).1
      omega
    · exact r.inj j k oj ok b1 m1 m2 hj hk' (lt j oj b1 m1 hj h1).2 (lt k ok b1 m2 hk' h2).2
  · unfold updR at h
    simp only [AH.add, Tr.get_set hk] at hk'
    split at h
    · cases h
      exact Nat.le_trans r.grown.size hb
    · rename_i e
      rw [if_neg e] at hk'
      exact r.new k o' b' m' hk' h
  · simp only [AH.add] at h
    unfold updR
    rw [if_neg (by omega)]
    exact r.fresh k (by omega)
/-- a block that is written -/
theorem Rel.set_ {W : World} {ρ : Rho} {H : AH} {w w' : World} (r : Rel W ρ H w) {k b m : Nat} {o : AO} (hk : H.tr.get k = some o) (hρ : ρ k = some (b, m)) (hg : w.grownBy w' (some b)) {O : Obj} {o' : AO} (hO : w'.heap[b]? = some O) (hr : RO ρ m o' O) (hkey : Tr.okKey k = true) :
    Rel W ρ (H.set k o') w' := by
  refine ⟨⟨grown_new r.grown hg (r.new k o b m hk hρ), fun j oj h => ?_, fun i j oi oj b1 m1 m2 hi hj h1 h2 => ?_, fun j oj b1 m1 hj h1 => ?_⟩, r.fresh⟩
  · simp only [AH.set, Tr.get_set hkey] at h
    split at h
    · rename_i e
      subst e
      cases h
      exact ⟨b, m, O, hρ, hO, hr⟩
    · rename_i e
      obtain ⟨b', m', O', e1, e2, e3⟩ := r.live j oj h
      refine ⟨b', m', O', e1, (hg.block b' ((Array.getElem?_eq_some_iff.mp e2).1) fun e4 => ?_).trans e2, e3⟩
      cases e4
      exact e (r.inj j k oj o b m' m h hk e1 hρ)
  · simp only [AH.set, Tr.get_set hkey] at hi hj
    have key : ∀ i oi, (if i = k then some o' else H.tr.get i) = some oi → ∃ oi', H.tr.get i = some oi' := by
      intro i oi h
      split at h
      · rename_i e; subst e; exact ⟨_, hk⟩
      · exact ⟨_, h⟩
    obtain ⟨oi', hi'⟩ := key i oi hi
    obtain ⟨oj', hj'⟩ := key j oj hj
    exact r.inj i j oi' oj' b1 m1 m2 hi' hj' h1 h2
  · simp only [AH.set, Tr.get_set hkey] at hj
    split at hj
    · rename_i e; subst e; exact r.new _ o _ _ hk h1
    · exact r.new _ oj _ _ hj h1
/-- a row that has grown, where it lay or in new memory -/
theorem Rel.turn_ {W : World} {ρ : Rho} {H : AH} {w w' : World} (r : Rel W ρ H w) {k b m b' m' : Nat} {o : AO} (hk : H.tr.get k = some o) (hρ : ρ k = some (b, m)) (hg : w.grownBy w' (some b)) (hb : b' = b ∨ w.heap.size ≤ b') {O : Obj} {o' : AO} (hO : w'.heap[b']? = some O)
    (hr : RO (updR ρ H.next (b', m')) m' o' O) (hkey : Tr.okKey k = true) (hkey' : Tr.okKey H.next = true) : Rel W (updR ρ H.next (b', m')) (H.turn k o') w' := by
  have le := updR_le (p := (b', m')) (r.fresh H.next (Nat.le_refl _))
  have hbw : W.heap.size ≤ b' := by
    rcases hb with rfl | hb
    · exact r.new k o _ m hk hρ
    · exact Nat.le_trans r.grown.size hb
  have look : ∀ i oi, (if i = H.next then some o' else if i = k then none else H.tr.get i) = some oi → (i = H.next ∧ oi = o') ∨ (i ≠ H.next ∧ i ≠ k ∧ H.tr.get i = some oi) := by
    intro i oi h
    split at h
    · rename_i e; cases h; exact .inl ⟨e, rfl⟩
    · rename_i e
      split at h
      · cases h
      · rename_i e2; exact .inr ⟨e, e2, h⟩
  have lt : ∀ i oi b0 m0, H.tr.get i = some oi → updR ρ H.next (b', m') i = some (b0, m0) → b0 < w.heap.size ∧ ρ i = some (b0, m0) := by
    intro i oi b0 m0 hi h0
    obtain ⟨b', m', O', e1, e2, e3⟩ := r.live i oi hi
    have := le _ _ e1
    rw [h0] at this
    cases this
    exact ⟨(Array.getElem?_eq_some_iff.mp e2).1, e1⟩
  have apart : ∀ i oi b0 m0, i ≠ k → H.tr.get i = some oi → ρ i = some (b0, m0) → b0 ≠ b := fun i oi b0 m0 hne hi h0 e => by
    subst e
    exact hne (r.inj i k oi o b0 m0 m hi hk h0 hρ)
  have no : ∀ i oi m0, i ≠ k → H.tr.get i = some oi → updR ρ H.next (b', m') i = some (b', m0) → False := by
    intro i oi m0 hne hi h0
    obtain ⟨l1, l2⟩ := lt i oi b' m0 hi h0
    rcases hb with rfl | hb
    · exact apart i oi _ m0 hne hi l2 rfl
    · omega
  refine ⟨⟨grown_new r.grown hg (r.new k o b m hk hρ), fun j oj h => ?_, fun i j oi oj b1 m1 m2 hi hj h1 h2 => ?_, fun j oj b0 m0 hj h => ?_⟩, fun k h => ?_⟩
  · simp only [AH.turn, Tr.get_set hkey', Tr.get_set hkey] at h
    rcases look j oj h with ⟨rfl, rfl⟩ | ⟨n1, n2, h⟩
    · exact ⟨b', m', O, by simp, hO, hr⟩
    · obtain ⟨b0, m0, O', e1, e2, e3⟩ := r.live j oj h
      exact ⟨b0, m0, O', le _ _ e1, (hg.block b0 ((Array.getElem?_eq_some_iff.mp e2).1) fun e4 => apart j oj b0 m0 n2 h e1 (by cases e4; rfl)).trans e2, e3.mono le⟩
  · simp only [AH.turn, Tr.get_set hkey', Tr.get_set hkey] at hi hj
    rcases look i oi hi with ⟨rfl, e1⟩ | ⟨n1, n2, hi⟩ <;> rcases look j oj hj with ⟨rfl, e2⟩ | ⟨n3, n4, hj⟩
    · rfl
    · rw [updR_self] at h1
      cases h1
      exact (no j oj m2 n4 hj h2).elim
    · rw [updR_self] at h2
      cases h2
      exact (no i oi m1 n2 hi h1).elim
    · exact r.inj i j oi oj b1 m1 m2 hi hj (lt i oi b1 m1 hi h1).2 (lt j oj b1 m2 hj h2).2
  · simp only [AH.turn, Tr.get_set hkey', Tr.get_set hkey] at hj
    rcases look j oj hj with ⟨rfl, e2⟩ | ⟨n1, n2, hj⟩
    · rw [updR_self] at h; cases h; exact hbw
    · exact r.new j oj b0 m0 hj (lt j oj b0 m0 hj h).2
  · simp only [AH.turn] at h
    unfold updR
    rw [if_neg (by omega)]
    exact r.fresh k (by omega)
/-- a name for two numbers -/
def AH.name (H : AH) : AH := ⟨H.next + 1, H.tr⟩
theorem Rel.name_ {W : World} {ρ : Rho} {H : AH} {w : World} (r : Rel W ρ H w) (p : Nat × Nat) : Rel W (updR ρ H.next p) H.name w := by
  refine ⟨⟨(r.toLive.mono (updR_le (p := p) (r.fresh _ (Nat.le_refl _)))).grown, (r.toLive.mono (updR_le (p := p) (r.fresh _ (Nat.le_refl _)))).live, (r.toLive.mono (updR_le (p := p) (r.fresh _ (Nat.le_refl _)))).inj, (r.toLive.mono (updR_le (p := p) (r.fresh _ (Nat.le_refl _)))).new⟩, fun k h => ?_⟩
  simp only [AH.name] at h
  unfold updR
  rw [if_neg (by omega)]
  exact r.fresh k (by omega)
end Go.Sh.Ev

namespace Go.Sh.Ev
open Go Go.RowKit
set_option linter.unusedVariables false
set_option linter.unusedSimpArgs false

abbrev AEnv := Nat → Option AV
def EnvR (ρ : Rho) (e : AEnv) (eR : Env) : Prop := ∀ t a, e t = some a → ∃ V, g ρ a = some V ∧ eR t = some V
theorem EnvR.mono {ρ ρ' : Rho} (h : RhoLe ρ ρ') {e : AEnv} {eR : Env} (r : EnvR ρ e eR) : EnvR ρ' e eR := fun t a ha => by
  obtain ⟨V, h1, h2⟩ := r t a ha
  exact ⟨V, g_mono h a V h1, h2⟩
noncomputable def aev (e : AEnv) : Operand → Option AV
  | .tmp t => e t
  | .const v => some (.v v)
  | .global g => some (.v (.pointer (some ⟨g, 0, none⟩)))
  | .func f => some (.v (.func (.func f) #[] #[]))
noncomputable def aevs (e : AEnv) : List Operand → Option (List AV)
  | [] => some []
  | x :: r => (aev e x).ob fun a => (aevs e r).ob fun l => some (a :: l)
theorem aev_ok {ρ : Rho} {e : AEnv} {eR : Env} (h : EnvR ρ e eR) {x : Operand} {a : AV} (ha : aev e x = some a) : ∃ V, g ρ a = some V ∧ ev eR x = some V := by
  cases x with
  | tmp t => exact h t a ha
  | const v => simp only [aev, Option.some.injEq] at ha; subst ha; exact ⟨v, rfl, rfl⟩
  | global b => simp only [aev, Option.some.injEq] at ha; subst ha; exact ⟨_, rfl, rfl⟩
  | func f => simp only [aev, Option.some.injEq] at ha; subst ha; exact ⟨_, rfl, rfl⟩
theorem aevs_ok {ρ : Rho} {e : AEnv} {eR : Env} (h : EnvR ρ e eR) : ∀ {l : List Operand} {as : List AV}, aevs e l = some as → ∃ vs, gs ρ as = some vs ∧ evs eR l = some vs
  | [], as, ha => by simp only [aevs, Option.some.injEq] at ha; subst ha; exact ⟨[], rfl, rfl⟩
  | x :: r, as, ha => by
    simp only [aevs, Option.ob_eq, Option.bind_eq_some_iff, Option.some.injEq] at ha
    obtain ⟨a, h1, l, h2, rfl⟩ := ha
    obtain ⟨V, h3, h4⟩ := aev_ok h h1
    obtain ⟨vs, h5, h6⟩ := aevs_ok h h2
    exact ⟨V :: vs, gs_cons.mpr ⟨V, vs, h3, h5, rfl⟩, by simp [evs, h4, h6]⟩

section
variable (P : Program)
/-! ### values that are reckoned -/
noncomputable def eqSpec (t : TypeId) (a b : AV) : Option Bool := match P.underlying t with
  | some (.pointer _) => match a, b with
    | .ptr _ _, .v (.pointer none) => some false
    | .v (.pointer none), .ptr _ _ => some false
    | _, _ => none
  | some (.slice _) => match a, b with
    | .sl _ _ _ _, .v (.slice none _ _) => some false
    | .v (.slice none _ _), .sl _ _ _ _ => some false
    | _, _ => none
  | some (.interface _) => match a, b with
    | .ifc _ _, .v .nilIface => some false
    | .v .nilIface, .ifc _ _ => some false
    | .ifc t _, .v (.iface u _) => bif Nat.beq t u then none else some false
    | .v (.iface u _), .ifc t _ => bif Nat.beq t u then none else some false
    | _, _ => none
  | _ => none
/-- whole numbers of 64 bits that stay small, fast for the kernel -/
noncomputable def fastBin (op : BinOp) (a b : Nat) : Option Value := match op with
  | .add => bif Nat.ble (Nat.add a b) 9223372036854775807 then some (.int .i64 (.ofNat (Nat.add a b))) else none
  | .sub => bif Nat.ble b a && Nat.ble a 9223372036854775807 then some (.int .i64 (.ofNat (Nat.sub a b))) else none
  | .mul => bif Nat.ble (Nat.mul a b) 9223372036854775807 then some (.int .i64 (.ofNat (Nat.mul a b))) else none
  | .eql => some (.bool (Nat.beq a b))
  | .neq => some (.bool (Bool.not (Nat.beq a b)))
  | .lss => some (.bool (Nat.ble (Nat.succ a) b))
  | .leq => some (.bool (Nat.ble a b))
  | .gtr => some (.bool (Nat.ble (Nat.succ b) a))
  | .geq => some (.bool (Nat.ble b a))
  | _ => none
def isI64 : IntKind → Bool
  | .i64 => true
  | _ => false
noncomputable def fastCmp (op : BinOp) (a b : Nat) : Option Value := match op with
  | .eql => some (.bool (Nat.beq a b))
  | .neq => some (.bool (Bool.not (Nat.beq a b)))
  | .lss => some (.bool (Nat.ble (Nat.succ a) b))
  | .leq => some (.bool (Nat.ble a b))
  | .gtr => some (.bool (Nat.ble (Nat.succ b) a))
  | .geq => some (.bool (Nat.ble b a))
  | _ => none
def sameK : IntKind → IntKind → Bool
  | .i8, .i8 | .i16, .i16 | .i32, .i32 | .i64, .i64 | .u8, .u8 | .u16, .u16 | .u32, .u32 | .u64, .u64 => true
  | _, _ => false
/-- the kernel's way to 'bin' -/
noncomputable def kBin (op : BinOp) (p q : Value) : Option Value := match p, q with
  | .int k (.ofNat a), .int k' (.ofNat b) => bif sameK k k' then (match (bif isI64 k then fastBin op a b else fastCmp op a b) with | some v => some v | none => bin op p q) else none
  | _, _ => bin op p q
theorem sameK_ok {k k' : IntKind} (h : sameK k k' = true) : k = k' := by cases k <;> cases k' <;> first | rfl | cases h
theorem fastCmp_ok {op : BinOp} {k : IntKind} {a b : Nat} {v : Value} (h : fastCmp op a b = some v) : bin op (.int k (.ofNat a)) (.int k (.ofNat b)) = some v := by
  unfold fastCmp at h
  cases op <;> simp only [Option.some.injEq] at h <;> try (cases h; done)
  all_goals subst h
  · rw [bin_eql]; congr 2
    by_cases e : a = b
    · subst e; simp
    · have h1 : Nat.beq a b = false := Bool.eq_false_iff.mpr fun h => e (Nat.eq_of_beq_eq_true h)
      have h2 : ¬ (Int.ofNat a = Int.ofNat b) := fun h => e (Int.ofNat.inj h)
      simp [h1]; omega
  · rw [bin_neq]; congr 2
    by_cases e : a = b
    · subst e; simp
    · have h1 : Nat.beq a b = false := Bool.eq_false_iff.mpr fun h => e (Nat.eq_of_beq_eq_true h)
      simp [h1, bne]; omega
  · rw [bin_lss]; congr 2
    by_cases e : a < b
    · have h1 : Nat.ble (Nat.succ a) b = true := Nat.ble_eq.mpr e
      rw [h1]; simp; omega
    · have h1 : Nat.ble (Nat.succ a) b = false := Bool.eq_false_iff.mpr fun h => e (Nat.le_of_ble_eq_true h)
      rw [h1]; simp; omega
  · rw [bin_leq]; congr 2
    by_cases e : a ≤ b
    · have h1 : Nat.ble a b = true := Nat.ble_eq.mpr e
      rw [h1]; simp; omega
    · have h1 : Nat.ble a b = false := Bool.eq_false_iff.mpr fun h => e (Nat.le_of_ble_eq_true h)
      rw [h1]; simp; omega
  · rw [bin_gtr]; congr 2
    by_cases e : b < a
    · have h1 : Nat.ble (Nat.succ b) a = true := Nat.ble_eq.mpr e
      rw [h1]; simp; omega
    · have h1 : Nat.ble (Nat.succ b) a = false := Bool.eq_false_iff.mpr fun h => e (Nat.le_of_ble_eq_true h)
      rw [h1]; simp; omega
  · rw [bin_geq]; congr 2
    by_cases e : b ≤ a
    · have h1 : Nat.ble b a = true := Nat.ble_eq.mpr e
      rw [h1]; simp; omega
    · have h1 : Nat.ble b a = false := Bool.eq_false_iff.mpr fun h => e (Nat.le_of_ble_eq_true h)
      rw [h1]; simp; omega
theorem fastBin_ok {op : BinOp} {a b : Nat} {v : Value} (h : fastBin op a b = some v) : bin op (.int .i64 (.ofNat a)) (.int .i64 (.ofNat b)) = some v := by
  by_cases hc : fastCmp op a b = some v
  · exact fastCmp_ok hc
  · unfold fastBin at h
    unfold fastCmp at hc
    cases op <;> simp only at h hc <;> try (exact absurd h hc)
    all_goals try (cases h; done)
    · cases hb : Nat.ble (Nat.add a b) 9223372036854775807 with
      | false => rw [hb] at h; cases h
      | true =>
        rw [hb] at h
        cases h
        have hle : a + b ≤ 9223372036854775807 := Nat.le_of_ble_eq_true hb
        rw [bin_add, wrap_i64 (by simp; omega) (by simp; omega)]
        rfl
    · cases hb : (Nat.ble b a && Nat.ble a 9223372036854775807) with
      | false => rw [hb] at h; cases h
      | true =>
        rw [hb] at h
        cases h
        simp only [Bool.and_eq_true, Nat.ble_eq] at hb
        rw [bin_sub, wrap_i64 (by simp; omega) (by simp; omega)]
        congr 2
        show (a : Int) - (b : Int) = ((a - b : Nat) : Int)
        omega
    · cases hb : Nat.ble (Nat.mul a b) 9223372036854775807 with
      | false => rw [hb] at h; cases h
      | true =>
        rw [hb] at h
        cases h
        have hle : a * b ≤ 9223372036854775807 := Nat.le_of_ble_eq_true hb
        have e : Int.ofNat a * Int.ofNat b = ((a * b : Nat) : Int) := (Int.natCast_mul a b).symm
        rw [bin_mul, e, wrap_i64 (by omega) (by omega)]
        rfl
theorem kBin_ok {op : BinOp} {p q r : Value} (h : kBin op p q = some r) : bin op p q = some r := by
  unfold kBin at h
  split at h
  · rename_i k a k' b
    cases hk : sameK k k' with
    | false => rw [hk] at h; cases h
    | true =>
      rw [hk] at h
      simp only [cond_true] at h
      have := sameK_ok hk
      subst this
      split at h
      · rename_i v hv
        cases h
        cases hi : isI64 k with
        | true =>
          rw [hi] at hv
          cases k <;> first | exact fastBin_ok hv | cases hi
        | false =>
          rw [hi] at hv
          exact fastCmp_ok hv
      · exact h
  · exact h
noncomputable def bBin (op : BinOp) (t : TypeId) (x y : Operand) (a b : AV) : Option AV :=
  match a, b with
  | .v p, .v q => (bif isIntT P t && arith op then kBin op p q else prun P (do eqGuard op t x y p q; binOp op t p q)).ob fun r => some (.v r)
  | _, _ => match op with
    | .eql => (eqSpec P t a b).ob fun r => some (.v (.bool r))
    | .neq => (eqSpec P t a b).ob fun r => some (.v (.bool (!r)))
    | _ => none
noncomputable def bFieldAddr (s : TypeId) (a : AV) (f : Nat) : Option AV := match a with
  | .v p => (prun P (Instr.fieldAt s p f)).ob fun r => some (.v r)
  | .ptr k o => match P.underlying s with
    | some (.struct fs) => (fs[f]?).ob fun fd => (P.info? fd.type).ob fun i => bif Nat.beq i.size 0 then none else some (.ptr k (o + fd.offset))
    | _ => none
  | _ => none
/-- the part of so many cells -/
noncomputable def bPart (t : TypeId) (l : List AV) (off : Nat) : Option AV := (P.info? t).ob fun i => (P.underlying t).ob fun _ =>
  bif isAggB P t then some (mkAgg ((l.drop off).take i.size)) else l[off]?
noncomputable def bField (t : TypeId) (a : AV) (f : Nat) : Option AV := match a with
  | .v p => (prun P (Instr.field t p f)).ob fun r => some (.v r)
  | .agg l => match P.underlying t with
    | some (.struct fs) => (fs[f]?).ob fun fd => bPart P fd.type l fd.offset
    | _ => none
  | _ => none
noncomputable def bIndexAddr (t : TypeId) (a i : AV) : Option AV := match a, i with
  | .v p, .v i => (prun P (Instr.indexAt t p i)).ob fun r => some (.v r)
  | .sl k o n _, .v (.int _ j) => match P.underlying t with
    | some (.slice e) => (P.info? e).ob fun i => bif Nat.blt j.toNat n then (match j with | .ofNat j => some (.ptr k (o + j * i.size)) | _ => none) else none
    | _ => none
  | .ptr k o, .v (.int _ j) => match P.underlying t with
    | some (.array n e) => (P.info? e).ob fun i => bif Nat.blt j.toNat n then (match j with | .ofNat j => some (.ptr k (o + j * i.size)) | _ => none) else none
    | _ => none
  | _, _ => none
noncomputable def bNil (a : AV) : Option AV := match a with
  | .ptr k o => some (.ptr k o)
  | .v p => (nilV P p).ob fun r => some (.v r)
  | _ => none
noncomputable def bExtract (a : AV) (i : Nat) : Option AV := match a with
  | .v p => (prun P (Instr.extract p i)).ob fun r => some (.v r)
  | .tup l => l[i]?
  | _ => none
noncomputable def fillL (place : Nat → Option (Nat × Nat)) : List AV → List (Nat × AV) → Option (List AV)
  | cells, [] => some cells
  | cells, (i, a) :: rest => match place i with
    | some (off, size) => bif Nat.beq (cellsOfAV a).length size && Nat.ble (off + size) cells.length then fillL place (cells.take off ++ cellsOfAV a ++ cells.drop (off + size)) rest else none
    | none => none
noncomputable def bBuild (t : TypeId) (ns : List Nat) (as : List AV) : Option AV := match pl as with
  | some vs => (prun P (Instr.build t (ns.zip vs).toArray)).ob fun r => some (.v r)
  | none => (P.info? t).ob fun i => i.zero.ob fun z => match P.underlying t with
    | some (.struct fields) => (prun P (fields.mapM fun f => do pure (f.offset, ← sizeOf f.type))).ob fun places => (fillL (places[·]?) (z.cells.toList.map .v) (ns.zip as)).ob fun r => some (mkAgg r)
    | _ => none
noncomputable def bMakeIface (t : TypeId) (a : AV) : Option AV := match a with
  | .v p => (prun P (Instr.makeInterface t p)).ob fun r => some (.v r)
  | a => match P.underlying t with
    | some (.interface _) => none
    | some _ => some (.ifc t a)
    | none => none
noncomputable def bMakeFunc (fn : Fn) (first cap : List AV) : Option AV := match pl first, pl cap with
  | some a, some b => some (.v (.func fn a.toArray b.toArray))
  | _, _ => match fn with
    | .func f => some (.fn f first cap)
    | _ => none
noncomputable def bAssert (a : AV) (xt u : TypeId) (ok : Bool) : Option AV := match a with
  | .v p => (prun P (Instr.typeAssert p xt u ok)).ob fun r => some (.v r)
  | .ifc t x => match P.underlying u with
    | some (.interface want) => (P.info? t).ob fun i => match Instr.missingMethod want i.methods with
      | none => some (bif ok then mkTup [.ifc t x, .v (.bool true)] else .ifc t x)
      | some _ => bif ok then (P.info? u).ob fun i => i.zero.ob fun z => some (.v (.tuple #[z, .bool false])) else none
    | some _ => bif Nat.beq t u then some (bif ok then mkTup [x, .v (.bool true)] else x) else bif ok then (P.info? u).ob fun i => i.zero.ob fun z => some (.v (.tuple #[z, .bool false])) else none
    | none => none
  | _ => none

/-! ### what holds of them -/
variable {P}
theorem bin_plain {op : BinOp} {t : TypeId} {x y : Operand} {p q r : Value} (h : (if (isIntT P t && arith op) = true then bin op p q else prun P (do eqGuard op t x y p q; binOp op t p q)) = some r) (w : World) {σ : Type} (next : Value → World → Option σ) :
    (if (isIntT P t && arith op) = true then (bin op p q).bind fun v => next v w
      else if scalarT P t = true then (prun P (do eqGuard op t x y p q; binOp op t p q)).bind fun v => next v w
      else (rrun P (do eqGuard op t x y p q; binOp op t p q) w).bind fun v => next v w) = next r w := by
  split at h
  · rename_i h1; rw [if_pos h1, h]; rfl
  · rename_i h1
    rw [if_neg h1]
    split
    · rw [h]; rfl
    · rw [rrun_of_prun h w]; rfl
theorem eq_fin {op : BinOp} {t : TypeId} {x y : Operand} {A B r : Value} {w : World} (h1 : isIntT P t = false) (h2 : scalarT P t = false) (h3 : rrun P (do eqGuard op t x y A B; binOp op t A B) w = some r) {σ : Type} (next : Value → World → Option σ) :
    (if (isIntT P t && arith op) = true then (bin op A B).bind fun v => next v w
      else if scalarT P t = true then (prun P (do eqGuard op t x y A B; binOp op t A B)).bind fun v => next v w
      else (rrun P (do eqGuard op t x y A B; binOp op t A B) w).bind fun v => next v w) = next r w := by
  rw [if_neg (by simp [h1]), if_neg (by simp [h2]), h3]
  rfl
section
variable {w : World} {t : TypeId} (d : Nat)
theorem eqi_pn {e : TypeId} (hu : P.underlying t = some (.pointer e)) (a : Addr) : rrun P (Op.equalIn (d + 1) t (.pointer (some a)) (.pointer none)) w = some false := by simp [Op.equalIn, rrun_bind, rrun_of_prun (prun_underlying hu)]
theorem eqi_np {e : TypeId} (hu : P.underlying t = some (.pointer e)) (a : Addr) : rrun P (Op.equalIn (d + 1) t (.pointer none) (.pointer (some a))) w = some false := by simp [Op.equalIn, rrun_bind, rrun_of_prun (prun_underlying hu)]
theorem eqi_sn {e : TypeId} (hu : P.underlying t = some (.slice e)) (a : Addr) (n c n' c' : Nat) : rrun P (Op.equalIn (d + 1) t (.slice (some a) n c) (.slice none n' c')) w = some false := by simp [Op.equalIn, rrun_bind, rrun_of_prun (prun_underlying hu)]
theorem eqi_ns {e : TypeId} (hu : P.underlying t = some (.slice e)) (a : Addr) (n c n' c' : Nat) : rrun P (Op.equalIn (d + 1) t (.slice none n' c') (.slice (some a) n c)) w = some false := by simp [Op.equalIn, rrun_bind, rrun_of_prun (prun_underlying hu)]
theorem eqi_in {ms : Array (String × TypeId)} (hu : P.underlying t = some (.interface ms)) (u : TypeId) (v : Value) : rrun P (Op.equalIn (d + 1) t (.iface u v) .nilIface) w = some false := by simp [Op.equalIn, rrun_bind, rrun_of_prun (prun_underlying hu)]
theorem eqi_ni {ms : Array (String × TypeId)} (hu : P.underlying t = some (.interface ms)) (u : TypeId) (v : Value) : rrun P (Op.equalIn (d + 1) t .nilIface (.iface u v)) w = some false := by simp [Op.equalIn, rrun_bind, rrun_of_prun (prun_underlying hu)]
theorem eqi_ii {ms : Array (String × TypeId)} (hu : P.underlying t = some (.interface ms)) (u u' : TypeId) (v v' : Value) (hne : u ≠ u') : rrun P (Op.equalIn (d + 1) t (.iface u v) (.iface u' v')) w = some false := by simp [Op.equalIn, rrun_bind, rrun_of_prun (prun_underlying hu), hne]
end
theorem eq_run {t : TypeId} {x y : Operand} {A B : Value} {w : World} {r : Bool} (i1 : isIntT P t = false) (i2 : scalarT P t = false) (hE : rrun P (Op.equalIn (9999 + 1) t A B) w = some r)
    (g1 : eqGuard .eql t x y A B = pure ()) (g2 : eqGuard .neq t x y A B = pure ()) (b1 : binOp .eql t A B = (do pure (.bool (← Op.equal t A B)))) (b2 : binOp .neq t A B = (do pure (.bool (!(← Op.equal t A B))))) {σ : Type} (next : Value → World → Option σ) :
    ((if (isIntT P t && arith .eql) = true then (bin .eql A B).bind fun v => next v w
      else if scalarT P t = true then (prun P (do eqGuard .eql t x y A B; binOp .eql t A B)).bind fun v => next v w
      else (rrun P (do eqGuard .eql t x y A B; binOp .eql t A B) w).bind fun v => next v w) = next (.bool r) w) ∧
    ((if (isIntT P t && arith .neq) = true then (bin .neq A B).bind fun v => next v w
      else if scalarT P t = true then (prun P (do eqGuard .neq t x y A B; binOp .neq t A B)).bind fun v => next v w
      else (rrun P (do eqGuard .neq t x y A B; binOp .neq t A B) w).bind fun v => next v w) = next (.bool (!r)) w) := by
  have hE' : rrun P (Op.equal t A B) w = some r := hE
  refine ⟨eq_fin i1 i2 ?_ next, eq_fin i1 i2 ?_ next⟩
  · rw [g1, b1, rrun_bind, rrun_pure, Option.bind_some, rrun_bind, hE']; rfl
  · rw [g2, b2, rrun_bind, rrun_pure, Option.bind_some, rrun_bind, hE']; rfl
theorem eqSpec_ok {t : TypeId} {a b : AV} {r : Bool} (h : eqSpec P t a b = some r) {ρ : Rho} {A B : Value} (hA : g ρ a = some A) (hB : g ρ b = some B) (x y : Operand) (w : World) {σ : Type} (next : Value → World → Option σ) :
    ((if (isIntT P t && arith .eql) = true then (bin .eql A B).bind fun v => next v w
      else if scalarT P t = true then (prun P (do eqGuard .eql t x y A B; binOp .eql t A B)).bind fun v => next v w
      else (rrun P (do eqGuard .eql t x y A B; binOp .eql t A B) w).bind fun v => next v w) = next (.bool r) w) ∧
    ((if (isIntT P t && arith .neq) = true then (bin .neq A B).bind fun v => next v w
      else if scalarT P t = true then (prun P (do eqGuard .neq t x y A B; binOp .neq t A B)).bind fun v => next v w
      else (rrun P (do eqGuard .neq t x y A B; binOp .neq t A B) w).bind fun v => next v w) = next (.bool (!r)) w) := by
  unfold eqSpec at h
  split at h
  · rename_i e hu
    have i1 : isIntT P t = false := by unfold isIntT; rw [hu]
    have i2 : scalarT P t = false := by unfold scalarT; rw [hu]
    split at h
    · cases h
      simp only [g] at hA hB
      split at hA <;> cases hA
      cases hB
      exact eq_run i1 i2 (eqi_pn 9999 hu _) rfl rfl rfl rfl next
    · cases h
      simp only [g] at hA hB
      split at hB <;> cases hB
      cases hA
      exact eq_run i1 i2 (eqi_np 9999 hu _) rfl rfl rfl rfl next
    · cases h
  · rename_i e hu
    have i1 : isIntT P t = false := by unfold isIntT; rw [hu]
    have i2 : scalarT P t = false := by unfold scalarT; rw [hu]
    split at h
    · cases h
      simp only [g] at hA hB
      split at hA <;> cases hA
      cases hB
      exact eq_run i1 i2 (eqi_sn 9999 hu _ _ _ _ _) rfl rfl rfl rfl next
    · cases h
      simp only [g] at hA hB
      split at hB <;> cases hB
      cases hA
      exact eq_run i1 i2 (eqi_ns 9999 hu _ _ _ _ _) rfl rfl rfl rfl next
    · cases h
  · rename_i ms hu
    have i1 : isIntT P t = false := by unfold isIntT; rw [hu]
    have i2 : scalarT P t = false := by unfold scalarT; rw [hu]
    split at h
    · cases h
      simp only [g] at hA hB
      split at hA <;> cases hA
      cases hB
      exact eq_run i1 i2 (eqi_in 9999 hu _ _) rfl rfl rfl rfl next
    · cases h
      simp only [g] at hA hB
      split at hB <;> cases hB
      cases hA
      exact eq_run i1 i2 (eqi_ni 9999 hu _ _) rfl rfl rfl rfl next
    · rename_i t1 _ u1 _ 
      cases hb : Nat.beq t1 u1 with
      | true => rw [hb] at h; cases h
      | false =>
        rw [hb] at h
        cases h
        have hne : t1 ≠ u1 := fun e => by rw [e, Nat.beq_refl] at hb; cases hb
        simp only [g] at hA hB
        split at hA <;> cases hA
        cases hB
        exact eq_run i1 i2 (eqi_ii 9999 hu _ _ _ _ hne) rfl rfl rfl rfl next
    · rename_i u1 _ t1 _
      cases hb : Nat.beq t1 u1 with
      | true => rw [hb] at h; cases h
      | false =>
        rw [hb] at h
        cases h
        have hne : u1 ≠ t1 := fun e => by rw [e, Nat.beq_refl] at hb; cases hb
        simp only [g] at hA hB
        split at hB <;> cases hB
        cases hA
        exact eq_run i1 i2 (eqi_ii 9999 hu _ _ _ _ (fun e => hne e)) rfl rfl rfl rfl next
    · cases h
  · cases h
theorem bBin_ok {op : BinOp} {t : TypeId} {x y : Operand} {a b r : AV} (h : bBin P op t x y a b = some r) {ρ : Rho} {A B : Value} (hA : g ρ a = some A) (hB : g ρ b = some B) (w : World) :
    ∃ V, g ρ r = some V ∧ ∀ {σ : Type} (next : Value → World → Option σ), (if (isIntT P t && arith op) = true then (bin op A B).bind fun v => next v w
      else if scalarT P t = true then (prun P (do eqGuard op t x y A B; binOp op t A B)).bind fun v => next v w
      else (rrun P (do eqGuard op t x y A B; binOp op t A B) w).bind fun v => next v w) = next V w := by
  unfold bBin at h
  split at h
  · simp only [Option.ob_eq, Option.bind_eq_some_iff, Option.some.injEq] at h
    obtain ⟨q, h1, rfl⟩ := h
    simp only [g, Option.some.injEq] at hA hB
    subst hA; subst hB
    refine ⟨q, rfl, fun next => bin_plain ?_ w next⟩
    cases hc : (isIntT P t && arith op) with
    | true => rw [hc] at h1; rw [if_pos rfl]; exact kBin_ok h1
    | false => rw [hc] at h1; rw [if_neg (by simp)]; exact h1
  · split at h
    · simp only [Option.ob_eq, Option.bind_eq_some_iff, Option.some.injEq] at h
      obtain ⟨q, h1, rfl⟩ := h
      exact ⟨.bool q, rfl, fun next => (eqSpec_ok h1 hA hB x y w next).1⟩
    · simp only [Option.ob_eq, Option.bind_eq_some_iff, Option.some.injEq] at h
      obtain ⟨q, h1, rfl⟩ := h
      exact ⟨.bool (!q), rfl, fun next => (eqSpec_ok h1 hA hB x y w next).2⟩
    · cases h
theorem bFieldAddr_ok {s : TypeId} {a r : AV} {f : Nat} (h : bFieldAddr P s a f = some r) {ρ : Rho} {A : Value} (hA : g ρ a = some A) : ∃ V, g ρ r = some V ∧ prun P (Instr.fieldAt s A f) = some V := by
  unfold bFieldAddr at h
  split at h
  · simp only [Option.ob_eq, Option.bind_eq_some_iff, Option.some.injEq] at h
    obtain ⟨q, h1, rfl⟩ := h
    simp only [g, Option.some.injEq] at hA
    subst hA
    exact ⟨q, rfl, h1⟩
  · rename_i k o
    split at h
    · rename_i fs hu
      simp only [Option.ob_eq, Option.bind_eq_some_iff] at h
      obtain ⟨fd, h1, i, h2, h3⟩ := h
      cases hz : Nat.beq i.size 0 with
      | true => rw [hz] at h3; cases h3
      | false =>
        rw [hz] at h3
        cases h3
        have hne : ¬ i.size = 0 := fun e => by rw [e] at hz; cases hz
        simp only [g] at hA
        split at hA <;> cases hA
        rename_i p hp
        refine ⟨.pointer (some ⟨p.1, o + fd.offset, none⟩), by simp [g, hp], ?_⟩
        unfold Instr.fieldAt
        simp [prun_bind, prun_underlying hu, h1, Instr.sureAddr, fieldPlace, prun_sizeOf h2, hne, addL]
    · cases h
  · cases h
theorem bPart_ok {t : TypeId} {l : List AV} {off : Nat} {r : AV} (h : bPart P t l off = some r) {ρ : Rho} {vs : List Value} (hl : gs ρ l = some vs) : ∃ V, g ρ r = some V ∧ prun P (part t vs.toArray off) = some V := by
  unfold bPart at h
  simp only [Option.ob_eq, Option.bind_eq_some_iff] at h
  obtain ⟨i, h1, d, h2, h3⟩ := h
  cases ha : isAggB P t with
  | true =>
    rw [ha] at h3
    cases h3
    refine ⟨_, g_mkAgg (gs_take _ (gs_drop _ hl)), ?_⟩
    have h' : prun P (isAgg t) = some true := by
      unfold isAggB at ha
      rw [h2] at ha
      unfold isAgg
      simp only [prun_bind, prun_underlying h2, Option.bind_some]
      cases d <;> first | rfl | cases ha
    unfold part
    simp [prun_bind, h', prun_sizeOf h1, List.extract_eq_take_drop]
  | false =>
    rw [ha] at h3
    simp only [cond_false] at h3
    obtain ⟨V, h4, h5⟩ := gs_get hl h3
    refine ⟨V, h5, ?_⟩
    have h' : prun P (isAgg t) = some false := by
      unfold isAggB at ha
      rw [h2] at ha
      unfold isAgg
      simp only [prun_bind, prun_underlying h2, Option.bind_some]
      cases d <;> first | rfl | cases ha
    unfold part
    simp [prun_bind, h', h4]
theorem bField_ok {t : TypeId} {a r : AV} {f : Nat} (h : bField P t a f = some r) {ρ : Rho} {A : Value} (hA : g ρ a = some A) : ∃ V, g ρ r = some V ∧ prun P (Instr.field t A f) = some V := by
  unfold bField at h
  split at h
  · simp only [Option.ob_eq, Option.bind_eq_some_iff, Option.some.injEq] at h
    obtain ⟨q, h1, rfl⟩ := h
    simp only [g, Option.some.injEq] at hA
    subst hA
    exact ⟨q, rfl, h1⟩
  · rename_i l
    split at h
    · rename_i fs hu
      simp only [Option.ob_eq, Option.bind_eq_some_iff] at h
      obtain ⟨fd, h1, h2⟩ := h
      simp only [g] at hA
      split at hA <;> cases hA
      rename_i vs hvs
      obtain ⟨V, h3, h4⟩ := bPart_ok h2 hvs
      refine ⟨V, h3, ?_⟩
      unfold Instr.field
      simp [prun_bind, prun_underlying hu, h1, asAgg, h4]
    · cases h
  · cases h
theorem bIndexAddr_ok {t : TypeId} {a i r : AV} (h : bIndexAddr P t a i = some r) {ρ : Rho} {A I : Value} (hA : g ρ a = some A) (hI : g ρ i = some I) : ∃ V, g ρ r = some V ∧ prun P (Instr.indexAt t A I) = some V := by
  unfold bIndexAddr at h
  split at h
  · simp only [Option.ob_eq, Option.bind_eq_some_iff, Option.some.injEq] at h
    obtain ⟨q, h1, rfl⟩ := h
    simp only [g, Option.some.injEq] at hA hI
    subst hA; subst hI
    exact ⟨q, rfl, h1⟩
  · rename_i k o n c kd j
    split at h
    · rename_i e hu
      simp only [Option.ob_eq, Option.bind_eq_some_iff] at h
      obtain ⟨i, h1, h2⟩ := h
      cases hb : Nat.blt j.toNat n with
      | false => rw [hb] at h2; cases h2
      | true =>
        rw [hb] at h2
        simp only [cond_true] at h2
        split at h2
        · rename_i j
          cases h2
          simp only [g] at hA hI
          split at hA <;> cases hA
          cases hI
          rename_i p hp
          have hj : j < n := by simpa [Nat.blt_eq] using hb
          refine ⟨.pointer (some ⟨p.1, o + j * i.size, none⟩), by simp [g, hp], ?_⟩
          have := index_slice (P := P) hu h1 ⟨p.1, o, none⟩ n (c.at p.2) kd (Int.ofNat j) (Int.natCast_nonneg j) (by simpa using hj)
          rw [this, addL]
          rfl
        · cases h2
    · cases h
  · rename_i k o kd j
    split at h
    · rename_i n e hu
      simp only [Option.ob_eq, Option.bind_eq_some_iff] at h
      obtain ⟨i, h1, h2⟩ := h
      cases hb : Nat.blt j.toNat n with
      | false => rw [hb] at h2; cases h2
      | true =>
        rw [hb] at h2
        simp only [cond_true] at h2
        split at h2
        · rename_i j
          cases h2
          simp only [g] at hA hI
          split at hA <;> cases hA
          cases hI
          rename_i p hp
          have hj : j < n := by simpa [Nat.blt_eq] using hb
          refine ⟨.pointer (some ⟨p.1, o + j * i.size, none⟩), by simp [g, hp], ?_⟩
          have h0 : (0 : Int) ≤ Int.ofNat j := Int.natCast_nonneg j
          have h3 : Int.ofNat j < (n : Int) := by simpa using hj
          unfold Instr.indexAt
          simp [prun_bind, prun_underlying hu, asIntOf, h0, h3, hj, prun_sizeOf h1, Instr.sureAddr, addL]
        · cases h2
    · cases h
  · cases h
theorem bNil_ok {a r : AV} (h : bNil P a = some r) {ρ : Rho} {A : Value} (hA : g ρ a = some A) : ∃ V, g ρ r = some V ∧ nilV P A = some V := by
  unfold bNil at h
  split at h
  · cases h
    simp only [g] at hA
    split at hA <;> cases hA
    rename_i p hp
    exact ⟨_, by simp [g, hp], rfl⟩
  · simp only [Option.ob_eq, Option.bind_eq_some_iff, Option.some.injEq] at h
    obtain ⟨q, h1, rfl⟩ := h
    simp only [g, Option.some.injEq] at hA
    subst hA
    exact ⟨q, rfl, h1⟩
  · cases h
theorem bExtract_ok {a r : AV} {i : Nat} (h : bExtract P a i = some r) {ρ : Rho} {A : Value} (hA : g ρ a = some A) : ∃ V, g ρ r = some V ∧ prun P (Instr.extract A i) = some V := by
  unfold bExtract at h
  split at h
  · simp only [Option.ob_eq, Option.bind_eq_some_iff, Option.some.injEq] at h
    obtain ⟨q, h1, rfl⟩ := h
    simp only [g, Option.some.injEq] at hA
    subst hA
    exact ⟨q, rfl, h1⟩
  · simp only [g] at hA
    split at hA <;> cases hA
    rename_i vs hvs
    obtain ⟨V, h1, h2⟩ := gs_get hvs h
    exact ⟨V, h2, by unfold Instr.extract; simp [h1]⟩
  · cases h
end
end Go.Sh.Ev

namespace Go.Sh.Ev
open Go Go.RowKit
set_option linter.unusedVariables false
set_option linter.unusedSimpArgs false

/-! ### structs that are built -/
theorem foldl_set (off : Nat) : ∀ (cs : List Value) (j : Nat) (A : Array Value), off + j + cs.length ≤ A.size →
    ((cs.zipIdx j).foldl (fun (A : Array Value) (p : Value × Nat) => A.setIfInBounds (off + p.2) p.1) A).toList = A.toList.take (off + j) ++ cs ++ A.toList.drop (off + j + cs.length)
  | [], j, A, h => by simp
  | c :: r, j, A, h => by
    simp only [List.length_cons] at h
    simp only [List.zipIdx_cons, List.foldl_cons]
    rw [foldl_set off r (j + 1) _ (by simp; omega)]
    have hl : off + j < A.toList.length := by simp; omega
    simp only [Array.toList_setIfInBounds]
    rw [List.set_eq_take_append_cons_drop, if_pos hl]
    have e1 : (A.toList.take (off + j)).length = off + j := by simp; omega
    have e2 : off + (j + 1) = (off + j) + 1 := by omega
    rw [e2, List.take_append, List.drop_append, e1]
    simp only [List.take_take, List.length_cons]
    have e3 : off + j + 1 - (off + j) = 1 := by omega
    have e4 : min (off + j + 1) (off + j) = off + j := by omega
    have e5 : (off + j + 1 + r.length) - (off + j) = r.length + 1 := by omega
    have e6 : (A.toList.take (off + j)).drop (off + j + 1 + r.length) = [] := by
      rw [List.drop_eq_nil_iff]; rw [e1]; omega
    rw [e3, e4, e5, e6]
    simp only [List.take_succ_cons, List.take_zero, List.drop_succ_cons, List.drop_drop, List.nil_append, List.append_assoc, List.singleton_append, List.cons_append]
    congr 3
    congr 1
    omega
theorem fill_step {off size : Nat} {cells : Array Value} {v : Value} : (v.cells.zipIdx.foldl (fun cs (c, j) => cs.setIfInBounds (off + j) c) cells) = (v.cells.toList.zipIdx.foldl (fun (A : Array Value) (p : Value × Nat) => A.setIfInBounds (off + p.2) p.1) cells) := by
  rw [← Array.foldl_toList, Array.toList_zipIdx]
theorem fill_ok {ρ : Rho} {place : Nat → Option (Nat × Nat)} : ∀ (ns : List Nat) (as : List AV) (vs : List Value) (cells : List AV) (cs : List Value) (r : List AV),
    fillL place cells (ns.zip as) = some r → gs ρ cells = some cs → gs ρ as = some vs → ∃ rs, gs ρ r = some rs ∧ Instr.fill place cs.toArray (ns.zip vs) = some rs.toArray := by
  intro ns
  induction ns with
  | nil => intro as vs cells cs r h hc ha; simp [fillL] at h; subst h; exact ⟨cs, hc, by simp [Instr.fill]⟩
  | cons n ns ih =>
    intro as vs cells cs r h hc ha
    cases as with
    | nil => rw [gs_nil] at ha; subst ha; simp [fillL] at h; subst h; exact ⟨cs, hc, by simp [Instr.fill]⟩
    | cons a as =>
      obtain ⟨V, vs', h1, h2, rfl⟩ := gs_cons.mp ha
      simp only [List.zip_cons_cons, fillL] at h
      simp only [List.zip_cons_cons, Instr.fill]
      cases hp : place n with
      | none => rw [hp] at h; cases h
      | some p =>
        obtain ⟨off, size⟩ := p
        rw [hp] at h
        simp only at h
        cases hb : (Nat.beq (cellsOfAV a).length size && Nat.ble (off + size) cells.length) with
        | false => rw [hb] at h; cases h
        | true =>
          rw [hb] at h
          simp only [cond_true] at h
          simp only [Bool.and_eq_true, Nat.beq_eq, Nat.ble_eq] at hb
          obtain ⟨b1, b2⟩ := hb
          have hcell := gs_cells h1
          have hlen := gs_length hcell
          have hlc := gs_length hc
          have hsz : V.cells.size = size := by rw [← Array.length_toList, hlen, b1]
          have hnew := gs_append (gs_append (gs_take off hc) hcell) (gs_drop (off + size) hc)
          obtain ⟨rs, h3, h4⟩ := ih as vs' _ _ r h hnew h2
          refine ⟨rs, h3, ?_⟩
          have hcond : (V.cells.size ≠ size || off + V.cells.size > cs.toArray.size : Bool) = false := by
            simp [hsz]; omega
          simp only [hcond]
          rw [if_neg (by simp), fill_step (size := size)]
          have e := foldl_set off V.cells.toList 0 cs.toArray (by simp [hsz]; omega)
          have e2 : (V.cells.toList.zipIdx.foldl (fun (A : Array Value) (p : Value × Nat) => A.setIfInBounds (off + p.2) p.1) cs.toArray) = (cs.take off ++ V.cells.toList ++ cs.drop (off + size)).toArray := by
            apply Array.ext'
            rw [e]
            simp [hsz]
          rw [e2]
          exact h4
section
variable {P : Program}
theorem bBuild_ok {t : TypeId} {ns : List Nat} {as : List AV} {r : AV} (h : bBuild P t ns as = some r) {ρ : Rho} {vs : List Value} (ha : gs ρ as = some vs) : ∃ V, g ρ r = some V ∧ prun P (Instr.build t (ns.zip vs).toArray) = some V := by
  unfold bBuild at h
  split at h
  · rename_i us hu
    have := gs_pl (ρ := ρ) hu
    rw [ha] at this
    cases this
    simp only [Option.ob_eq, Option.bind_eq_some_iff, Option.some.injEq] at h
    obtain ⟨q, h1, rfl⟩ := h
    exact ⟨q, rfl, h1⟩
  · simp only [Option.ob_eq, Option.bind_eq_some_iff] at h
    obtain ⟨i, h1, z, h2, h3⟩ := h
    split at h3
    · rename_i fields hu
      simp only [Option.ob_eq, Option.bind_eq_some_iff, Option.some.injEq] at h3
      obtain ⟨places, h4, rl, h5, rfl⟩ := h3
      obtain ⟨rs, h6, h7⟩ := fill_ok ns as vs _ _ rl h5 (gs_map _) ha
      refine ⟨_, g_mkAgg h6, ?_⟩
      have hz : prun P (zeroValue t) = some z := by unfold zeroValue; simp [prun_bind, prun_typeInfo h1, h2]
      unfold Instr.build
      simp only [prun_bind, hz, Option.bind_some, prun_underlying hu, h4]
      simp only [Array.toArray_toList] at h7
      simp [h7]
    · cases h3
theorem bMakeIface_ok {t : TypeId} {a r : AV} (h : bMakeIface P t a = some r) {ρ : Rho} {A : Value} (hA : g ρ a = some A) : ∃ V, g ρ r = some V ∧ prun P (Instr.makeInterface t A) = some V := by
  unfold bMakeIface at h
  split at h
  · simp only [Option.ob_eq, Option.bind_eq_some_iff, Option.some.injEq] at h
    obtain ⟨q, h1, rfl⟩ := h
    simp only [g, Option.some.injEq] at hA
    subst hA
    exact ⟨q, rfl, h1⟩
  · split at h
    · cases h
    · rename_i d hu hd
      cases h
      refine ⟨.iface t A, by simp [g, hA], ?_⟩
      unfold Instr.makeInterface
      simp only [prun_bind, prun_underlying hd, Option.bind_some]
      cases d <;> first | rfl | exact absurd hd (by simpa using hu _)
    · cases h
theorem bMakeFunc_ok {fn : Fn} {first cap : List AV} {r : AV} (h : bMakeFunc fn first cap = some r) {ρ : Rho} {a b : List Value} (ha : gs ρ first = some a) (hb : gs ρ cap = some b) : g ρ r = some (.func fn a.toArray b.toArray) := by
  unfold bMakeFunc at h
  split at h
  · rename_i a' b' h1 h2
    have e1 := gs_pl (ρ := ρ) h1
    have e2 := gs_pl (ρ := ρ) h2
    rw [ha] at e1
    rw [hb] at e2
    cases e1; cases e2
    cases h
    rfl
  · split at h
    · cases h
      simp [g, ha, hb]
    · cases h
theorem bAssert_ok {a r : AV} {xt u : TypeId} {ok : Bool} (h : bAssert P a xt u ok = some r) {ρ : Rho} {A : Value} (hA : g ρ a = some A) : ∃ V, g ρ r = some V ∧ prun P (Instr.typeAssert A xt u ok) = some V := by
  unfold bAssert at h
  split at h
  · simp only [Option.ob_eq, Option.bind_eq_some_iff, Option.some.injEq] at h
    obtain ⟨q, h1, rfl⟩ := h
    simp only [g, Option.some.injEq] at hA
    subst hA
    exact ⟨q, rfl, h1⟩
  · rename_i t x
    have hI : ∃ X, g ρ x = some X ∧ A = .iface t X := by
      simp only [g] at hA
      split at hA <;> cases hA
      exact ⟨_, by assumption, rfl⟩
    obtain ⟨X, hX, rfl⟩ := hI
    split at h
    · rename_i want hu
      simp only [Option.ob_eq, Option.bind_eq_some_iff] at h
      obtain ⟨i, h1, h2⟩ := h
      split at h2
      · rename_i hm
        cases ok with
        | true =>
          cases h2
          refine ⟨_, g_mkTup (gs_cons.mpr ⟨_, _, hA, gs_cons.mpr ⟨_, _, rfl, rfl, rfl⟩, rfl⟩), ?_⟩
          unfold Instr.typeAssert
          simp [prun_bind, prun_underlying hu, prun_typeInfo h1, hm]
        | false =>
          cases h2
          refine ⟨_, hA, ?_⟩
          unfold Instr.typeAssert
          simp [prun_bind, prun_underlying hu, prun_typeInfo h1, hm]
      · rename_i m hm
        cases ok with
        | true =>
          simp only [cond_true, Option.ob_eq, Option.bind_eq_some_iff, Option.some.injEq] at h2
          obtain ⟨j, h3, z, h4, rfl⟩ := h2
          refine ⟨_, rfl, ?_⟩
          have hz : prun P (zeroValue u) = some z := by unfold zeroValue; simp [prun_bind, prun_typeInfo h3, h4]
          unfold Instr.typeAssert
          simp [prun_bind, prun_underlying hu, prun_typeInfo h1, hm, hz]
        | false => cases h2
    · rename_i d hd hu
      cases ht : Nat.beq t u with
      | true =>
        rw [ht] at h
        have ht' : t = u := Nat.eq_of_beq_eq_true ht
        cases ok with
        | true =>
          cases h
          refine ⟨_, g_mkTup (gs_cons.mpr ⟨_, _, hX, gs_cons.mpr ⟨_, _, rfl, rfl, rfl⟩, rfl⟩), ?_⟩
          unfold Instr.typeAssert
          simp only [prun_bind, prun_underlying hu, Option.bind_some]
          cases d <;> first | (simp [ht']; done) | exact absurd hu (by simpa using hd _)
        | false =>
          cases h
          refine ⟨_, hX, ?_⟩
          unfold Instr.typeAssert
          simp only [prun_bind, prun_underlying hu, Option.bind_some]
          cases d <;> first | (simp [ht']; done) | exact absurd hu (by simpa using hd _)
      | false =>
        rw [ht] at h
        have ht' : ¬ t = u := fun e => by rw [e, Nat.beq_refl] at ht; cases ht
        cases ok with
        | true =>
          simp only [cond_true, cond_false, Option.ob_eq, Option.bind_eq_some_iff, Option.some.injEq] at h
          obtain ⟨j, h3, z, h4, rfl⟩ := h
          refine ⟨_, rfl, ?_⟩
          have hz : prun P (zeroValue u) = some z := by unfold zeroValue; simp [prun_bind, prun_typeInfo h3, h4]
          unfold Instr.typeAssert
          simp only [prun_bind, prun_underlying hu, Option.bind_some]
          cases d <;> first | (simp [ht', prun_bind, hz]; done) | exact absurd hu (by simpa using hd _)
        | false => cases h
    · cases h
  · cases h
end

/-! ### reads -/
/-- an element; by the recursor -/
noncomputable def getL {α : Type} (l : List α) : Nat → Option α := List.rec (motive := fun _ => Nat → Option α) (fun _ => none) (fun a _ rec k => cond (Nat.beq k 0) (some a) (rec (Nat.sub k 1))) l
theorem getL_eq {α : Type} : ∀ (l : List α) (k : Nat), getL l k = l[k]?
  | [], k => by simp; rfl
  | a :: r, 0 => rfl
  | a :: r, k + 1 => by
    have := getL_eq r k
    show getL r (k + 1 - 1) = _
    simpa using this
/-- so many elements -/
noncomputable def takeL {α : Type} (n : Nat) : List α → Option (List α) := Nat.rec (motive := fun _ => List α → Option (List α)) (fun _ => some []) (fun _ rec l => List.casesOn l none (fun a r => Option.rec (motive := fun _ => Option (List α)) none (fun x => some (a :: x)) (rec r))) n
theorem takeL_ok {α : Type} : ∀ (n : Nat) (l x : List α), takeL n l = some x → x = l.take n ∧ x.length = n
  | 0, l, x, h => by cases h; simp
  | n + 1, [], x, h => by cases h
  | n + 1, a :: r, x, h => by
    have h' : Option.rec (motive := fun _ => Option (List α)) none (fun x => some (a :: x)) (takeL n r) = some x := h
    cases hr : takeL n r with
    | none => rw [hr] at h'; cases h'
    | some y =>
      rw [hr] at h'
      cases h'
      obtain ⟨h1, h2⟩ := takeL_ok n r y hr
      exact ⟨by rw [h1]; rfl, by simp [h2]⟩
noncomputable def dropL {α : Type} (l : List α) : Nat → List α := List.rec (motive := fun _ => Nat → List α) (fun _ => []) (fun a r rec k => cond (Nat.beq k 0) (a :: r) (rec (Nat.sub k 1))) l
theorem dropL_eq {α : Type} : ∀ (l : List α) (k : Nat), dropL l k = l.drop k
  | [], k => by simp; rfl
  | a :: r, 0 => rfl
  | a :: r, k + 1 => by
    have := dropL_eq r k
    show dropL r (k + 1 - 1) = _
    simpa using this
section
variable (P : Program) (G : Globs)
/-- so many cells from an address on -/
noncomputable def srcAt (H : AH) (a : AV) (n : Nat) : Option (List AV) := match a with
  | .ptr k o => match H.tr.get k with
    | some (.cells l _ _) => takeL n (dropL l o)
    | _ => none
  | .v (.pointer (some a)) => bif a.spot.isSome then none else (G a.block).ob fun l => (takeL n (dropL l a.off)).ob fun x => some (x.map .v)
  | _ => none
noncomputable def bLoad (H : AH) (t : TypeId) (a : AV) : Option AV :=
  bif isAggB P t then (P.info? t).ob fun i => (srcAt G H a i.size).ob fun l => some (mkAgg l)
  else (P.underlying t).ob fun _ => (srcAt G H a 1).ob fun l => l.head?
variable {P} {G}
theorem cell_of_RO {ρ : Rho} {m : Nat} {l : List AV} {e : TypeId} {room : Option Nat} {O : Obj} (h : RO ρ m (.cells l e room) O) : ∃ vs rest, gs ρ l = some vs ∧ O = .cells (vs ++ rest).toArray e (0, 0) ∧ (∀ sz, room = some sz → (vs ++ rest).length = m * sz ∧ m ≤ maxLen) ∧ (room = none → rest = []) := by
  cases room with
  | none => obtain ⟨vs, h1, rfl⟩ := h; exact ⟨vs, [], h1, by simp, by simp, by simp⟩
  | some sz => obtain ⟨vs, rest, h1, rfl, h2⟩ := h; exact ⟨vs, rest, h1, rfl, by simpa using h2, by simp⟩
theorem Live.cells {W : World} {ρ : Rho} {H : AH} {w : World} (r : Live W ρ H w) {k : Nat} {l : List AV} {e : TypeId} {room : Option Nat} (h : H.tr.get k = some (.cells l e room)) :
    ∃ b m vs rest, ρ k = some (b, m) ∧ gs ρ l = some vs ∧ w.heap[b]? = some (.cells (vs ++ rest).toArray e (0, 0)) ∧ (∀ sz, room = some sz → (vs ++ rest).length = m * sz ∧ m ≤ maxLen) ∧ (room = none → rest = []) := by
  obtain ⟨b, m, O, h1, h2, h3⟩ := r.live k _ h
  obtain ⟨vs, rest, h4, rfl, h5, h6⟩ := cell_of_RO h3
  exact ⟨b, m, vs, rest, h1, h4, h2, h5, h6⟩
theorem cell_at {w : World} {b : Nat} {cs : List Value} {e : TypeId} (h : w.heap[b]? = some (.cells cs.toArray e (0, 0))) (i : Nat) : w.cell? ⟨b, i, none⟩ = cs[i]? := by
  unfold World.cell?; rw [h]; simp
theorem srcAt_ok {W : World} {ρ : Rho} {H : AH} {w : World} (r : Live W ρ H w) (hG : GlobOk G W) {a : AV} {n : Nat} {l : List AV} (h : srcAt G H a n = some l) {A : Value} (hA : g ρ a = some A) :
    ∃ b o vs, A = .pointer (some ⟨b, o, none⟩) ∧ gs ρ l = some vs ∧ vs.length = n ∧ ∀ j V, vs[j]? = some V → w.cell? ⟨b, o + j, none⟩ = some V := by
  unfold srcAt at h
  split at h
  · rename_i k o
    split at h
    · rename_i l' e room hk
      rw [dropL_eq] at h
      obtain ⟨rfl, hlen⟩ := takeL_ok _ _ _ h
      obtain ⟨b, m, vs, rest, h1, h2, h3, _⟩ := r.cells hk
      simp only [g, h1] at hA
      cases hA
      have h4 := gs_take n (gs_drop o h2)
      refine ⟨b, o, _, rfl, h4, by rw [gs_length h4]; exact hlen, fun j V hj => ?_⟩
      rw [cell_at h3]
      rw [List.getElem?_take] at hj
      split at hj
      · rw [List.getElem?_drop] at hj
        rw [List.getElem?_append_left (List.getElem?_eq_some_iff.mp hj).1]
        exact hj
      · cases hj
    · cases h
  · rename_i a
    obtain ⟨b, o, sp⟩ := a
    cases sp with
    | some s => cases h
    | none =>
      simp only [Option.isSome_none, cond_false, Option.ob_eq, Option.bind_eq_some_iff] at h
      obtain ⟨gl, h1, x, h2, h3⟩ := h
      rw [dropL_eq] at h2
      obtain ⟨rfl, hlen⟩ := takeL_ok _ _ _ h2
      cases h3
      simp only [g, Option.some.injEq] at hA
      subst hA
      refine ⟨b, o, _, rfl, gs_map _, hlen, fun j V hj => ?_⟩
      rw [List.getElem?_take] at hj
      split at hj
      · rw [List.getElem?_drop] at hj
        have := hG b gl h1 _ _ hj
        have hlt := World.block_lt_of_cell? W _ this
        rw [World.cell?_of_block (w := W) (r.grown.block b hlt (by simp))]
        exact this
      · cases hj
  · cases h
theorem bLoad_ok {W : World} {ρ : Rho} {H : AH} {w : World} (r : Live W ρ H w) (hG : GlobOk G W) {t : TypeId} {a x : AV} (h : bLoad P G H t a = some x) {A : Value} (hA : g ρ a = some A) : ∃ V, g ρ x = some V ∧ rrun P (Instr.loadAt t A) w = some V := by
  unfold bLoad at h
  cases ha : isAggB P t with
  | true =>
    rw [ha] at h
    simp only [cond_true, Option.ob_eq, Option.bind_eq_some_iff, Option.some.injEq] at h
    obtain ⟨i, h1, l, h2, rfl⟩ := h
    obtain ⟨b, o, vs, rfl, h3, h4, h5⟩ := srcAt_ok r hG h2 hA
    refine ⟨_, g_mkAgg h3, load_agg h1 ha h4 ?_⟩
    have : ∀ (us : List Value) (j : Nat), (∀ q V, us[q]? = some V → vs[j + q]? = some V) → cellsAt w ⟨b, o, none⟩ j us := by
      intro us
      induction us with
      | nil => intro j _; trivial
      | cons u us ih => exact fun j hq => ⟨by rw [addL]; exact h5 j u (by simpa using hq 0 u rfl), ih (j + 1) fun q V hV => by have := hq (q + 1) V (by simpa using hV); rwa [show j + 1 + q = j + (q + 1) by omega]⟩
    exact this vs 0 fun q V hV => by simpa using hV
  | false =>
    rw [ha] at h
    simp only [cond_false, Option.ob_eq, Option.bind_eq_some_iff] at h
    obtain ⟨d, h1, l, h2, h3⟩ := h
    obtain ⟨b, o, vs, rfl, h4, h5, h6⟩ := srcAt_ok r hG h2 hA
    have hx : l[0]? = some x := by rw [← List.head?_eq_getElem?]; exact h3
    obtain ⟨V, h7, h8⟩ := gs_get h4 hx
    refine ⟨V, h8, ?_⟩
    rw [load_one h1 ha]
    simpa using h6 0 V h7
end

/-! ### writes -/
/-- the first of one list, then what is left of the other -/
noncomputable def onto (cs : List AV) : List AV → List AV := List.rec (motive := fun _ => List AV → List AV) (fun l => l) (fun c _ rec l => c :: rec (List.casesOn l [] (fun _ r => r))) cs
theorem onto_eq : ∀ (cs l : List AV), onto cs l = cs ++ l.drop cs.length
  | [], l => by simp; rfl
  | c :: r, l => by
    have e : onto (c :: r) l = c :: onto r (List.casesOn l [] (fun _ r => r)) := rfl
    rw [e, onto_eq r]
    cases l <;> simp
noncomputable def splice (l : List AV) : Nat → List AV → List AV := List.rec (motive := fun _ => Nat → List AV → List AV) (fun _ cs => cs) (fun x l rec o cs => cond (Nat.beq o 0) (onto cs (x :: l)) (x :: rec (Nat.sub o 1) cs)) l
theorem splice_eq : ∀ (l : List AV) (o : Nat) (cs : List AV), o + cs.length ≤ l.length → splice l o cs = l.take o ++ cs ++ l.drop (o + cs.length)
  | [], 0, cs, h => by have : cs = [] := by simpa using h
                       subst this; rfl
  | x :: l, 0, cs, _ => by
    have e : splice (x :: l) 0 cs = onto cs (x :: l) := rfl
    rw [e, onto_eq]
    simp
  | [], o + 1, cs, h => by simp at h
  | x :: l, o + 1, cs, h => by
    have := splice_eq l o cs (by simp at h; omega)
    have e : splice (x :: l) (o + 1) cs = x :: splice l o cs := rfl
    simp [e, this, show o + 1 + cs.length = (o + cs.length) + 1 by omega]
theorem setRow_grown (w : World) (b : Nat) (cs : Array Value) : w.grownBy (w.setRow b cs) (some b) :=
  ⟨rfl, rfl, rfl, by simp [World.setRow], fun k _ hk => by
    have hne : b ≠ k := fun e => hk (by rw [e])
    simp [World.setRow, Array.getElem?_modify, hne]⟩
section
variable (P : Program)
noncomputable def bStore (H : AH) (t : TypeId) (a x : AV) : Option AH := match a with
  | .ptr k o => match H.tr.get k with
    | some (.cells l e room) => (P.info? t).ob fun i =>
      bif Nat.beq (cellsOfAV x).length i.size && ((cellsOfAV x).all oneAV && ((Nat.blt 0 i.size && (takeL i.size (dropL l o)).isSome) && Tr.okKey k)) then some (H.set k (.cells (splice l o (cellsOfAV x)) e room)) else none
    | _ => none
  | _ => none
variable {P}
theorem bStore_ok {W : World} {ρ : Rho} {H H' : AH} {w : World} (r : Rel W ρ H w) {t : TypeId} {a x : AV} (h : bStore P H t a x = some H') {A X : Value} (hA : g ρ a = some A) (hX : g ρ x = some X) : ∃ w', Rel W ρ H' w' ∧ erun P (Instr.storeAt t A X) w = some ((), w') := by
  unfold bStore at h
  split at h
  · rename_i k o
    split at h
    · rename_i l e room hk
      simp only [Option.ob_eq, Option.bind_eq_some_iff] at h
      obtain ⟨i, h1, h2⟩ := h
      cases hb : (Nat.beq (cellsOfAV x).length i.size && ((cellsOfAV x).all oneAV && ((Nat.blt 0 i.size && (takeL i.size (dropL l o)).isSome) && Tr.okKey k))) with
      | false => rw [hb] at h2; cases h2
      | true =>
        rw [hb] at h2
        cases h2
        simp only [Bool.and_eq_true, Nat.beq_eq, Nat.blt_eq] at hb
        obtain ⟨b1, b2, ⟨b30, b31⟩, b4⟩ := hb
        have b3 : o + i.size ≤ l.length := by
          obtain ⟨x', hx'⟩ := Option.isSome_iff_exists.mp b31
          rw [dropL_eq] at hx'
          obtain ⟨e1, e2⟩ := takeL_ok _ _ _ hx'
          rw [e1, List.length_take, List.length_drop] at e2
          omega
        obtain ⟨b, m, vs, rest, h3, h4, h5, h6, h7⟩ := r.cells hk
        simp only [g, h3] at hA
        cases hA
        have hc := gs_cells hX
        have hcl : X.cells.toList.length = i.size := by rw [gs_length hc, b1]
        have hvl := gs_length h4
        have h1c := oneCells_of hc b2
        have hrun := run_storeCells_at P b o e X.cells.toList 0 (vs ++ rest).toArray w h5 (by simp only [List.size_toArray, List.length_append]; omega) h1c
        refine ⟨w.setRow b ((vs ++ rest).take o ++ X.cells.toList ++ (vs ++ rest).drop (o + i.size)).toArray, ?_, ?_⟩
        · have hnew : ((vs ++ rest).take o ++ X.cells.toList ++ (vs ++ rest).drop (o + i.size)) = (vs.take o ++ X.cells.toList ++ vs.drop (o + i.size)) ++ rest := by
            rw [List.take_append_of_le_length (by omega), List.drop_append_of_le_length (by omega)]
            simp
          refine r.set_ hk h3 (setRow_grown w b _) (O := .cells ((vs.take o ++ X.cells.toList ++ vs.drop (o + i.size)) ++ rest).toArray e (0, 0)) ?_ ?_ b4
          · rw [setRow_heap w b _ _ e (0, 0) h5, hnew]
          · have hg' : gs ρ (splice l o (cellsOfAV x)) = some (vs.take o ++ X.cells.toList ++ vs.drop (o + i.size)) := by
              rw [splice_eq _ _ _ (by omega), b1]
              exact gs_append (gs_append (gs_take o h4) hc) (gs_drop _ h4)
            have hlen : (vs.take o ++ X.cells.toList ++ vs.drop (o + i.size)).length = vs.length := by simp only [List.length_append, List.length_take, List.length_drop]; omega
            cases room with
            | none =>
              have := h7 rfl
              subst this
              exact ⟨_, hg', by simp⟩
            | some sz =>
              obtain ⟨h8, h9⟩ := h6 sz rfl
              exact ⟨_, rest, hg', rfl, by rw [List.length_append, hlen, ← List.length_append]; exact h8, h9⟩
        · refine erun_of_run ?_
          unfold Instr.storeAt storeVar
          have e1 : (Instr.sureAddr (.pointer (some ⟨b, o, none⟩))).run P w = .ok ⟨b, o, none⟩ w := rfl
          rw [run_ok e1, run_ok (prun_run (prun_sizeOf h1) w)]
          have hsz : X.cells.size = i.size := by rw [← Array.length_toList]; exact hcl
          simp only [hsz, ne_eq, not_true_eq_false, if_false]
          rw [hrun]
          simp [hcl]
    · cases h
  · cases h
end
/-! ### new memory -/
section
variable (P : Program)
noncomputable def addCells (H : AH) (l : List AV) (e : TypeId) : Option (AV × AH) := bif Tr.okKey H.next then some (.ptr H.next 0, H.add (.cells l e none)) else none
noncomputable def bAlloc (H : AH) (t : TypeId) : Option (AV × AH) := (P.info? t).ob fun i => i.zero.ob fun z => addCells H (z.cells.toList.map .v) t
noncomputable def bBox (H : AH) (t : TypeId) (x : AV) : Option (AV × AH) := addCells H (cellsOfAV x) t
noncomputable def madeL (z : Array Value) (n : Nat) : List AV := match z.toList with
  | [x] => List.replicate n (.v x)
  | _ => (List.range n).map fun i => .v (z[i % z.size]!)
noncomputable def bMake (H : AH) (t : TypeId) (l c : AV) : Option (AV × AH) := match l, c with
  | .v (.int _ (.ofNat l)), .v (.int _ (.ofNat c)) => match P.underlying t with
    | some (.slice e) => (P.info? e).ob fun i => i.zero.ob fun z =>
      bif Nat.ble l c && (Nat.ble c 10000000 && (Nat.ble i.bytes 1000000 && Tr.okKey H.next)) then some (.sl H.next 0 l (.is c), H.add (.cells (madeL z.cells (c * i.size)) e none)) else none
    | _ => none
  | _, _ => none
noncomputable def bBuildSlice (H : AH) (t : TypeId) (n : Nat) (ns : List Nat) (as : List AV) : Option (AV × AH) := match P.underlying t with
  | some (.slice e) => (P.info? e).ob fun i => i.zero.ob fun z =>
    bif Nat.ble (n * i.size) 100000 && (Tr.okKey H.next && !(Nat.beq (n * i.size) 0)) then
      (fillL (fun j => some (j * i.size, i.size)) (madeL z.cells (n * i.size)) (ns.zip as)).ob fun r => some (.sl H.next 0 n (.is n), H.add (.cells r e none))
    else none
  | _ => none
variable {P}
/-- what a step has come to -/
noncomputable def Done (W : World) (ρ : Rho) (a : AV) (H : AH) (r : Option (Value × World)) : Prop := ∃ ρ' V w', RhoLe ρ ρ' ∧ Rel W ρ' H w' ∧ g ρ' a = some V ∧ r = some (V, w')
theorem add_done {W : World} {ρ : Rho} {H : AH} {w : World} (r : Rel W ρ H w) {l : List AV} {vs : List Value} (hl : gs ρ l = some vs) {e : TypeId} (hk : Tr.okKey H.next = true) :
    ∃ ρ', RhoLe ρ ρ' ∧ ρ' H.next = some (w.heap.size, 0) ∧ Rel W ρ' (H.add (.cells l e none)) (w.alloc (.cells vs.toArray e)) :=
  ⟨_, updR_le (p := (w.heap.size, 0)) (r.fresh _ (Nat.le_refl _)), by simp, r.new_ (World.grownBy_alloc w _ none) (Nat.le_refl _) (heap_alloc_new w _) ⟨vs, gs_mono (updR_le (r.fresh _ (Nat.le_refl _))) _ _ hl, rfl⟩ hk⟩
theorem addCells_ok {W : World} {ρ : Rho} {H H' : AH} {w : World} (r : Rel W ρ H w) {l : List AV} {e : TypeId} {a : AV} (h : addCells H l e = some (a, H')) {vs : List Value} (hl : gs ρ l = some vs) :
    Done W ρ a H' (some (.pointer (some ⟨w.heap.size, 0, none⟩), w.alloc (.cells vs.toArray e))) := by
  unfold addCells at h
  cases hk : Tr.okKey H.next with
  | false => rw [hk] at h; cases h
  | true =>
    rw [hk] at h
    cases h
    obtain ⟨ρ', h1, h2, h3⟩ := add_done r hl (e := e) hk
    exact ⟨ρ', _, _, h1, h3, by simp [g, h2], rfl⟩
theorem bAlloc_ok {W : World} {ρ : Rho} {H H' : AH} {w : World} (r : Rel W ρ H w) {t : TypeId} {a : AV} (h : bAlloc P H t = some (a, H')) : Done W ρ a H' (erun P (Instr.alloc t true (.tuple #[])) w) := by
  unfold bAlloc at h
  simp only [Option.ob_eq, Option.bind_eq_some_iff] at h
  obtain ⟨i, h1, z, h2, h3⟩ := h
  have := addCells_ok r h3 (gs_map z.cells.toList)
  have hz : prun P (zeroValue t) = some z := by unfold zeroValue; simp [prun_bind, prun_typeInfo h1, h2]
  have e : erun P (Instr.alloc t true (.tuple #[])) w = some (.pointer (some ⟨w.heap.size, 0, none⟩), w.alloc (.cells z.cells t)) := by
    unfold Instr.alloc
    rw [erun_bind, erun_of_prun hz]
    rfl
  rw [e]
  simpa using this
theorem bBox_ok {W : World} {ρ : Rho} {H H' : AH} {w : World} (r : Rel W ρ H w) {t : TypeId} {a x : AV} (h : bBox H t x = some (a, H')) {X : Value} (hX : g ρ x = some X) : Done W ρ a H' (erun P (Instr.box t X) w) := by
  have := addCells_ok r h (gs_cells hX)
  rw [box_any]
  simpa using this
theorem madeL_ok {ρ : Rho} (z : Array Value) (n : Nat) : gs ρ (madeL z n) = some (madeCells z n).toList := by
  unfold madeL
  split
  · rename_i x hx
    have hz : z = #[x] := by apply Array.ext'; simpa using hx
    subst hz
    have e : (madeCells #[x] n).toList = List.replicate n x := by
      simp only [madeCells, Array.toList_map, Array.toList_range]
      apply List.ext_getElem
      · simp
      · intro i h1 h2
        simp [Nat.mod_one]
    rw [e, ← List.map_replicate]
    exact gs_map _
  · have e : (madeCells z n).toList = (List.range n).map fun i => z[i % z.size]! := by
      simp [madeCells, Array.toList_map, Array.toList_range]
    rw [e]
    have := gs_map (ρ := ρ) ((List.range n).map fun i => z[i % z.size]!)
    rwa [List.map_map] at this
theorem bMake_ok {W : World} {ρ : Rho} {H H' : AH} {w : World} (r : Rel W ρ H w) {t : TypeId} {a l c : AV} (h : bMake P H t l c = some (a, H')) {L C : Value} (hL : g ρ l = some L) (hC : g ρ c = some C) : Done W ρ a H' (erun P (Instr.makeSlice t L C) w) := by
  unfold bMake at h
  split at h
  · rename_i kl l kc c
    simp only [g, Option.some.injEq] at hL hC
    subst hL; subst hC
    split at h
    · rename_i e hu
      simp only [Option.ob_eq, Option.bind_eq_some_iff] at h
      obtain ⟨i, h1, z, h2, h3⟩ := h
      cases hb : (Nat.ble l c && (Nat.ble c 10000000 && (Nat.ble i.bytes 1000000 && Tr.okKey H.next))) with
      | false => rw [hb] at h3; cases h3
      | true =>
        rw [hb] at h3
        cases h3
        simp only [Bool.and_eq_true, Nat.ble_eq] at hb
        obtain ⟨b1, b2, b3, b4⟩ := hb
        obtain ⟨ρ', q1, q2, q3⟩ := add_done r (madeL_ok z.cells (c * i.size)) (e := e) b4
        have hby : (i.bytes : Int) * (Int.ofNat c) ≤ 281474976710656 := by
          have : i.bytes * c ≤ 1000000 * 10000000 := Nat.mul_le_mul b3 b2
          have h4 : ((i.bytes * c : Nat) : Int) ≤ 281474976710656 := by omega
          rwa [Int.natCast_mul] at h4
        have hc63 : Int.ofNat c ≤ 9223372036854775807 := by
          have : (c : Int) ≤ 10000000 := by omega
          exact Int.le_trans this (by decide)
        have hrun := run_make (P := P) w t e i z hu h1 h2 kl kc (Int.ofNat l) (Int.ofNat c) (Int.natCast_nonneg l) (by simpa using b1) hby hc63
        refine ⟨ρ', _, _, q1, q3, ?_, erun_of_run (by simpa using hrun)⟩
        simp [g, q2, Cap.at]
    · cases h
  · cases h
theorem bBuildSlice_ok {W : World} {ρ : Rho} {H H' : AH} {w : World} (r : Rel W ρ H w) {t : TypeId} {n : Nat} {ns : List Nat} {as : List AV} {a : AV} (h : bBuildSlice P H t n ns as = some (a, H')) {vs : List Value} (ha : gs ρ as = some vs) : Done W ρ a H' (erun P (Instr.buildSlice t n (ns.zip vs).toArray) w) := by
  unfold bBuildSlice at h
  split at h
  · rename_i e hu
    simp only [Option.ob_eq, Option.bind_eq_some_iff] at h
    obtain ⟨i, h1, z, h2, h3⟩ := h
    cases hb : (Nat.ble (n * i.size) 100000 && (Tr.okKey H.next && !(Nat.beq (n * i.size) 0))) with
    | false => rw [hb] at h3; cases h3
    | true =>
      rw [hb] at h3
      simp only [cond_true, Option.ob_eq, Option.bind_eq_some_iff, Option.some.injEq, Prod.mk.injEq] at h3
      obtain ⟨rl, h4, rfl, rfl⟩ := h3
      simp only [Bool.and_eq_true, Nat.ble_eq, Bool.not_eq_true'] at hb
      obtain ⟨b1, b2, b3⟩ := hb
      have hne : ¬ n * i.size = 0 := fun e => by rw [e] at b3; cases b3
      obtain ⟨rs, h5, h6⟩ := fill_ok ns as vs _ _ rl h4 (madeL_ok z.cells (n * i.size)) ha
      obtain ⟨ρ', q1, q2, q3⟩ := add_done r h5 (e := e) b2
      refine ⟨ρ', .slice (some ⟨w.heap.size, 0, none⟩) n n, _, q1, q3, by simp [g, q2, Cap.at], ?_⟩
      have hz : prun P (zeroValue e) = some z := by unfold zeroValue; simp [prun_bind, prun_typeInfo h1, h2]
      have hbig : ¬ (n * i.size > 2 ^ 24) := by omega
      unfold Instr.buildSlice
      rw [erun_bind, erun_of_prun (prun_underlying hu)]
      simp only [Option.bind_some]
      rw [erun_bind, erun_of_prun (prun_sizeOf h1)]
      simp only [Option.bind_some, hbig, if_false, hne]
      simp only [Array.toArray_toList, madeCells] at h6
      simp only [erun_bind, erun_of_prun hz, Option.bind_some, erun_of_prun (prun_pure _), h6]
      rfl
  · cases h
end
end Go.Sh.Ev

namespace Go.Sh.Ev
open Go Go.RowKit
set_option linter.unusedVariables false
set_option linter.unusedSimpArgs false

section
variable (P : Program) (G : Globs)
noncomputable def bInt (y : Nat) : Option Value → Nat → Option Nat
  | none, d => some d
  | some (.int _ (.ofNat i)), _ => bif Nat.ble i y then some i else none
  | some _, _ => none
noncomputable def bBounds (n cap : Nat) (lo hi mx : Option Value) : Option (Nat × Nat × Nat) :=
  bif mx.isSome && hi.isNone then none else
  (bInt cap mx cap).ob fun m => (bInt m hi n).ob fun h => (bInt h lo 0).ob fun l => some (l, h, m)
noncomputable def capAt (H : AH) (k : Nat) (s : Nat) : Option Nat := match H.tr.get k with
  | some (.cells l _ (some sz)) => bif Nat.beq sz 0 then none else some (l.length / sz - s)
  | _ => none
noncomputable def bSlice (H : AH) (t : TypeId) (a : AV) (lo hi mx : Option Value) : Option (AV × AH) := match a with
  | .v p => (prun P (Instr.sliceAt t p lo hi mx)).ob fun r => some (.v r, H)
  | .sl k o n c => match P.underlying t with
    | some (.slice e) => (P.info? e).ob fun i => match c with
      | .is c => (bBounds n c lo hi mx).ob fun b => some (.sl k (bif Nat.beq b.2.2 b.1 then o else o + b.1 * i.size) (b.2.1 - b.1) (.is (b.2.2 - b.1)), H)
      | .less s => (capAt H k s).ob fun c0 => (bBounds n c0 lo hi mx).ob fun b => match mx with
        | none => bif Nat.beq b.1 0 then some (.sl k o b.2.1 (.less s), H) else bif Nat.blt b.1 c0 then some (.sl k (o + b.1 * i.size) (b.2.1 - b.1) (.less (s + b.1)), H) else bif Nat.beq b.2.1 b.1 then some (.e0 k H.next, H.name) else none
        | some _ => some (.sl k (bif Nat.beq b.2.2 b.1 then o else o + b.1 * i.size) (b.2.1 - b.1) (.is (b.2.2 - b.1)), H)
    | _ => none
  | .ptr k o => match P.underlying t with
    | some (.array n e) => (P.info? e).ob fun i => (bBounds n n lo hi mx).ob fun b => some (.sl k (bif Nat.beq b.2.2 b.1 then o else o + b.1 * i.size) (b.2.1 - b.1) (.is (b.2.2 - b.1)), H)
    | _ => none
  | _ => none
/-- what is read for an append or a copy: how many elements, their cells -/
noncomputable def srcOf (H : AH) (b : AV) (sz : Nat) : Option (Nat × List AV) := match b with
  | .sl k o m _ => (srcAt G H (.ptr k o) (m * sz)).ob fun l => some (m, l)
  | .v (.slice (some a) m _) => (srcAt G H (.v (.pointer (some a))) (m * sz)).ob fun l => some (m, l)
  | _ => none
noncomputable def isNilSl : AV → Bool
  | .v (.slice none 0 0) => true
  | _ => false
/-- the elements that a slice owns, if it may be appended to -/
noncomputable def ownL (H : AH) (a : AV) (e : TypeId) (sz : Nat) : Option (Option Nat × Nat × List AV) := match a with
  | .v (.slice none 0 0) => some (none, 0, [])
  | .sl k o n c => match H.tr.get k with
    | some (.cells l e' room) => bif Nat.beq o 0 && (Nat.beq e' e && (Tr.okKey k && Nat.ble (n * sz) l.length)) then (match room, c with
      | some sz', .less 0 => bif Nat.beq sz' sz then some (some k, n, l.take (n * sz)) else none
      | none, .is c => bif Nat.beq l.length (c * sz) && (Nat.ble n c && Nat.ble c 10000000) then some (some k, n, l.take (n * sz)) else none
      | _, _ => none) else none
    | _ => none
  | _ => none
noncomputable def bAppend (H : AH) (ts : Array TypeId) (a b : AV) : Option (AV × AH) := match ts.toList with
  | [t, t'] => bif Nat.beq t t' then (match P.underlying t with
    | some (.slice e) => (P.info? e).ob fun i => i.zero.ob fun z => (ownL H a e i.size).ob fun x =>
      bif isNilSl b then (bif Nat.blt 0 i.size then some (a, H) else none) else
      (srcOf G H b i.size).ob fun y =>
      bif y.2.all oneAV && (Nat.blt 0 i.size && (Nat.beq z.cells.size i.size && (Nat.ble i.bytes 100000 && (Tr.okKey H.next && (Nat.ble (x.2.1 + y.1) 10000000 && Nat.blt 0 y.1))))) then
        some (.sl H.next 0 (x.2.1 + y.1) (.less 0), match x.1 with | some k => H.turn k (.cells (x.2.2 ++ y.2) e (some i.size)) | none => H.add (.cells (x.2.2 ++ y.2) e (some i.size)))
      else none
    | _ => none) else none
  | _ => none
noncomputable def bCopy (H : AH) (ts : Array TypeId) (a b : AV) : Option (AV × AH) := match ts.toList with
  | [t, t'] => match P.underlying t with
    | some (.slice e) => (P.info? e).ob fun i => bif Nat.beq i.size 1 then (match a with
      | .sl k o dn _ => match H.tr.get k with
        | some (.cells l e0 room) => bif isNilSl b then some (.v (.int .i64 (0 : Nat)), H) else (srcOf G H b 1).ob fun y =>
          bif y.2.all oneAV && (Nat.ble (o + min y.1 dn) l.length && Tr.okKey k) then some (.v (.int .i64 (min y.1 dn : Nat)), H.set k (.cells (splice l o (y.2.take dn)) e0 room)) else none
        | _ => none
      | _ => none) else none
    | _ => none
  | _ => none
noncomputable def byteAV : AV → Option UInt8
  | .v (.int .u8 (.ofNat z)) => bif Nat.blt z 256 then some (UInt8.ofNat z) else none
  | _ => none
noncomputable def bytesAV : List AV → Option (List UInt8)
  | [] => some []
  | a :: r => (byteAV a).ob fun x => (bytesAV r).ob fun l => some (x :: l)
noncomputable def bText (H : AH) (s d : TypeId) (a : AV) : Option AV := match P.underlying s, P.underlying d with
  | some (.slice e), some .string => match P.underlying e with
    | some (.int .u8) => (srcOf G H a 1).ob fun y => (bytesAV y.2).ob fun bs => some (.v (.string ⟨bs.toArray⟩))
    | _ => none
  | _, _ => none
noncomputable def bRange (H : AH) (t : TypeId) (a : AV) : Option (AV × AH) := match P.underlying t, a with
  | some .string, .v (.string s) => bif Tr.okKey H.next then some (.ptr H.next 0, H.add (.iter s 0)) else none
  | _, _ => none
noncomputable def bNext (H : AH) (a : AV) (isStr : Bool) : Option (AV × AH) := match a with
  | .ptr k 0 => match H.tr.get k with
    | some (.iter s pos) => bif isStr && Tr.okKey k then (bif Nat.blt pos s.size then some (.v (.tuple #[.bool true, .int .i64 pos, .int .i32 (Utf8.decode s pos).1]), H.set k (.iter s (pos + (Utf8.decode s pos).2))) else some (.v (.tuple #[.bool false]), H)) else none
    | _ => none
  | _ => none
variable {P} {G}
/-! ### slices of slices -/
theorem bInt_ok {y d r : Nat} {x : Option Value} (h : bInt y x d = some r) : (x = none ∧ r = d) ∨ ∃ k, x = some (.int k (r : Int)) ∧ r ≤ y := by
  unfold bInt at h
  split at h
  · cases h; exact .inl ⟨rfl, rfl⟩
  · rename_i k i
    cases hb : Nat.ble i y with
    | false => rw [hb] at h; cases h
    | true => rw [hb] at h; cases h; exact .inr ⟨k, rfl, Nat.le_of_ble_eq_true hb⟩
  · cases h
theorem bound_nat (k : IntKind) (i y : Nat) (code : BoundsCode) (h : i ≤ y) : prun P (Instr.sliceBound (.int k (i : Int)) y code) = some i := by
  have := bound_ok (P := P) k (i : Int) y code (by omega) (by omega)
  simpa using this
theorem bounds_mono {isS : Bool} {n c0 C : Nat} {lo hi mx : Option Value} {b : Nat × Nat × Nat} (h : bBounds n c0 lo hi mx = some b) (hC : c0 ≤ C) : prun P (Instr.sliceBounds isS n C lo hi mx) = some (b.1, b.2.1, if mx = none then C else b.2.2) := by
  unfold bBounds at h
  cases hx : (mx.isSome && hi.isNone) with
  | true => rw [hx] at h; cases h
  | false =>
    rw [hx] at h
    simp only [cond_false, Option.ob_eq, Option.bind_eq_some_iff, Option.some.injEq] at h
    obtain ⟨m, h1, hh, h2, l, h3, rfl⟩ := h
    unfold Instr.sliceBounds
    rcases bInt_ok h1 with ⟨rfl, rfl⟩ | ⟨k1, rfl, m1⟩ <;> rcases bInt_ok h2 with ⟨rfl, rfl⟩ | ⟨k2, rfl, m2⟩ <;> rcases bInt_ok h3 with ⟨rfl, rfl⟩ | ⟨k3, rfl, m3⟩
    · simp [prun_bind]
    · simp [prun_bind, bound_nat _ _ _ _ m3]
    · simp [prun_bind, bound_nat (P := P) k2 hh C _ (by omega)]
    · simp [prun_bind, bound_nat (P := P) k2 hh C _ (by omega), bound_nat _ _ _ _ m3]
    · simp at hx
    · simp at hx
    · simp [prun_bind, bound_nat (P := P) k1 m C _ (by omega), bound_nat _ _ _ _ m2]
    · simp [prun_bind, bound_nat (P := P) k1 m C _ (by omega), bound_nat _ _ _ _ m2, bound_nat _ _ _ _ m3]
theorem bounds_is {isS : Bool} {n c : Nat} {lo hi mx : Option Value} {b : Nat × Nat × Nat} (h : bBounds n c lo hi mx = some b) : prun P (Instr.sliceBounds isS n c lo hi mx) = some b := by
  rw [bounds_mono h (Nat.le_refl _)]
  split
  · rename_i e
    subst e
    unfold bBounds at h
    simp only [Option.isSome_none, Bool.false_and, cond_false, Option.ob_eq, Option.bind_eq_some_iff, Option.some.injEq] at h
    obtain ⟨m, h1, hh, h2, l, h3, rfl⟩ := h
    simp only [bInt, Option.some.injEq] at h1
    subst h1
    rfl
  · rfl
theorem capAt_ok {W : World} {ρ : Rho} {H : AH} {w : World} (r : Live W ρ H w) {k s c0 : Nat} (h : capAt H k s = some c0) : ∃ b m, ρ k = some (b, m) ∧ c0 ≤ m - s := by
  unfold capAt at h
  split at h
  · rename_i l e sz hk
    cases hb : Nat.beq sz 0 with
    | true => rw [hb] at h; cases h
    | false =>
      rw [hb] at h
      cases h
      have hsz : sz ≠ 0 := fun e => by rw [e] at hb; cases hb
      obtain ⟨b, m, vs, rest, h1, h2, h3, h4, _⟩ := r.cells hk
      obtain ⟨h5, _⟩ := h4 sz rfl
      refine ⟨b, m, h1, ?_⟩
      have h6 := gs_length h2
      have h7 : l.length ≤ m * sz := by rw [← h5, ← h6]; simp
      have h8 : l.length / sz ≤ m := by
        have := Nat.div_le_div_right (c := sz) h7
        rwa [Nat.mul_div_cancel _ (by omega)] at this
      omega
  · cases h
theorem cut_addr {b o l m size : Nat} : (if m = l then some (⟨b, o, none⟩ : Addr) else (some (⟨b, o, none⟩ : Addr)).map (·.add (l * size))) = some ⟨b, (bif Nat.beq m l then o else o + l * size), none⟩ := by
  cases hb : Nat.beq m l with
  | true => have := Nat.eq_of_beq_eq_true hb; simp [this]
  | false =>
    have : ¬ m = l := fun e => by rw [e, Nat.beq_refl] at hb; cases hb
    simp [this, addL]
theorem bSlice_ok {W : World} {ρ : Rho} {H H' : AH} {w : World} (r : Rel W ρ H w) {t : TypeId} {a x : AV} {lo hi mx : Option Value} (h : bSlice P H t a lo hi mx = some (x, H')) {A : Value} (hA : g ρ a = some A) : ∃ ρ' V, RhoLe ρ ρ' ∧ Rel W ρ' H' w ∧ g ρ' x = some V ∧ prun P (Instr.sliceAt t A lo hi mx) = some V := by
  unfold bSlice at h
  split at h
  · simp only [Option.ob_eq, Option.bind_eq_some_iff, Option.some.injEq, Prod.mk.injEq] at h
    obtain ⟨q, h1, rfl, rfl⟩ := h
    simp only [g, Option.some.injEq] at hA
    subst hA
    exact ⟨ρ, q, RhoLe.refl _, r, rfl, h1⟩
  · rename_i k o n c
    split at h
    · rename_i e hu
      simp only [Option.ob_eq, Option.bind_eq_some_iff] at h
      obtain ⟨i, h1, h2⟩ := h
      simp only [g] at hA
      split at hA <;> cases hA
      rename_i p hp
      split at h2
      · rename_i c
        simp only [Option.ob_eq, Option.bind_eq_some_iff, Option.some.injEq, Prod.mk.injEq] at h2
        obtain ⟨⟨l, h', m⟩, h3, rfl, rfl⟩ := h2
        refine ⟨ρ, _, RhoLe.refl _, r, by simp only [g, hp]; rfl, ?_⟩
        simp only [Cap.at]
        rw [slice_at hu h1 _ _ _ lo hi mx l h' m (bounds_is h3), cut_addr]
      · rename_i s
        simp only [Option.ob_eq, Option.bind_eq_some_iff] at h2
        obtain ⟨c0, h3, ⟨l, h', m⟩, h4, h5⟩ := h2
        obtain ⟨b, mm, h6, h7⟩ := capAt_ok r.toLive h3
        rw [hp] at h6
        cases h6
        have h8 := bounds_mono (P := P) (isS := true) h4 h7
        split at h5
        · cases hb : Nat.beq l 0 with
          | true =>
            simp only [hb, cond_true, Option.some.injEq, Prod.mk.injEq] at h5
            obtain ⟨rfl, rfl⟩ := h5
            have hl := Nat.eq_of_beq_eq_true hb
            subst hl
            refine ⟨ρ, _, RhoLe.refl _, r, by simp only [g, hp]; rfl, ?_⟩
            simp only [Cap.at]
            rw [slice_at hu h1 _ _ _ lo hi none 0 h' (mm - s) (by simpa using h8)]
            simp [Cap.at, addL]
          | false =>
            simp only [hb, cond_false] at h5
            cases hb2 : Nat.blt l c0 with
            | false =>
              rw [hb2] at h5
              simp only [cond_false] at h5
              cases hb3 : Nat.beq h' l with
              | false => rw [hb3] at h5; cases h5
              | true =>
                rw [hb3] at h5
                cases h5
                have hl := Nat.eq_of_beq_eq_true hb3
                subst hl
                have hne : k ≠ H.next := fun e => by rw [e, r.fresh _ (Nat.le_refl _)] at hp; cases hp
                refine ⟨updR ρ H.next (bif Nat.beq (mm - s) h' then o else o + h' * i.size, mm - s - h'), .slice (some ⟨b, (bif Nat.beq (mm - s) h' then o else o + h' * i.size), none⟩) 0 (mm - s - h'), updR_le (r.fresh _ (Nat.le_refl _)), r.name_ _, ?_, ?_⟩
                · have e1 : updR ρ H.next (bif Nat.beq (mm - s) h' then o else o + h' * i.size, mm - s - h') k = some (b, mm) := by unfold updR; rw [if_neg hne]; exact hp
                  simp only [g, e1, updR_self]
                · simp only [Cap.at]
                  rw [slice_at hu h1 _ _ _ lo hi none h' h' (mm - s) (by simpa using h8), cut_addr, Nat.sub_self]
            | true =>
              rw [hb2] at h5
              cases h5
              have hlt : l < c0 := by simpa [Nat.blt_eq] using hb2
              refine ⟨ρ, _, RhoLe.refl _, r, by simp only [g, hp]; rfl, ?_⟩
              simp only [Cap.at]
              rw [slice_at hu h1 _ _ _ lo hi none l h' (mm - s) (by simpa using h8)]
              have : ¬ mm - s = l := by omega
              simp [Cap.at, this, addL]
              omega
        · rename_i v
          cases h5
          refine ⟨ρ, _, RhoLe.refl _, r, by simp only [g, hp]; rfl, ?_⟩
          simp only [Cap.at]
          rw [slice_at hu h1 _ _ _ lo hi (some v) l h' m (by simpa using h8), cut_addr]
    · cases h
  · rename_i k o
    split at h
    · rename_i n e hu
      simp only [Option.ob_eq, Option.bind_eq_some_iff, Option.some.injEq, Prod.mk.injEq] at h
      obtain ⟨i, h1, ⟨l, h', m⟩, h3, rfl, rfl⟩ := h
      simp only [g] at hA
      split at hA <;> cases hA
      rename_i p hp
      refine ⟨ρ, _, RhoLe.refl _, r, by simp only [g, hp]; rfl, ?_⟩
      unfold Instr.sliceAt
      have h3' := bounds_is (P := P) (isS := false) h3
      simp only [prun_bind, prun_underlying hu, Option.bind_some, Instr.sureAddr, prun_pure, h3', prun_sizeOf h1, Cap.at]
      congr 2
      cases hb : Nat.beq m l with
      | true => have e := Nat.eq_of_beq_eq_true hb; simp [e]
      | false =>
        have e : ¬ m = l := fun e => by rw [e, Nat.beq_refl] at hb; cases hb
        simp [e, addL]
    · cases h
  · cases h
/-! ### appends -/
theorem srcOf_ok {W : World} {ρ : Rho} {H : AH} {w : World} (r : Live W ρ H w) (hG : GlobOk G W) {b : AV} {sz : Nat} {y : Nat × List AV} (h : srcOf G H b sz = some y) {B : Value} (hB : g ρ b = some B) :
    ∃ a c vs, B = .slice (some a) y.1 c ∧ gs ρ y.2 = some vs ∧ vs.length = y.1 * sz ∧ Rd w (some a) vs := by
  unfold srcOf at h
  split at h
  · rename_i k o m c
    simp only [Option.ob_eq, Option.bind_eq_some_iff, Option.some.injEq] at h
    obtain ⟨l, h1, rfl⟩ := h
    simp only [g] at hB
    split at hB <;> cases hB
    rename_i p hp
    obtain ⟨b, o', vs, h2, h3, h4, h5⟩ := srcAt_ok r hG h1 (A := .pointer (some ⟨p.1, o, none⟩)) (by simp [g, hp])
    cases h2
    exact ⟨_, _, vs, rfl, h3, h4, fun j V hj => by rw [addL]; exact h5 j V hj⟩
  · rename_i a m c
    simp only [Option.ob_eq, Option.bind_eq_some_iff, Option.some.injEq] at h
    obtain ⟨l, h1, rfl⟩ := h
    simp only [g, Option.some.injEq] at hB
    subst hB
    obtain ⟨b, o', vs, h2, h3, h4, h5⟩ := srcAt_ok r hG h1 (A := .pointer (some a)) rfl
    cases h2
    exact ⟨_, _, vs, rfl, h3, h4, fun j V hj => by rw [addL]; exact h5 j V hj⟩
  · cases h
theorem isNilSl_ok {b : AV} (h : isNilSl b = true) : b = .v (.slice none 0 0) := by
  unfold isNilSl at h
  split at h
  · rfl
  · cases h
theorem ownL_ok {W : World} {ρ : Rho} {H : AH} {w : World} (r : Live W ρ H w) {a : AV} {e : TypeId} {sz : Nat} (hsz : 0 < sz) {x : Option Nat × Nat × List AV} (h : ownL H a e sz = some x) {A : Value} (hA : g ρ a = some A) :
    ∃ vs, gs ρ x.2.2 = some vs ∧ w.ownsRow W.heap.size e sz A x.2.1 vs ∧
      ((x.1 = none ∧ A.ownBlock = none) ∨ ∃ k b m o, x.1 = some k ∧ Tr.okKey k = true ∧ H.tr.get k = some o ∧ ρ k = some (b, m) ∧ A.ownBlock = some b) := by
  unfold ownL at h
  split at h
  · cases h
    simp only [g, Option.some.injEq] at hA
    subst hA
    exact ⟨[], rfl, World.ownsRow_nil w _ e sz, .inl ⟨rfl, rfl⟩⟩
  · rename_i k o n c
    split at h
    · rename_i l e' room hk
      cases hb : (Nat.beq o 0 && (Nat.beq e' e && (Tr.okKey k && Nat.ble (n * sz) l.length))) with
      | false => rw [hb] at h; cases h
      | true =>
        rw [hb] at h
        simp only [cond_true] at h
        simp only [Bool.and_eq_true, Nat.beq_eq, Nat.ble_eq] at hb
        obtain ⟨rfl, rfl, b3, b4⟩ := hb
        obtain ⟨b, m, vs, rest, h1, h2, h3, h4, h5⟩ := r.cells hk
        have hbw := r.new k _ b m hk h1
        have hvl := gs_length h2
        split at h
        · rename_i sz'
          cases hs : Nat.beq sz' sz with
          | false => rw [hs] at h; cases h
          | true =>
            rw [hs] at h
            cases h
            have := Nat.eq_of_beq_eq_true hs
            subst this
            obtain ⟨h6, h7⟩ := h4 _ rfl
            simp only [g, h1, Option.some.injEq] at hA
            subst hA
            have hnm : n ≤ m := by
              have hx : n * sz' ≤ m * sz' := by rw [← h6]; simp; omega
              exact Nat.le_of_mul_le_mul_right hx hsz
            refine ⟨_, gs_take _ h2, ⟨by simp; omega, .inr ⟨b, m, (vs ++ rest).toArray, by simp [Cap.at], hbw, h3, hnm, h7, by simpa using h6, ?_⟩⟩, .inr ⟨k, b, m, _, rfl, b3, hk, h1, rfl⟩⟩
            show (vs ++ rest).take (n * sz') = _
            rw [List.take_append_of_le_length (by omega)]
        · rename_i c
          cases hs : (Nat.beq l.length (c * sz) && (Nat.ble n c && Nat.ble c 10000000)) with
          | false => rw [hs] at h; cases h
          | true =>
            rw [hs] at h
            cases h
            simp only [Bool.and_eq_true, Nat.beq_eq, Nat.ble_eq] at hs
            obtain ⟨s1, s2, s3⟩ := hs
            have := h5 rfl
            subst this
            simp only [List.append_nil] at h3
            simp only [g, h1, Option.some.injEq] at hA
            subst hA
            refine ⟨_, gs_take _ h2, ⟨by simp; omega, .inr ⟨b, c, vs.toArray, by simp [Cap.at], hbw, h3, s2, by simp [maxLen]; omega, by simp; omega, by simp⟩⟩, .inr ⟨k, b, m, _, rfl, b3, hk, h1, rfl⟩⟩
        · cases h
    · cases h
  · cases h
theorem bAppend_ok {W : World} {ρ : Rho} {H H' : AH} {w : World} (r : Rel W ρ H w) (hG : GlobOk G W) {ts : Array TypeId} {ty : TypeId} {a b x : AV} (h : bAppend P G H ts a b = some (x, H')) {A B : Value} (hA : g ρ a = some A) (hB : g ρ b = some B) : Done W ρ x H' (erun P (Builtin.append_ ts ty #[A, B]) w) := by
  unfold bAppend at h
  split at h
  · rename_i t t' hts
    have hts' : ts = #[t, t'] := by apply Array.ext'; simpa using hts
    subst hts'
    cases hb : Nat.beq t t' with
    | false => rw [hb] at h; cases h
    | true =>
      rw [hb] at h
      have := Nat.eq_of_beq_eq_true hb
      subst this
      simp only [cond_true] at h
      split at h
      · rename_i e hu
        simp only [Option.ob_eq, Option.bind_eq_some_iff] at h
        obtain ⟨i, h1, z, h2, x', h3, h4⟩ := h
        cases hn : isNilSl b with
        | true =>
          rw [hn] at h4
          cases hz : Nat.blt 0 i.size with
          | false => rw [hz] at h4; cases h4
          | true =>
          rw [hz] at h4
          cases h4
          have := isNilSl_ok hn
          subst this
          simp only [g, Option.some.injEq] at hB
          subst hB
          obtain ⟨vs, _, h6, _⟩ := ownL_ok r.toLive (Nat.blt_eq.mp hz) h3 hA
          exact ⟨ρ, A, w, RhoLe.refl _, r, hA, erun_of_run (run_append_owned_none (P := P) (w := w) W.heap.size t ty e i i.size hu h1 A _ vs h6)⟩
        | false =>
          rw [hn] at h4
          simp only [cond_false, Option.ob_eq, Option.bind_eq_some_iff] at h4
          obtain ⟨y, h5, h6⟩ := h4
          cases hc : (y.2.all oneAV && (Nat.blt 0 i.size && (Nat.beq z.cells.size i.size && (Nat.ble i.bytes 100000 && (Tr.okKey H.next && (Nat.ble (x'.2.1 + y.1) 10000000 && Nat.blt 0 y.1)))))) with
          | false => rw [hc] at h6; cases h6
          | true =>
            rw [hc] at h6
            cases h6
            simp only [Bool.and_eq_true, Nat.blt_eq, Nat.beq_eq, Nat.ble_eq] at hc
            obtain ⟨c1, c2, c3, c4, c5, c6, c7⟩ := hc
            obtain ⟨vs, v1, v2, v3⟩ := ownL_ok r.toLive c2 h3 hA
            obtain ⟨ad, cp, us, rfl, u1, u2, u3⟩ := srcOf_ok r.toLive hG h5 hB
            have hby : (x'.2.1 + y.1) * i.bytes ≤ 140737488355328 := Nat.le_trans (Nat.mul_le_mul c6 c4) (by omega)
            obtain ⟨v', w', e1, e2, e3, e4⟩ := e_append2 (P := P) (ty := ty) hu h1 h2 rfl rfl c3 c2 v2 u2 u3 (c := cp) (fun h => by cases h) (oneCells_of u1 c1) (by simp [maxLen]; omega) hby r.grown.size
            have hnews := gs_append v1 u1
            obtain ⟨e5, e6⟩ := e2
            rcases e6 with ⟨_, e6⟩ | ⟨b', cap', cur, rfl, f1, f2, f3, f4, f5, f6⟩
            · omega
            · have hrow : ∀ ρ'', RhoLe ρ ρ'' → RO ρ'' cap' (.cells (x'.2.2 ++ y.2) e (some i.size)) (.cells cur e (0, 0)) := by
                intro ρ'' hle
                refine ⟨_, cur.toList.drop ((x'.2.1 + y.1) * i.size), gs_mono hle _ _ hnews, ?_, ?_, f4⟩
                · congr 1
                  apply Array.ext'
                  rw [← f6]
                  simp
                · rw [← f6]
                  simp [f5]
              have hb' := e4 b' rfl
              rcases v3 with ⟨x1, x2⟩ | ⟨k, b0, m0, o0, x1, x2, x3, x4, x5⟩
              · rw [x1]
                rw [x2] at e3 hb'
                have hge : w.heap.size ≤ b' := by
                  rcases hb' with h | h
                  · cases h
                  · exact h
                exact ⟨_, _, w', updR_le (p := (b', cap')) (r.fresh _ (Nat.le_refl _)), r.new_ e3 hge f2 (hrow _ (updR_le (r.fresh _ (Nat.le_refl _)))) c5, by simp only [g, updR_self]; rfl, by rw [e1]; rfl⟩
              · rw [x1]
                rw [x5] at e3 hb'
                have hge : b' = b0 ∨ w.heap.size ≤ b' := by
                  rcases hb' with h | h
                  · cases h; exact .inl rfl
                  · exact .inr h
                exact ⟨_, _, w', updR_le (p := (b', cap')) (r.fresh _ (Nat.le_refl _)), r.turn_ x3 x4 e3 hge f2 (hrow _ (updR_le (r.fresh _ (Nat.le_refl _)))) x2 c5, by simp only [g, updR_self]; rfl, by rw [e1]; rfl⟩
      · cases h
  · cases h
theorem bCopy_ok {W : World} {ρ : Rho} {H H' : AH} {w : World} (r : Rel W ρ H w) (hG : GlobOk G W) {ts : Array TypeId} {ty : TypeId} {a b x : AV} (h : bCopy P G H ts a b = some (x, H')) {A B : Value} (hA : g ρ a = some A) (hB : g ρ b = some B) : Done W ρ x H' (erun P (Builtin.copy_ ts ty #[A, B]) w) := by
  unfold bCopy at h
  split at h
  · rename_i t t' hts
    have hts' : ts = #[t, t'] := by apply Array.ext'; simpa using hts
    subst hts'
    split at h
    · rename_i e hu
      simp only [Option.ob_eq, Option.bind_eq_some_iff] at h
      obtain ⟨i, h1, h2⟩ := h
      cases hb : Nat.beq i.size 1 with
      | false => rw [hb] at h2; cases h2
      | true =>
        rw [hb] at h2
        have hs := Nat.eq_of_beq_eq_true hb
        simp only [cond_true] at h2
        split at h2
        · rename_i k o dn c
          split at h2
          · rename_i l e0 room hk
            obtain ⟨b0, m, vs, rest, h3, h4, h5, h6, h7⟩ := r.cells hk
            simp only [g, h3] at hA
            cases hA
            have hblk : Blk w b0 e0 (vs ++ rest) := h5
            have hvl := gs_length h4
            cases hn : isNilSl b with
            | true =>
              rw [hn] at h2
              cases h2
              have := isNilSl_ok hn
              subst this
              simp only [g, Option.some.injEq] at hB
              subst hB
              refine ⟨ρ, _, w, RhoLe.refl _, r, rfl, erun_of_run ?_⟩
              have := run_copy_nil (P := P) w t t' ty e ⟨b0, o, none⟩ dn (c.at m) hu (by rw [h1]; rfl)
              simpa [goInt] using this
            | false =>
              rw [hn] at h2
              simp only [cond_false, Option.ob_eq, Option.bind_eq_some_iff] at h2
              obtain ⟨y, h8, h9⟩ := h2
              cases hc : (y.2.all oneAV && (Nat.ble (o + min y.1 dn) l.length && Tr.okKey k)) with
              | false => rw [hc] at h9; cases h9
              | true =>
                rw [hc] at h9
                cases h9
                simp only [Bool.and_eq_true, Nat.ble_eq] at hc
                obtain ⟨c1, c2, c3⟩ := hc
                obtain ⟨ad, cp, us, rfl, u1, u2, u3⟩ := srcOf_ok r.toLive hG h8 hB
                obtain ⟨w', e1, e2, e3⟩ := e_copy (P := P) hblk (ty := ty) (sT := t') hu h1 hs (o := o) (dn := dn) (dc := c.at m) (sn := y.1) (sc := cp) u3 (by omega) (fun h => by cases h) (by simp; omega) (oneCells_of u1 c1)
                refine ⟨ρ, _, w', RhoLe.refl _, r.set_ hk h3 e3 e2 ?_ c3, rfl, e1⟩
                have hlen : (y.2.take dn).length = min y.1 dn := by
                  rw [List.length_take, ← gs_length u1, u2]; simp [Nat.min_comm]
                have hnew := gs_append (gs_append (gs_take o h4) (gs_take dn u1)) (gs_drop (o + min y.1 dn) h4)
                have hspl : splice l o (y.2.take dn) = l.take o ++ y.2.take dn ++ l.drop (o + min y.1 dn) := by
                  rw [splice_eq _ _ _ (by omega), hlen]
                have hcs : (vs ++ rest).take o ++ us.take dn ++ (vs ++ rest).drop (o + min y.1 dn) = (vs.take o ++ us.take dn ++ vs.drop (o + min y.1 dn)) ++ rest := by
                  rw [List.take_append_of_le_length (by omega), List.drop_append_of_le_length (by omega)]
                  simp
                rw [hcs, hspl]
                have hl2 : (vs.take o ++ us.take dn ++ vs.drop (o + min y.1 dn)).length = vs.length := by
                  simp only [List.length_append, List.length_take, List.length_drop, u2]; omega
                cases room with
                | none =>
                  have := h7 rfl
                  subst this
                  exact ⟨_, hnew, by simp⟩
                | some sz =>
                  obtain ⟨h10, h11⟩ := h6 sz rfl
                  exact ⟨_, rest, hnew, rfl, by rw [List.length_append, hl2, ← List.length_append]; exact h10, h11⟩
          · cases h2
        · cases h2
    · cases h
  · cases h
theorem byteAV_ok {a : AV} {x : UInt8} (h : byteAV a = some x) : a = .v (.int .u8 x.toNat) := by
  unfold byteAV at h
  split at h
  · rename_i z
    cases hb : Nat.blt z 256 with
    | false => rw [hb] at h; cases h
    | true =>
      rw [hb] at h
      cases h
      have : z < 256 := by simpa [Nat.blt_eq] using hb
      simp [UInt8.toNat_ofNat', Nat.mod_eq_of_lt this]
  · cases h
theorem bytesAV_ok {ρ : Rho} : ∀ {l : List AV} {bs : List UInt8}, bytesAV l = some bs → gs ρ l = some (bv bs)
  | [], bs, h => by simp only [bytesAV, Option.some.injEq] at h; subst h; rfl
  | a :: r, bs, h => by
    simp only [bytesAV, Option.ob_eq, Option.bind_eq_some_iff, Option.some.injEq] at h
    obtain ⟨x, h1, l, h2, rfl⟩ := h
    have := byteAV_ok h1
    subst this
    exact gs_cons.mpr ⟨_, _, rfl, bytesAV_ok h2, rfl⟩
theorem bText_ok {W : World} {ρ : Rho} {H : AH} {w : World} (r : Live W ρ H w) (hG : GlobOk G W) {s d : TypeId} {a x : AV} (h : bText P G H s d a = some x) {A : Value} (hA : g ρ a = some A) : ∃ V, g ρ x = some V ∧ rrun P (convert s d A) w = some V := by
  unfold bText at h
  split at h
  · rename_i e hs hd
    split at h
    · rename_i he
      simp only [Option.ob_eq, Option.bind_eq_some_iff, Option.some.injEq] at h
      obtain ⟨y, h1, bs, h2, rfl⟩ := h
      obtain ⟨ad, cp, us, rfl, u1, u2, u3⟩ := srcOf_ok r hG h1 hA
      have := bytesAV_ok (ρ := ρ) h2
      rw [u1] at this
      cases this
      exact ⟨_, rfl, e_text hs he hd (by simpa using u2) u3⟩
    · cases h
  · cases h
theorem bRange_ok {W : World} {ρ : Rho} {H H' : AH} {w : World} (r : Rel W ρ H w) {t : TypeId} {a x : AV} (h : bRange P H t a = some (x, H')) {A : Value} (hA : g ρ a = some A) : Done W ρ x H' (erun P (Instr.range t A) w) := by
  unfold bRange at h
  split at h
  · rename_i s hu
    cases hk : Tr.okKey H.next with
    | false => rw [hk] at h; cases h
    | true =>
      rw [hk] at h
      cases h
      simp only [g, Option.some.injEq] at hA
      subst hA
      rw [str_range hu]
      exact ⟨_, _, _, updR_le (p := (w.heap.size, 0)) (r.fresh _ (Nat.le_refl _)), r.new_ (World.grownBy_alloc w _ none) (Nat.le_refl _) (heap_alloc_new w _) rfl hk, by simp [g], rfl⟩
  · cases h
theorem bNext_ok {W : World} {ρ : Rho} {H H' : AH} {w : World} (r : Rel W ρ H w) {ty : TypeId} {b : Bool} {a x : AV} (h : bNext H a b = some (x, H')) {A : Value} (hA : g ρ a = some A) : Done W ρ x H' (erun P (Instr.next A b ty) w) := by
  unfold bNext at h
  split at h
  · rename_i k
    split at h
    · rename_i s pos hk
      obtain ⟨b0, m, O, h1, h2, h3⟩ := r.live k _ hk
      have hO : O = .stringIter s pos := h3
      subst hO
      simp only [g, h1] at hA
      cases hA
      cases hb : (b && Tr.okKey k) with
      | false => rw [hb] at h; cases h
      | true =>
        rw [hb] at h
        simp only [Bool.and_eq_true] at hb
        obtain ⟨rfl, hkey⟩ := hb
        simp only [cond_true] at h
        cases hp : Nat.blt pos s.size with
        | false =>
          rw [hp] at h
          cases h
          have hn : ¬ pos < s.size := fun e => by rw [Nat.blt_eq.mpr e] at hp; cases hp
          refine ⟨ρ, _, w, RhoLe.refl _, r, rfl, erun_of_run ?_⟩
          simp [Instr.next, getObj, Sem.run, h2, hn]
        | true =>
          rw [hp] at h
          cases h
          have hlt : pos < s.size := Nat.blt_eq.mp hp
          have hbl := (Array.getElem?_eq_some_iff.mp h2).1
          obtain ⟨w', hw'⟩ : ∃ w', w' = { w with heap := w.heap.setIfInBounds b0 (.stringIter s (pos + (Utf8.decode s pos).2)) } := ⟨_, rfl⟩
          have hg : w.grownBy w' (some b0) := by
            subst hw'
            refine ⟨rfl, rfl, rfl, by simp, fun j _ hj => ?_⟩
            have : b0 ≠ j := fun e => hj (by rw [e])
            simp [Array.getElem?_setIfInBounds, this]
          refine ⟨ρ, _, w', RhoLe.refl _, r.set_ hk h1 hg (O := .stringIter s (pos + (Utf8.decode s pos).2)) ?_ rfl hkey, rfl, erun_of_run ?_⟩
          · subst hw'
            simp [Array.getElem?_setIfInBounds, hbl]
          · subst hw'
            simp [Instr.next, getObj, setObj, Sem.run, h2, hlt, goInt, Result.andThen]
    · cases h
  · cases h
end
end Go.Sh.Ev

namespace Go.Sh.Ev
open Go Go.RowKit
set_option linter.unusedVariables false
set_option linter.unusedSimpArgs false

abbrev BCall := FuncId → List AV → AH → Option (AV × AH)
section
variable (P : Program) (G : Globs) (bc : BCall)
noncomputable def pure1 (H : AH) (x : Option AV) : Option (AV × AH) := match x with | some a => some (a, H) | none => none
noncomputable def bLen (H : AH) (c : Call) (ty : TypeId) (as : List AV) : Option AV := match pl as with
  | some vs => (prun P (Builtin.len_ c.argTypes ty vs.toArray)).ob fun r => some (.v r)
  | none => match c.argTypes.toList, as with
    | [t], [.sl _ _ n _] => match P.underlying t with
      | some (.slice _) => some (.v (.int .i64 (n : Nat)))
      | _ => none
    | [t], [.e0 _ _] => match P.underlying t with
      | some (.slice _) => some (.v (.int .i64 (0 : Nat)))
      | _ => none
    | _, _ => none
noncomputable def bCap (H : AH) (c : Call) (ty : TypeId) (as : List AV) : Option AV := match pl as with
  | some vs => (prun P (Builtin.cap_ c.argTypes ty vs.toArray)).ob fun r => some (.v r)
  | none => match c.argTypes.toList, as with
    | [t], [.sl _ _ _ (.is n)] => match P.underlying t with
      | some (.slice _) => some (.v (.int .i64 (n : Nat)))
      | _ => none
    | _, _ => none
noncomputable def bMethod (a : AV) (name : String) : Option (FuncId × AV) := match a with
  | .v (.iface t x) => (prun P (method (P.types.size + Made.depth) t x name)).ob fun m => some (m.1, .v m.2)
  | .ifc t x => (P.info? t).ob fun i => (i.methods.find? (·.name == name)).ob fun m => bif m.path.isEmpty then (match m.func with
    | some (f, true) => (match P.underlying t with | some (.pointer _) => some (f, x) | _ => none)
    | some (f, false) => (match P.underlying t with | some (.pointer _) => none | some _ => some (f, x) | none => none)
    | none => none) else none
  | _ => none
noncomputable def bCallOp (H : AH) (e : AEnv) (c : Call) (ty : TypeId) : Option (AV × AH) := match c.callee with
  | .builtin .len => (aevs e c.args.toList).ob fun as => pure1 H (bLen P H c ty as)
  | .builtin .cap => (aevs e c.args.toList).ob fun as => pure1 H (bCap P H c ty as)
  | .builtin .min => (aevs e c.args.toList).ob fun as => (pl as).ob fun vs => (prun P (Builtin.min_ c.argTypes ty vs.toArray)).ob fun r => some (.v r, H)
  | .builtin .max => (aevs e c.args.toList).ob fun as => (pl as).ob fun vs => (prun P (Builtin.max_ c.argTypes ty vs.toArray)).ob fun r => some (.v r, H)
  | .builtin .append => (aevs e c.args.toList).ob fun as => match as with | [a, b] => bAppend P G H c.argTypes a b | _ => none
  | .builtin .copy => (aevs e c.args.toList).ob fun as => match as with | [a, b] => bCopy P G H c.argTypes a b | _ => none
  | .builtin _ => none
  | .invoke rc name => (aev e rc).ob fun a => (aevs e c.args.toList).ob fun as => (bMethod P a name).ob fun m => bc m.1 (m.2 :: as) H
  | .value (.func f) => (aevs e c.args.toList).ob fun as => bif bodyless P f then (pl as).ob fun vs => (match prun P (callFunc f vs.toArray) with | some (.value v) => some (.v v, H) | _ => none) else bc f as H
  | .value x => (aev e x).ob fun a => (aevs e c.args.toList).ob fun as => match a with
    | .v (.func (.func f) first cap) => bc f (first.toList.map .v ++ as ++ cap.toList.map .v) H
    | .fn f a l => bc f (a ++ as ++ l) H
    | _ => none
noncomputable def oneOpt (x : Option (List AV)) : Option (Option Value) := match x with
  | some [] => some none
  | some [.v v] => some (some v)
  | _ => none
noncomputable def oMove (e : AEnv) (H : AH) (x : Operand) : Option (AV × AH) := pure1 H (aev e x)
noncomputable def oPick (e : AEnv) (H : AH) (c : Operand) (a : Operand) (b : Operand) : Option (AV × AH) := (aev e c).ob fun c => (aev e a).ob fun a => (aev e b).ob fun b => match c with
    | .v (.bool c) => some (bif c then a else b, H)
    | _ => none
noncomputable def oBinOp (e : AEnv) (H : AH) (op : BinOp) (t : TypeId) (x : Operand) (y : Operand) : Option (AV × AH) := (aev e x).ob fun a => (aev e y).ob fun b => pure1 H (bBin P op t x y a b)
noncomputable def oUnOp (e : AEnv) (H : AH) (op : UnOp) (x : Operand) : Option (AV × AH) := (aev e x).ob fun a => match a with
    | .v p => (prun P (Op.unary op p)).ob fun r => some (.v r, H)
    | _ => none
noncomputable def oConvert (e : AEnv) (H : AH) (s : TypeId) (d : TypeId) (x : Operand) : Option (AV × AH) := (aev e x).ob fun a => match a with
    | .v p => bif convPure P s d || convReads P s d then (match prun P (convert s d p) with | some r => some (.v r, H) | none => bif convPure P s d then none else pure1 H (bText P G H s d a)) else none
    | a => bif convPure P s d then none else bif convReads P s d then pure1 H (bText P G H s d a) else none
noncomputable def oFieldAddr (e : AEnv) (H : AH) (s : TypeId) (x : Operand) (f : Nat) : Option (AV × AH) := (aev e x).ob fun a => pure1 H (bFieldAddr P s a f)
noncomputable def oField (e : AEnv) (H : AH) (t : TypeId) (x : Operand) (f : Nat) : Option (AV × AH) := (aev e x).ob fun a => pure1 H (bField P t a f)
noncomputable def oIndexAddr (e : AEnv) (H : AH) (t : TypeId) (x : Operand) (i : Operand) : Option (AV × AH) := (aev e x).ob fun a => (aev e i).ob fun i => pure1 H (bIndexAddr P t a i)
/-- a byte of a text -/
noncomputable def strIx (s : ByteArray) (i : Nat) : Option AV := (getL s.data.toList i).ob fun b => some (.v (.int .u8 (b.toNat : Nat)))
noncomputable def bIndex (t : TypeId) (p i : Value) : Option AV := match p, i with
  | .string s, .int _ (.ofNat k) => match P.underlying t with
    | some .string => strIx s k
    | _ => none
  | _, _ => (prun P (Instr.index t p i)).ob fun r => some (.v r)
noncomputable def oIndex (e : AEnv) (H : AH) (t : TypeId) (x : Operand) (i : Operand) : Option (AV × AH) := (aev e x).ob fun a => (aev e i).ob fun i => match a, i with
    | .v p, .v i => pure1 H (bIndex P t p i)
    | _, _ => none
noncomputable def oNilCheck (e : AEnv) (H : AH) (x : Operand) : Option (AV × AH) := (aev e x).ob fun a => pure1 H (bNil P a)
noncomputable def oSlice (e : AEnv) (H : AH) (t : TypeId) (x : Operand) (lo : Option Operand) (hi : Option Operand) (mx : Option Operand) : Option (AV × AH) := (aev e x).ob fun a => (oneOpt (aevs e lo.toList)).ob fun lo => (oneOpt (aevs e hi.toList)).ob fun hi => (oneOpt (aevs e mx.toList)).ob fun mx => bSlice P H t a lo hi mx
noncomputable def oExtract (e : AEnv) (H : AH) (x : Operand) (i : Nat) : Option (AV × AH) := (aev e x).ob fun a => pure1 H (bExtract P a i)
noncomputable def oBuild (e : AEnv) (H : AH) (t : TypeId) (ps : Array (Nat × Operand)) : Option (AV × AH) := (aevs e (ps.toList.map (·.2))).ob fun as => pure1 H (bBuild P t (ps.toList.map (·.1)) as)
noncomputable def oMakeInterface (e : AEnv) (H : AH) (t : TypeId) (x : Operand) : Option (AV × AH) := (aev e x).ob fun a => pure1 H (bMakeIface P t a)
noncomputable def oMakeFunc (e : AEnv) (H : AH) (fn : Fn) (first : Array Operand) (cap : Array Operand) : Option (AV × AH) := (aevs e first.toList).ob fun a => (aevs e cap.toList).ob fun b => pure1 H (bMakeFunc fn a b)
noncomputable def oTypeAssert (e : AEnv) (H : AH) (x : Operand) (t : TypeId) (u : TypeId) (ok : Bool) : Option (AV × AH) := (aev e x).ob fun a => pure1 H (bAssert P a t u ok)
noncomputable def oLoad (e : AEnv) (H : AH) (t : TypeId) (x : Operand) : Option (AV × AH) := (aev e x).ob fun a => pure1 H (bLoad P G H t a)
noncomputable def oStore (e : AEnv) (H : AH) (t : TypeId) (x : Operand) (y : Operand) : Option (AV × AH) := (aev e x).ob fun a => (aev e y).ob fun b => (bStore P H t a b).ob fun H' => some (.v undef, H')
noncomputable def oBox (e : AEnv) (H : AH) (t : TypeId) (x : Operand) : Option (AV × AH) := (aev e x).ob fun a => bBox H t a
noncomputable def oBuildSlice (e : AEnv) (H : AH) (t : TypeId) (n : Nat) (ps : Array (Nat × Operand)) : Option (AV × AH) := (aevs e (ps.toList.map (·.2))).ob fun as => bBuildSlice P H t n (ps.toList.map (·.1)) as
noncomputable def oMakeSlice (e : AEnv) (H : AH) (t : TypeId) (l : Operand) (c : Operand) : Option (AV × AH) := (aev e l).ob fun l => (aev e c).ob fun c => bMake P H t l c
noncomputable def oRange (e : AEnv) (H : AH) (t : TypeId) (x : Operand) : Option (AV × AH) := (aev e x).ob fun a => bRange P H t a
noncomputable def oNext (e : AEnv) (H : AH) (it : Operand) (s : Bool) : Option (AV × AH) := (aev e it).ob fun a => bNext H a s
noncomputable def bOp (o : Oper) (e : AEnv) (H : AH) : Option (AV × AH) :=
  match o.op with
  | .move x | .assign x => oMove e H x
  | .pick c a b => oPick e H c a b
  | .binOp op t x y _ => oBinOp P e H op t x y
  | .unOp op _ x => oUnOp P e H op x
  | .convert s d x => oConvert P G e H s d x
  | .fieldAddr s x f => oFieldAddr P e H s x f
  | .field t x f => oField P e H t x f
  | .indexAddr t x i => oIndexAddr P e H t x i
  | .index t x i => oIndex P e H t x i
  | .nilCheck x => oNilCheck P e H x
  | .slice t x lo hi mx => oSlice P e H t x lo hi mx
  | .extract x i => oExtract P e H x i
  | .build t ps => oBuild P e H t ps
  | .makeInterface t x => oMakeInterface P e H t x
  | .makeFunc fn first cap => oMakeFunc e H fn first cap
  | .typeAssert x t u ok => oTypeAssert P e H x t u ok
  | .load t x => oLoad P G e H t x
  | .store t x y => oStore P e H t x y
  | .alloc t => bAlloc P H t
  | .box t x => oBox e H t x
  | .buildSlice t n ps => oBuildSlice P e H t n ps
  | .makeSlice t l c => oMakeSlice P e H t l c
  | .range t x => oRange P e H t x
  | .next it s => oNext e H it s
  | .call c => bCallOp P G bc H e c o.type
  | _ => none
end

/-- what the calls come to -/
def CallB (P : Program) (call : CallF) (W : World) (bc : BCall) : Prop := ∀ f as H v H', bc f as H = some (v, H') → ∀ ρ w vs, Rel W ρ H w → gs ρ as = some vs → Done W ρ v H' (call f vs.toArray w)
section
variable {P : Program} {G : Globs} {bc : BCall} {call : CallF} {W w : World} {ρ : Rho} {H H' : AH} {e : AEnv} {eR : Env}
theorem bIndex_ok {t : TypeId} {p i : Value} {x : AV} (h : bIndex P t p i = some x) : ∃ V, g ρ x = some V ∧ prun P (Instr.index t p i) = some V := by
  unfold bIndex at h
  split at h
  · rename_i s k n
    split at h
    · rename_i hu
      simp only [strIx, Option.ob_eq, Option.bind_eq_some_iff, Option.some.injEq] at h
      obtain ⟨b, h1, rfl⟩ := h
      rw [getL_eq] at h1
      refine ⟨_, rfl, ?_⟩
      have hs : s[n]? = some b := by
        have h2 : s.data[n]? = some b := by simpa using h1
        obtain ⟨h3, h4⟩ := Array.getElem?_eq_some_iff.mp h2
        have h5 : n < s.size := h3
        rw [getElem?_pos s n h5]
        congr 1
      unfold Instr.index
      simp [prun_bind, prun_underlying hu, asIntOf, hs]
    · cases h
  · simp only [Option.ob_eq, Option.bind_eq_some_iff, Option.some.injEq] at h
    obtain ⟨q, h1, rfl⟩ := h
    exact ⟨q, rfl, h1⟩
theorem pure1_some {x : Option AV} {r : AV × AH} (h : pure1 H x = some r) : ∃ a, x = some a ∧ r = (a, H) := by
  unfold pure1 at h
  split at h
  · cases h; exact ⟨_, rfl, rfl⟩
  · cases h
theorem pl_gs {l : List AV} {vs us : List Value} (h : pl l = some vs) (h' : gs ρ l = some us) : us = vs := by
  have := gs_pl (ρ := ρ) h
  rw [h'] at this
  cases this
  rfl
theorem gs_one {a : AV} {vs : List Value} (h : gs ρ [a] = some vs) : ∃ V, g ρ a = some V ∧ vs = [V] := by
  obtain ⟨x, xs, h1, h2, rfl⟩ := gs_cons.mp h
  rw [gs_nil] at h2
  subst h2
  exact ⟨x, h1, rfl⟩
theorem gs_two {a b : AV} {vs : List Value} (h : gs ρ [a, b] = some vs) : ∃ V U, g ρ a = some V ∧ g ρ b = some U ∧ vs = [V, U] := by
  obtain ⟨x, xs, h1, h2, rfl⟩ := gs_cons.mp h
  obtain ⟨y, h3, rfl⟩ := gs_one h2
  exact ⟨x, y, h1, h3, rfl⟩
theorem bLen_ok {c : Call} {ty : TypeId} {as : List AV} {x : AV} (h : bLen P H c ty as = some x) {vs : List Value} (ha : gs ρ as = some vs) : ∃ V, g ρ x = some V ∧ prun P (Builtin.len_ c.argTypes ty vs.toArray) = some V := by
  unfold bLen at h
  split at h
  · rename_i us hu
    rw [pl_gs hu ha]
    simp only [Option.ob_eq, Option.bind_eq_some_iff, Option.some.injEq] at h
    obtain ⟨q, h1, rfl⟩ := h
    exact ⟨q, rfl, h1⟩
  · split at h
    · rename_i t k o n cc hts hnone
      split at h
      · rename_i el hu
        cases h
        obtain ⟨V, h1, rfl⟩ := gs_one ha
        simp only [g] at h1
        split at h1 <;> cases h1
        have e : c.argTypes = #[t] := by apply Array.ext'; simpa using hts
        rw [e]
        exact ⟨_, rfl, len_slice hu ty _ _ _⟩
      · cases h
    · rename_i t k j hts hnone
      split at h
      · rename_i el hu
        cases h
        obtain ⟨V, h1, rfl⟩ := gs_one ha
        simp only [g] at h1
        split at h1 <;> (try (split at h1)) <;> cases h1
        have e : c.argTypes = #[t] := by apply Array.ext'; simpa using hts
        rw [e]
        exact ⟨_, rfl, len_slice hu ty _ _ _⟩
      · cases h
    · cases h
theorem bCap_ok {c : Call} {ty : TypeId} {as : List AV} {x : AV} (h : bCap P H c ty as = some x) {vs : List Value} (ha : gs ρ as = some vs) : ∃ V, g ρ x = some V ∧ prun P (Builtin.cap_ c.argTypes ty vs.toArray) = some V := by
  unfold bCap at h
  split at h
  · rename_i us hu
    rw [pl_gs hu ha]
    simp only [Option.ob_eq, Option.bind_eq_some_iff, Option.some.injEq] at h
    obtain ⟨q, h1, rfl⟩ := h
    exact ⟨q, rfl, h1⟩
  · split at h
    · rename_i t k o n cc hts hnone
      split at h
      · rename_i el hu
        cases h
        obtain ⟨V, h1, rfl⟩ := gs_one ha
        simp only [g] at h1
        split at h1 <;> cases h1
        have e : c.argTypes = #[t] := by apply Array.ext'; simpa using hts
        rw [e]
        refine ⟨_, rfl, ?_⟩
        unfold Builtin.cap_
        simp [prun_bind, prun_underlying hu, goInt, Cap.at]
      · cases h
    · cases h
theorem method_one (n : Nat) {t : TypeId} {i : TypeInfo} {mm : Method} {f : FuncId} {pr : Bool} {name : String} {d : TypeDesc} (X : Value) (h1 : P.info? t = some i) (h2 : i.methods.find? (·.name == name) = some mm) (hp : mm.path.toList = []) (hf : mm.func = some (f, pr))
    (hu : P.underlying t = some d) (hd : (∃ el, d = .pointer el ∧ pr = true) ∨ ((∀ el, d ≠ .pointer el) ∧ pr = false)) : prun P (method (n + 1) t X name) = some (f, X) := by
  have hr : ∀ wr, prun P (receiverAt t (.val X) pr wr) = some X := by
    intro wr
    unfold receiverAt
    simp only [prun_bind, prun_underlying hu, Option.bind_some]
    rcases hd with ⟨el, rfl, rfl⟩ | ⟨hd, rfl⟩
    · rfl
    · cases d <;> first | rfl | exact absurd rfl (hd _)
  unfold method
  simp only [prun_bind, prun_typeInfo h1, Option.bind_some, h2, hp, follow, prun_pure, hf, hr]
theorem bMethod_ok {a : AV} {name : String} {m : FuncId × AV} (h : bMethod P a name = some m) {A : Value} (hA : g ρ a = some A) (w : World) : ∃ X, g ρ m.2 = some X ∧ imethod P A name w = some (m.1, X) := by
  unfold bMethod at h
  split at h
  · simp only [Option.ob_eq, Option.bind_eq_some_iff, Option.some.injEq] at h
    obtain ⟨q, h1, rfl⟩ := h
    simp only [g, Option.some.injEq] at hA
    subst hA
    exact ⟨q.2, rfl, by unfold imethod; exact rrun_of_prun h1 w⟩
  · rename_i t x
    simp only [g] at hA
    split at hA <;> cases hA
    rename_i X hX
    simp only [Option.ob_eq, Option.bind_eq_some_iff] at h
    obtain ⟨i, h1, mm, h2, h3⟩ := h
    cases hp : mm.path.isEmpty with
    | false => rw [hp] at h3; cases h3
    | true =>
      rw [hp] at h3
      simp only [cond_true] at h3
      have hpath : mm.path.toList = [] := by
        have := hp
        simp [Array.isEmpty] at this
        simp [this]
      split at h3
      · rename_i f hf
        split at h3
        · rename_i el hu
          cases h3
          refine ⟨X, hX, rrun_of_prun ?_ w⟩
          have hdp : 0 < Made.depth := by decide
          obtain ⟨n, hn⟩ : ∃ n, P.types.size + Made.depth = n + 1 := ⟨P.types.size + Made.depth - 1, by omega⟩
          rw [hn]
          exact method_one n X h1 h2 hpath hf hu (.inl ⟨el, rfl, rfl⟩)
        · cases h3
      · rename_i f hf
        split at h3
        · cases h3
        · rename_i d hd hu
          cases h3
          refine ⟨X, hX, rrun_of_prun ?_ w⟩
          have hdp : 0 < Made.depth := by decide
          obtain ⟨n, hn⟩ : ∃ n, P.types.size + Made.depth = n + 1 := ⟨P.types.size + Made.depth - 1, by omega⟩
          rw [hn]
          exact method_one n X h1 h2 hpath hf hu (.inr ⟨fun el e => hd el e, rfl⟩)
        · cases h3
      · cases h3
  · cases h

/-- what an operation has come to -/
def OpTo (P : Program) (call : CallF) (W : World) (ρ : Rho) (o : Oper) (eR : Env) (w : World) (v : AV) (H : AH) : Prop :=
  ∃ ρ' V w', RhoLe ρ ρ' ∧ Rel W ρ' H w' ∧ g ρ' v = some V ∧ ∀ {σ : Type} (next : Value → World → Option σ), aOp P call o eR w next = next V w'
theorem oneOpt_ok {x : Option (List AV)} {r : Option Value} (h : oneOpt x = some r) : ∃ as, x = some as ∧ ∀ vs, gs ρ as = some vs → vs.head? = r := by
  unfold oneOpt at h
  split at h
  · cases h
    exact ⟨_, rfl, fun vs hv => by rw [gs_nil] at hv; subst hv; rfl⟩
  · cases h
    exact ⟨_, rfl, fun vs hv => by obtain ⟨V, h1, rfl⟩ := gs_one hv; simp only [g, Option.some.injEq] at h1; subst h1; rfl⟩
  · cases h
theorem optArg {x : Option Operand} {r : Option Value} (hE : EnvR ρ e eR) (h : oneOpt (aevs e x.toList) = some r) : ∃ vs, evs eR x.toList = some vs ∧ vs.head? = r := by
  obtain ⟨as, h1, h2⟩ := oneOpt_ok (ρ := ρ) h
  obtain ⟨vs, h3, h4⟩ := aevs_ok hE h1
  exact ⟨vs, h4, h2 vs h3⟩
theorem bCallOp_ok (r : Rel W ρ H w) (hG : GlobOk G W) (hC : CallB P call W bc) (hE : EnvR ρ e eR) {dst : Option Nat} {c : Call} {ty : TypeId} {pos : String} {after : Array Edge} {gd : Option (Nat × Bool)} {v : AV}
    (h : bCallOp P G bc H e c ty = some (v, H')) : OpTo P call W ρ ⟨dst, .call c, ty, pos, after, gd⟩ eR w v H' := by
  unfold bCallOp at h
  have pureC : ∀ {V : Value}, H' = H → g ρ v = some V → (∀ {σ : Type} (next : Value → World → Option σ), aOp P call ⟨dst, .call c, ty, pos, after, gd⟩ eR w next = next V w) → OpTo P call W ρ ⟨dst, .call c, ty, pos, after, gd⟩ eR w v H' :=
    fun h1 h2 h3 => ⟨ρ, _, w, RhoLe.refl _, h1 ▸ r, h2, h3⟩
  have doneC : ∀ {x : Option (Value × World)}, Done W ρ v H' x → (∀ {σ : Type} (next : Value → World → Option σ), aOp P call ⟨dst, .call c, ty, pos, after, gd⟩ eR w next = x.bind fun r => next r.1 r.2) → OpTo P call W ρ ⟨dst, .call c, ty, pos, after, gd⟩ eR w v H' := by
    rintro x ⟨ρ', V, w', h1, h2, h3, rfl⟩ h4
    exact ⟨ρ', V, w', h1, h2, h3, fun next => by rw [h4]; rfl⟩
  obtain ⟨callee, args, argTypes⟩ := c
  cases callee with
  | builtin b =>
    cases b with
    | len =>
      simp only [Option.ob_eq, Option.bind_eq_some_iff] at h
      obtain ⟨as, h1, h2⟩ := h
      obtain ⟨a, h3, h4⟩ := pure1_some h2
      cases h4
      obtain ⟨vs, h5, h6⟩ := aevs_ok hE h1
      obtain ⟨V, h7, h8⟩ := bLen_ok h3 h5
      refine pureC rfl h7 fun next => ?_
      (simp only [aOp, Option.ebind_eq]; simp only [h6, Option.bind_some])
      split
      · rw [h8]; rfl
      · rw [rrun_of_prun h8]; rfl
    | cap =>
      simp only [Option.ob_eq, Option.bind_eq_some_iff] at h
      obtain ⟨as, h1, h2⟩ := h
      obtain ⟨a, h3, h4⟩ := pure1_some h2
      cases h4
      obtain ⟨vs, h5, h6⟩ := aevs_ok hE h1
      obtain ⟨V, h7, h8⟩ := bCap_ok h3 h5
      refine pureC rfl h7 fun next => ?_
      (simp only [aOp, Option.ebind_eq]; simp only [h6, Option.bind_some])
      split
      · rw [h8]; rfl
      · rw [rrun_of_prun h8]; rfl
    | min =>
      simp only [Option.ob_eq, Option.bind_eq_some_iff, Option.some.injEq, Prod.mk.injEq] at h
      obtain ⟨as, h1, us, h2, q, h3, rfl, rfl⟩ := h
      obtain ⟨vs, h5, h6⟩ := aevs_ok hE h1
      have := pl_gs h2 h5
      subst this
      refine pureC rfl rfl fun next => ?_
      (simp only [aOp, Option.ebind_eq]; simp only [h6, Option.bind_some])
      rw [h3]; rfl
    | max =>
      simp only [Option.ob_eq, Option.bind_eq_some_iff, Option.some.injEq, Prod.mk.injEq] at h
      obtain ⟨as, h1, us, h2, q, h3, rfl, rfl⟩ := h
      obtain ⟨vs, h5, h6⟩ := aevs_ok hE h1
      have := pl_gs h2 h5
      subst this
      refine pureC rfl rfl fun next => ?_
      (simp only [aOp, Option.ebind_eq]; simp only [h6, Option.bind_some])
      rw [h3]; rfl
    | append =>
      simp only [Option.ob_eq, Option.bind_eq_some_iff] at h
      obtain ⟨as, h1, h2⟩ := h
      obtain ⟨vs, h5, h6⟩ := aevs_ok hE h1
      split at h2
      · obtain ⟨A, B, h7, h8, rfl⟩ := gs_two h5
        refine doneC (bAppend_ok (ty := ty) r hG h2 h7 h8) fun next => ?_
        (simp only [aOp, Option.ebind_eq]; simp only [h6, Option.bind_some])
      · cases h2
    | copy =>
      simp only [Option.ob_eq, Option.bind_eq_some_iff] at h
      obtain ⟨as, h1, h2⟩ := h
      obtain ⟨vs, h5, h6⟩ := aevs_ok hE h1
      split at h2
      · obtain ⟨A, B, h7, h8, rfl⟩ := gs_two h5
        refine doneC (bCopy_ok (ty := ty) r hG h2 h7 h8) fun next => ?_
        (simp only [aOp, Option.ebind_eq]; simp only [h6, Option.bind_some])
      · cases h2
    | _ => cases h
  | invoke rc name =>
    simp only [Option.ob_eq, Option.bind_eq_some_iff] at h
    obtain ⟨a, h1, as, h2, m, h3, h4⟩ := h
    obtain ⟨A, a1, a2⟩ := aev_ok hE h1
    obtain ⟨vs, h5, h6⟩ := aevs_ok hE h2
    obtain ⟨X, x1, x2⟩ := bMethod_ok h3 a1 w
    refine doneC (hC _ _ _ _ _ h4 ρ w (X :: vs) r (gs_cons.mpr ⟨_, _, x1, h5, rfl⟩)) fun next => ?_
    (simp only [aOp, Option.ebind_eq]; simp only [a2, h6, Option.bind_some, x2])
  | value x =>
    cases x with
    | func f =>
      simp only [Option.ob_eq, Option.bind_eq_some_iff] at h
      obtain ⟨as, h1, h2⟩ := h
      obtain ⟨vs, h5, h6⟩ := aevs_ok hE h1
      cases hb : bodyless P f with
      | true =>
        rw [hb] at h2
        simp only [cond_true, Option.ob_eq, Option.bind_eq_some_iff] at h2
        obtain ⟨us, h3, h4⟩ := h2
        have := pl_gs h3 h5
        subst this
        split at h4
        · rename_i q hq
          cases h4
          refine pureC rfl rfl fun next => ?_
          (simp only [aOp, Option.ebind_eq]; simp only [h6, Option.bind_some, hb, cond_true, xrun, prun_run hq w])
        · cases h4
      | false =>
        rw [hb] at h2
        simp only [cond_false] at h2
        refine doneC (hC _ _ _ _ _ h2 ρ w vs r h5) fun next => ?_
        (simp only [aOp, Option.ebind_eq]; simp only [h6, Option.bind_some, hb, cond_false])
    | tmp t =>
      simp only [Option.ob_eq, Option.bind_eq_some_iff] at h
      obtain ⟨a, h1, as, h2, h3⟩ := h
      obtain ⟨A, a1, a2⟩ := aev_ok hE h1
      obtain ⟨vs, h5, h6⟩ := aevs_ok hE h2
      split at h3
      · rename_i f first cap
        simp only [g, Option.some.injEq] at a1
        subst a1
        refine doneC (hC _ _ _ _ _ h3 ρ w (first.toList ++ vs ++ cap.toList) r (gs_append (gs_append (gs_map _) h5) (gs_map _))) fun next => ?_
        (simp only [aOp, Option.ebind_eq]; simp only [a2, h6, Option.bind_some, callV])
        congr 2
        apply Array.ext'
        simp
      · rename_i f fa l
        simp only [g] at a1
        split at a1
        case h_2 => cases a1
        rename_i fs hfs
        split at a1 <;> cases a1
        rename_i us hus
        refine doneC (hC _ _ _ _ _ h3 ρ w (fs ++ vs ++ us) r (gs_append (gs_append hfs h5) hus)) fun next => ?_
        (simp only [aOp, Option.ebind_eq]; simp only [a2, h6, Option.bind_some, callV])
        congr 2
        apply Array.ext'
        simp
      · cases h3
    | const q =>
      simp only [Option.ob_eq, Option.bind_eq_some_iff] at h
      obtain ⟨a, h1, as, h2, h3⟩ := h
      obtain ⟨A, a1, a2⟩ := aev_ok hE h1
      obtain ⟨vs, h5, h6⟩ := aevs_ok hE h2
      split at h3
      · rename_i f first cap
        simp only [g, Option.some.injEq] at a1
        subst a1
        refine doneC (hC _ _ _ _ _ h3 ρ w (first.toList ++ vs ++ cap.toList) r (gs_append (gs_append (gs_map _) h5) (gs_map _))) fun next => ?_
        (simp only [aOp, Option.ebind_eq]; simp only [a2, h6, Option.bind_some, callV])
        congr 2
        apply Array.ext'
        simp
      · rename_i f fa l
        simp only [g] at a1
        split at a1
        case h_2 => cases a1
        rename_i fs hfs
        split at a1 <;> cases a1
        rename_i us hus
        refine doneC (hC _ _ _ _ _ h3 ρ w (fs ++ vs ++ us) r (gs_append (gs_append hfs h5) hus)) fun next => ?_
        (simp only [aOp, Option.ebind_eq]; simp only [a2, h6, Option.bind_some, callV])
        congr 2
        apply Array.ext'
        simp
      · cases h3
    | global q =>
      simp only [aev, Option.ob_eq, Option.bind_eq_some_iff] at h
      obtain ⟨a, h1, as, h2, h3⟩ := h
      cases h1
      cases h3
theorem bOp_ok (r : Rel W ρ H w) (hG : GlobOk G W) (hC : CallB P call W bc) (hE : EnvR ρ e eR) {o : Oper} {v : AV} (h : bOp P G bc o e H = some (v, H')) : OpTo P call W ρ o eR w v H' := by
  obtain ⟨dst, op, ty, pos, after, gd⟩ := o
  have pureC : ∀ {V : Value}, H' = H → g ρ v = some V → (∀ {σ : Type} (next : Value → World → Option σ), aOp P call ⟨dst, op, ty, pos, after, gd⟩ eR w next = next V w) → OpTo P call W ρ ⟨dst, op, ty, pos, after, gd⟩ eR w v H' :=
    fun h1 h2 h3 => ⟨ρ, _, w, RhoLe.refl _, h1 ▸ r, h2, h3⟩
  have doneC : ∀ {x : Option (Value × World)}, Done W ρ v H' x → (∀ {σ : Type} (next : Value → World → Option σ), aOp P call ⟨dst, op, ty, pos, after, gd⟩ eR w next = x.bind fun r => next r.1 r.2) → OpTo P call W ρ ⟨dst, op, ty, pos, after, gd⟩ eR w v H' := by
    rintro x ⟨ρ', V, w', h1, h2, h3, rfl⟩ h4
    exact ⟨ρ', V, w', h1, h2, h3, fun next => by rw [h4]; rfl⟩
  unfold bOp at h
  cases op <;> simp only [] at h <;> try (cases h; done)
  case move x =>
    unfold oMove at h
    obtain ⟨a, h1, h2⟩ := pure1_some h
    cases h2
    obtain ⟨A, a1, a2⟩ := aev_ok hE h1
    exact pureC rfl a1 fun next => by (simp only [aOp, Option.ebind_eq]; simp only [a2, Option.bind_some])
  case assign x =>
    unfold oMove at h
    obtain ⟨a, h1, h2⟩ := pure1_some h
    cases h2
    obtain ⟨A, a1, a2⟩ := aev_ok hE h1
    exact pureC rfl a1 fun next => by (simp only [aOp, Option.ebind_eq]; simp only [a2, Option.bind_some])
  case pick c a b =>
    unfold oPick at h
    simp only [Option.ob_eq, Option.bind_eq_some_iff] at h
    obtain ⟨c', h1, a', h2, b', h3, h4⟩ := h
    obtain ⟨C, c1, c2⟩ := aev_ok hE h1
    obtain ⟨A, a1, a2⟩ := aev_ok hE h2
    obtain ⟨B, b1, b2⟩ := aev_ok hE h3
    split at h4
    · rename_i q
      cases h4
      simp only [g, Option.some.injEq] at c1
      subst c1
      cases q with
      | true => exact pureC rfl a1 fun next => by (simp only [aOp, Option.ebind_eq]; simp only [a2, b2, c2, Option.bind_some, pickV])
      | false => exact pureC rfl b1 fun next => by (simp only [aOp, Option.ebind_eq]; simp only [a2, b2, c2, Option.bind_some, pickV])
    · cases h4
  case binOp bop t x y yt =>
    unfold oBinOp at h
    simp only [Option.ob_eq, Option.bind_eq_some_iff] at h
    obtain ⟨a', h1, b', h2, h3⟩ := h
    obtain ⟨q, h4, h5⟩ := pure1_some h3
    cases h5
    obtain ⟨A, a1, a2⟩ := aev_ok hE h1
    obtain ⟨B, b1, b2⟩ := aev_ok hE h2
    obtain ⟨V, v1, v2⟩ := bBin_ok (x := x) (y := y) h4 a1 b1 w
    exact pureC rfl v1 fun next => by (simp only [aOp, Option.ebind_eq]; simp only [a2, b2, Option.bind_some]); exact v2 next
  case unOp uop t x =>
    unfold oUnOp at h
    simp only [Option.ob_eq, Option.bind_eq_some_iff] at h
    obtain ⟨a', h1, h2⟩ := h
    obtain ⟨A, a1, a2⟩ := aev_ok hE h1
    split at h2
    · rename_i p
      simp only [Option.ob_eq, Option.bind_eq_some_iff, Option.some.injEq, Prod.mk.injEq] at h2
      obtain ⟨q, h3, rfl, rfl⟩ := h2
      simp only [g, Option.some.injEq] at a1
      subst a1
      exact pureC rfl rfl fun next => by (simp only [aOp, Option.ebind_eq]; simp only [a2, Option.bind_some, h3])
    · cases h2
  case convert s d x =>
    unfold oConvert at h
    simp only [Option.ob_eq, Option.bind_eq_some_iff] at h
    obtain ⟨a', h1, h2⟩ := h
    obtain ⟨A, a1, a2⟩ := aev_ok hE h1
    have text : ∀ {q : AV}, convPure P s d = false → convReads P s d = true → pure1 H (bText P G H s d q) = some (v, H') → g ρ q = some A → OpTo P call W ρ ⟨dst, .convert s d x, ty, pos, after, gd⟩ eR w v H' := by
      intro q c1 c2 c3 c4
      obtain ⟨q', c5, c6⟩ := pure1_some c3
      cases c6
      obtain ⟨V, v1, v2⟩ := bText_ok r.toLive hG c5 c4
      exact pureC rfl v1 fun next => by (simp only [aOp, Option.ebind_eq]; simp only [a2, Option.bind_some, c1, c2, Bool.false_eq_true, if_false, if_true, v2])
    split at h2
    · rename_i p
      simp only [g, Option.some.injEq] at a1
      subst a1
      cases hcp : convPure P s d with
      | true =>
        simp only [hcp, Bool.true_or, cond_true] at h2
        split at h2
        · rename_i q hq
          cases h2
          exact pureC rfl rfl fun next => by (simp only [aOp, Option.ebind_eq]; simp only [a2, Option.bind_some, hcp, if_true, hq])
        · cases h2
      | false =>
        cases hcr : convReads P s d with
        | false => simp only [hcp, hcr, Bool.or_false, cond_false] at h2; cases h2
        | true =>
          simp only [hcp, hcr, Bool.or_true, cond_true, cond_false] at h2
          split at h2
          · rename_i q hq
            cases h2
            exact pureC rfl rfl fun next => by (simp only [aOp, Option.ebind_eq]; simp only [a2, Option.bind_some, hcp, hcr, Bool.false_eq_true, if_false, if_true, rrun_of_prun hq])
          · exact text hcp hcr h2 rfl
    · cases hcp : convPure P s d with
      | true => rw [hcp] at h2; cases h2
      | false =>
        cases hcr : convReads P s d with
        | false => simp only [hcp, hcr, cond_false] at h2; cases h2
        | true =>
          simp only [hcp, hcr, cond_true, cond_false] at h2
          exact text hcp hcr h2 a1
  case fieldAddr s x f =>
    unfold oFieldAddr at h
    simp only [Option.ob_eq, Option.bind_eq_some_iff] at h
    obtain ⟨a', h1, h2⟩ := h
    obtain ⟨q, h4, h5⟩ := pure1_some h2
    cases h5
    obtain ⟨A, a1, a2⟩ := aev_ok hE h1
    obtain ⟨V, v1, v2⟩ := bFieldAddr_ok h4 a1
    exact pureC rfl v1 fun next => by (simp only [aOp, Option.ebind_eq]; simp only [a2, Option.bind_some, v2])
  case field t x f =>
    unfold oField at h
    simp only [Option.ob_eq, Option.bind_eq_some_iff] at h
    obtain ⟨a', h1, h2⟩ := h
    obtain ⟨q, h4, h5⟩ := pure1_some h2
    cases h5
    obtain ⟨A, a1, a2⟩ := aev_ok hE h1
    obtain ⟨V, v1, v2⟩ := bField_ok h4 a1
    exact pureC rfl v1 fun next => by (simp only [aOp, Option.ebind_eq]; simp only [a2, Option.bind_some, v2])
  case indexAddr t x i =>
    unfold oIndexAddr at h
    simp only [Option.ob_eq, Option.bind_eq_some_iff] at h
    obtain ⟨a', h1, b', h2, h3⟩ := h
    obtain ⟨q, h4, h5⟩ := pure1_some h3
    cases h5
    obtain ⟨A, a1, a2⟩ := aev_ok hE h1
    obtain ⟨B, b1, b2⟩ := aev_ok hE h2
    obtain ⟨V, v1, v2⟩ := bIndexAddr_ok h4 a1 b1
    exact pureC rfl v1 fun next => by (simp only [aOp, Option.ebind_eq]; simp only [a2, b2, Option.bind_some, v2])
  case index t x i =>
    unfold oIndex at h
    simp only [Option.ob_eq, Option.bind_eq_some_iff] at h
    obtain ⟨a', h1, b', h2, h3⟩ := h
    obtain ⟨A, a1, a2⟩ := aev_ok hE h1
    obtain ⟨B, b1, b2⟩ := aev_ok hE h2
    split at h3
    · obtain ⟨q, h4, h5⟩ := pure1_some h3
      cases h5
      simp only [g, Option.some.injEq] at a1 b1
      subst a1; subst b1
      obtain ⟨V, v1, v2⟩ := bIndex_ok (ρ := ρ) h4
      exact pureC rfl v1 fun next => by (simp only [aOp, Option.ebind_eq]; simp only [a2, b2, Option.bind_some, v2])
    · cases h3
  case nilCheck x =>
    unfold oNilCheck at h
    simp only [Option.ob_eq, Option.bind_eq_some_iff] at h
    obtain ⟨a', h1, h2⟩ := h
    obtain ⟨q, h4, h5⟩ := pure1_some h2
    cases h5
    obtain ⟨A, a1, a2⟩ := aev_ok hE h1
    obtain ⟨V, v1, v2⟩ := bNil_ok h4 a1
    exact pureC rfl v1 fun next => by (simp only [aOp, Option.ebind_eq]; simp only [a2, Option.bind_some, v2])
  case slice t x lo hi mx =>
    unfold oSlice at h
    simp only [Option.ob_eq, Option.bind_eq_some_iff] at h
    obtain ⟨a', h1, lo', h2, hi', h3, mx', h4, h6⟩ := h
    obtain ⟨A, a1, a2⟩ := aev_ok hE h1
    obtain ⟨ls, l1, l2⟩ := optArg hE h2
    obtain ⟨hs, m1, m2⟩ := optArg hE h3
    obtain ⟨ms, n1, n2⟩ := optArg hE h4
    obtain ⟨ρ', V, l0, r0, v1, v2⟩ := bSlice_ok r h6 a1
    refine ⟨ρ', V, w, l0, r0, v1, fun next => ?_⟩
    exact by (simp only [aOp, Option.ebind_eq]; simp only [a2, l1, m1, n1, Option.bind_some, l2, m2, n2, v2])
  case extract x i =>
    unfold oExtract at h
    simp only [Option.ob_eq, Option.bind_eq_some_iff] at h
    obtain ⟨a', h1, h2⟩ := h
    obtain ⟨q, h4, h5⟩ := pure1_some h2
    cases h5
    obtain ⟨A, a1, a2⟩ := aev_ok hE h1
    obtain ⟨V, v1, v2⟩ := bExtract_ok (P := P) h4 a1
    exact pureC rfl v1 fun next => by (simp only [aOp, Option.ebind_eq]; simp only [a2, Option.bind_some, v2])
  case build t ps =>
    unfold oBuild at h
    simp only [Option.ob_eq, Option.bind_eq_some_iff] at h
    obtain ⟨as, h1, h2⟩ := h
    obtain ⟨q, h4, h5⟩ := pure1_some h2
    cases h5
    obtain ⟨vs, a1, a2⟩ := aevs_ok hE h1
    obtain ⟨V, v1, v2⟩ := bBuild_ok h4 a1
    exact pureC rfl v1 fun next => by (simp only [aOp, Option.ebind_eq]; simp only [a2, Option.bind_some, v2])
  case makeInterface t x =>
    unfold oMakeInterface at h
    simp only [Option.ob_eq, Option.bind_eq_some_iff] at h
    obtain ⟨a', h1, h2⟩ := h
    obtain ⟨q, h4, h5⟩ := pure1_some h2
    cases h5
    obtain ⟨A, a1, a2⟩ := aev_ok hE h1
    obtain ⟨V, v1, v2⟩ := bMakeIface_ok h4 a1
    exact pureC rfl v1 fun next => by (simp only [aOp, Option.ebind_eq]; simp only [a2, Option.bind_some, v2])
  case makeFunc fn first cap =>
    unfold oMakeFunc at h
    simp only [Option.ob_eq, Option.bind_eq_some_iff] at h
    obtain ⟨as, h1, bs, h2, h3⟩ := h
    obtain ⟨q, h4, h5⟩ := pure1_some h3
    cases h5
    obtain ⟨vs, a1, a2⟩ := aevs_ok hE h1
    obtain ⟨us, b1, b2⟩ := aevs_ok hE h2
    exact pureC rfl (bMakeFunc_ok h4 a1 b1) fun next => by (simp only [aOp, Option.ebind_eq]; simp only [a2, b2, Option.bind_some])
  case typeAssert x t u ok =>
    unfold oTypeAssert at h
    simp only [Option.ob_eq, Option.bind_eq_some_iff] at h
    obtain ⟨a', h1, h2⟩ := h
    obtain ⟨q, h4, h5⟩ := pure1_some h2
    cases h5
    obtain ⟨A, a1, a2⟩ := aev_ok hE h1
    obtain ⟨V, v1, v2⟩ := bAssert_ok h4 a1
    exact pureC rfl v1 fun next => by (simp only [aOp, Option.ebind_eq]; simp only [a2, Option.bind_some, v2])
  case load t x =>
    unfold oLoad at h
    simp only [Option.ob_eq, Option.bind_eq_some_iff] at h
    obtain ⟨a', h1, h2⟩ := h
    obtain ⟨q, h4, h5⟩ := pure1_some h2
    cases h5
    obtain ⟨A, a1, a2⟩ := aev_ok hE h1
    obtain ⟨V, v1, v2⟩ := bLoad_ok r.toLive hG h4 a1
    exact pureC rfl v1 fun next => by (simp only [aOp, Option.ebind_eq]; simp only [a2, Option.bind_some, v2])
  case store t x y =>
    unfold oStore at h
    simp only [Option.ob_eq, Option.bind_eq_some_iff, Option.some.injEq, Prod.mk.injEq] at h
    obtain ⟨a', h1, b', h2, H1, h3, rfl, rfl⟩ := h
    obtain ⟨A, a1, a2⟩ := aev_ok hE h1
    obtain ⟨B, b1, b2⟩ := aev_ok hE h2
    obtain ⟨w', w1, w2⟩ := bStore_ok r h3 a1 b1
    exact ⟨ρ, undef, w', RhoLe.refl _, w1, rfl, fun next => by (simp only [aOp, Option.ebind_eq]; simp only [a2, b2, Option.bind_some, w2])⟩
  case alloc t => exact doneC (bAlloc_ok r h) fun next => by simp only [aOp]
  case box t x =>
    unfold oBox at h
    simp only [Option.ob_eq, Option.bind_eq_some_iff] at h
    obtain ⟨a', h1, h2⟩ := h
    obtain ⟨A, a1, a2⟩ := aev_ok hE h1
    exact doneC (bBox_ok (P := P) r h2 a1) fun next => by (simp only [aOp, Option.ebind_eq]; simp only [a2, Option.bind_some])
  case buildSlice t n ps =>
    unfold oBuildSlice at h
    simp only [Option.ob_eq, Option.bind_eq_some_iff] at h
    obtain ⟨as, h1, h2⟩ := h
    obtain ⟨vs, a1, a2⟩ := aevs_ok hE h1
    exact doneC (bBuildSlice_ok r h2 a1) fun next => by (simp only [aOp, Option.ebind_eq]; simp only [a2, Option.bind_some])
  case makeSlice t l c =>
    unfold oMakeSlice at h
    simp only [Option.ob_eq, Option.bind_eq_some_iff] at h
    obtain ⟨a', h1, b', h2, h3⟩ := h
    obtain ⟨A, a1, a2⟩ := aev_ok hE h1
    obtain ⟨B, b1, b2⟩ := aev_ok hE h2
    exact doneC (bMake_ok r h3 a1 b1) fun next => by (simp only [aOp, Option.ebind_eq]; simp only [a2, b2, Option.bind_some])
  case range t x =>
    unfold oRange at h
    simp only [Option.ob_eq, Option.bind_eq_some_iff] at h
    obtain ⟨a', h1, h2⟩ := h
    obtain ⟨A, a1, a2⟩ := aev_ok hE h1
    exact doneC (bRange_ok r h2 a1) fun next => by (simp only [aOp, Option.ebind_eq]; simp only [a2, Option.bind_some])
  case next it s =>
    unfold oNext at h
    simp only [Option.ob_eq, Option.bind_eq_some_iff] at h
    obtain ⟨a', h1, h2⟩ := h
    obtain ⟨A, a1, a2⟩ := aev_ok hE h1
    exact doneC (bNext_ok (P := P) (ty := ty) r h2 a1) fun next => by (simp only [aOp, Option.ebind_eq]; simp only [a2, Option.bind_some])
  case call c => exact bCallOp_ok r hG hC hE h
end
end Go.Sh.Ev

namespace Go.Sh.Ev
open Go Go.RowKit
set_option linter.unusedVariables false
set_option linter.unusedSimpArgs false

/-! ### environments -/
noncomputable def dropE (e : AEnv) (lo hi : Nat) : AEnv := fun i => cond (Nat.ble lo i) (cond (Nat.ble i hi) none (e i)) (e i)
theorem EnvR.drop {ρ : Rho} {e : AEnv} {eR : Env} (h : EnvR ρ e eR) (lo hi : Nat) : EnvR ρ (dropE e lo hi) (Env.drop lo hi eR) := by
  intro t a ht
  unfold dropE at ht
  unfold Env.drop
  cases h1 : Nat.ble lo t with
  | false =>
    rw [h1] at ht
    simp only [Bool.false_and, cond_false]
    exact h t a ht
  | true =>
    rw [h1] at ht
    cases h2 : Nat.ble t hi with
    | false =>
      rw [h2] at ht
      simp only [Bool.and_false, cond_false]
      exact h t a ht
    | true => rw [h2] at ht; cases ht
noncomputable def setE (e : AEnv) (d : Nat) (v : AV) : AEnv := fun i => Bool.rec (motive := fun _ => Option AV) (e i) (some v) (Nat.beq i d)
theorem EnvR.set {ρ : Rho} {e : AEnv} {eR : Env} (h : EnvR ρ e eR) {d : Nat} {v : AV} {V : Value} (hv : g ρ v = some V) : EnvR ρ (setE e d v) (eR.set d V) := by
  intro t a ht
  unfold setE at ht
  rw [set_eq]
  cases hb : Nat.beq t d with
  | true =>
    rw [hb] at ht
    cases ht
    rw [if_pos (Nat.eq_of_beq_eq_true hb)]
    exact ⟨V, hv, rfl⟩
  | false =>
    rw [hb] at ht
    have hne : ¬ t = d := fun e => by rw [e, Nat.beq_refl] at hb; cases hb
    rw [if_neg hne]
    exact h t a ht
noncomputable def putE (e : AEnv) (d : Option Nat) (v : AV) : AEnv := match d with | some d => setE e d v | none => e
theorem EnvR.put {ρ : Rho} {e : AEnv} {eR : Env} (h : EnvR ρ e eR) {d : Option Nat} {v : AV} {V : Value} (hv : g ρ v = some V) : EnvR ρ (putE e d v) (eR.put d V) := by
  cases d with
  | none => exact h
  | some d => exact h.set hv
noncomputable def agets (e : AEnv) : List Nat → Option (List AV)
  | [] => some []
  | t :: r => (e t).ob fun a => (agets e r).ob fun l => some (a :: l)
theorem agets_ok {ρ : Rho} {e : AEnv} {eR : Env} (h : EnvR ρ e eR) : ∀ {K : List Nat} {as : List AV}, agets e K = some as → ∃ vs, gs ρ as = some vs ∧ gets eR K = some vs
  | [], as, ha => by simp only [agets, Option.some.injEq] at ha; subst ha; exact ⟨[], rfl, rfl⟩
  | t :: r, as, ha => by
    simp only [agets, Option.ob_eq, Option.bind_eq_some_iff, Option.some.injEq] at ha
    obtain ⟨a, h1, l, h2, rfl⟩ := ha
    obtain ⟨V, v1, v2⟩ := h t a h1
    obtain ⟨vs, h3, h4⟩ := agets_ok h h2
    exact ⟨V :: vs, gs_cons.mpr ⟨_, _, v1, h3, rfl⟩, by simp [gets, v2, h4]⟩
noncomputable def mkE : List Nat → List AV → Option AEnv
  | [], _ => some fun _ => none
  | t :: r, a :: as => (mkE r as).ob fun e => some (setE e t a)
  | _ :: _, [] => none
theorem nth_app : ∀ (pre : List Value) (x : Value) (r : List Value), nth (pre ++ x :: r) pre.length = x
  | [], x, r => rfl
  | p :: pre, x, r => nth_app pre x r
theorem mkE_ok {ρ : Rho} : ∀ {K : List Nat} {as : List AV} {vs pre : List Value} {e : AEnv}, mkE K as = some e → gs ρ as = some vs → EnvR ρ e (ofList pre.length K (pre ++ vs))
  | [], as, vs, pre, e, h, hv => by cases h; intro t a ht; cases ht
  | t :: r, [], vs, pre, e, h, hv => by cases h
  | t :: r, a :: as, vs, pre, e, h, hv => by
    simp only [mkE, Option.ob_eq, Option.bind_eq_some_iff, Option.some.injEq] at h
    obtain ⟨e1, h1, rfl⟩ := h
    obtain ⟨x, xs, h3, h4, rfl⟩ := gs_cons.mp hv
    have h5 := mkE_ok (pre := pre ++ [x]) h1 h4
    have e2 : (pre ++ [x]).length = pre.length + 1 := by simp
    rw [e2] at h5
    simp only [List.append_assoc, List.singleton_append] at h5
    simp only [ofList, nth_app]
    exact h5.set h3

section
variable (P : Program) (G : Globs) (bc : BCall)
/-! ### regions, in the text's order -/
abbrev OpsRec := Nat → List Oper → List (Nat × Bool) → AEnv → AH → Option (AEnv × AH)
noncomputable def opsPut (d : Option Nat) (e : AEnv) (k : AEnv → AH → Option (AEnv × AH)) (v : AV) (H : AH) : Option (AEnv × AH) := Option.rec (motive := fun _ => Option (AEnv × AH)) (k e H) (fun d => k (setE e d v) H) d
theorem opsPut_eq (d : Option Nat) (e : AEnv) (k : AEnv → AH → Option (AEnv × AH)) (v : AV) (H : AH) : opsPut d e k v H = k (putE e d v) H := by cases d <;> rfl
noncomputable def opsPlain (o : Oper) (e : AEnv) (H : AH) (k : AEnv → AH → Option (AEnv × AH)) : Option (AEnv × AH) := (bOp P G bc o e H).ob (Prod.rec (opsPut o.dst e k))
noncomputable def opsHere (rec : OpsRec) (i m : Nat) (x y : Operand) (pd : Nat) (ed : AEnv) (rest' : List Oper) (strip : List (Nat × Bool)) (want : Bool) (e1 : AEnv) (H1 : AH) : Option (AEnv × AH) :=
  (aev e1 (if want then x else y)).ob fun v => rec (i + m + 1) rest' strip (setE ed pd v) H1
noncomputable def opsGone (rec : OpsRec) (i m : Nat) (x y : Operand) (pd : Nat) (ed : AEnv) (rest' : List Oper) (strip : List (Nat × Bool)) (want : Bool) (H : AH) : Option (AEnv × AH) :=
  (aev ed (if want then y else x)).ob fun v => rec (i + m + 1) rest' strip (setE ed pd v) H
noncomputable def opsPick (rec : OpsRec) (i m : Nat) (grp rest' : List Oper) (j : Nat) (want : Bool) (strip : List (Nat × Bool)) (e : AEnv) (H : AH) (x y : Operand) (d pd : Nat) : Option (AEnv × AH) :=
  match e d with
    | some (.v (.bool b)) => bif b == want then (rec i grp ((j, want) :: strip) e H).ob (Prod.rec (opsHere rec i m x y pd (dropE e (loDst grp pd) (hiDst grp pd)) rest' strip want)) else opsGone rec i m x y pd (dropE e (loDst grp pd) (hiDst grp pd)) rest' strip want H
    | _ => none
noncomputable def opsGrp (all : List Oper) (rec : OpsRec) (i m : Nat) (grp tail : List Oper) (j : Nat) (want : Bool) (strip : List (Nat × Bool)) (e : AEnv) (H : AH) : Option (AEnv × AH) := match tail with
  | p :: rest' => match p.op, dstOf all j, p.dst with
    | .pick (.tmp c) x y, some d, some pd => bif Nat.beq c d && guardIn p strip then opsPick rec i m grp rest' j want strip e H x y d pd else none
    | _, _, _ => none
  | [] => none
noncomputable def opsGuard (all : List Oper) (rec : OpsRec) (i : Nat) (o : Oper) (rest : List Oper) (strip : List (Nat × Bool)) (e : AEnv) (H : AH) (j : Nat) (want : Bool) : Option (AEnv × AH) :=
  bif inStrip j want strip then opsPlain P G bc o e H (rec (i + 1) rest strip) else opsGrp all rec i (grpLen i j want (o :: rest)) ((o :: rest).take (grpLen i j want (o :: rest))) ((o :: rest).drop (grpLen i j want (o :: rest))) j want strip e H
noncomputable def opsStep (all : List Oper) (rec : OpsRec) (i : Nat) (o : Oper) (rest : List Oper) (strip : List (Nat × Bool)) (e : AEnv) (H : AH) : Option (AEnv × AH) := match o.guard with
  | none => opsPlain P G bc o e H (rec (i + 1) rest strip)
  | some g => opsGuard P G bc all rec i o rest strip e H g.1 g.2
noncomputable def opsList (all : List Oper) (rec : OpsRec) (i : Nat) (ops : List Oper) (strip : List (Nat × Bool)) (e : AEnv) (H : AH) : Option (AEnv × AH) := match ops with
  | [] => some (e, H)
  | o :: rest => opsStep P G bc all rec i o rest strip e H
noncomputable def bOps (all : List Oper) (n : Nat) : OpsRec := Nat.rec (motive := fun _ => OpsRec) (fun _ _ _ _ _ => none) (fun _ rec => opsList P G bc all rec) n
theorem bOps_nil (all : List Oper) (n i : Nat) (strip : List (Nat × Bool)) (e : AEnv) (H : AH) : bOps P G bc all (n + 1) i [] strip e H = some (e, H) := rfl
theorem bOps_cons (all : List Oper) (n i : Nat) (o : Oper) (rest : List Oper) (strip : List (Nat × Bool)) (e : AEnv) (H : AH) : bOps P G bc all (n + 1) i (o :: rest) strip e H = opsStep P G bc all (bOps P G bc all n) i o rest strip e H := rfl
end
section
variable {P : Program} {G : Globs} {bc : BCall} {call : CallF} {W : World}
theorem aOps_step {all : List Oper} {n i : Nat} {o : Oper} {rest : List Oper} {strip : List (Nat × Bool)} {eR : Env} {w : World} {σ : Type} {k : Env → World → Option σ} (hg : o.guard = none ∨ ∃ j want, o.guard = some (j, want) ∧ inStrip j want strip = true) :
    aOps P call all (n + 1) i (o :: rest) strip eR w k = aOp P call o eR w fun v w => aOps P call all n (i + 1) rest strip (eR.put o.dst v) w k := by
  rcases hg with hg | ⟨j, want, hg, hs⟩
  · simp only [aOps, hg]
  · simp only [aOps, hg, hs, if_true]
theorem bOps_ok (hG : GlobOk G W) (hC : CallB P call W bc) {all : List Oper} : ∀ (n i : Nat) (ops : List Oper) (strip : List (Nat × Bool)) (e : AEnv) (H : AH) (e' : AEnv) (H' : AH), bOps P G bc all n i ops strip e H = some (e', H') →
    ∀ (ρ : Rho) (w : World) (eR : Env), Rel W ρ H w → EnvR ρ e eR → ∃ ρ' w' eR', RhoLe ρ ρ' ∧ Rel W ρ' H' w' ∧ EnvR ρ' e' eR' ∧ ∀ {σ : Type} (k : Env → World → Option σ), aOps P call all n i ops strip eR w k = k eR' w' := by
  intro n
  induction n with
  | zero => intro i ops strip e H e' H' h; cases h
  | succ n ih =>
    intro i ops strip e H e' H' h ρ w eR r hE
    cases ops with
    | nil => rw [bOps_nil] at h; cases h; exact ⟨ρ, w, eR, RhoLe.refl _, r, hE, fun k => rfl⟩
    | cons o rest =>
      have plain : (o.guard = none ∨ ∃ j want, o.guard = some (j, want) ∧ inStrip j want strip = true) → opsPlain P G bc o e H (bOps P G bc all n (i + 1) rest strip) = some (e', H') →
          ∃ ρ' w' eR', RhoLe ρ ρ' ∧ Rel W ρ' H' w' ∧ EnvR ρ' e' eR' ∧ ∀ {σ : Type} (k : Env → World → Option σ), aOps P call all (n + 1) i (o :: rest) strip eR w k = k eR' w' := by
        intro hg h
        simp only [opsPlain, Option.ob_eq, Option.bind_eq_some_iff] at h
        obtain ⟨⟨v, H1⟩, h1, h3⟩ := h
        simp only [opsPut_eq] at h3
        obtain ⟨ρ1, V, w1, l1, r1, v1, n1⟩ := bOp_ok r hG hC hE h1
        obtain ⟨ρ2, w2, eR2, l2, r2, E2, n2⟩ := ih _ _ _ _ _ _ _ h3 ρ1 w1 _ r1 ((hE.mono l1).put v1)
        exact ⟨ρ2, w2, eR2, l1.trans l2, r2, E2, fun k => by rw [aOps_step hg, n1, n2]⟩
      rw [bOps_cons] at h
      unfold opsStep at h
      cases hgd : o.guard with
      | none => rw [hgd] at h; exact plain (.inl hgd) h
      | some jw =>
        obtain ⟨j, want⟩ := jw
        rw [hgd] at h
        simp only [opsGuard] at h
        cases hs : inStrip j want strip with
        | true => rw [hs] at h; exact plain (.inr ⟨j, want, hgd, hs⟩) h
        | false =>
          rw [hs] at h
          simp only [cond_false] at h
          generalize hm : grpLen i j want (o :: rest) = m at h
          unfold opsGrp at h
          split at h
          · rename_i p rest' hdr
            split at h
            · rename_i c x y d pd hop hdst hpd
              cases hcd : (Nat.beq c d && guardIn p strip) with
              | false => rw [hcd] at h; cases h
              | true =>
                rw [hcd] at h
                simp only [cond_true, opsPick] at h
                simp only [Bool.and_eq_true, Nat.beq_eq] at hcd
                have h2 := h
                clear h
                have hED := hE.drop (loDst ((o :: rest).take m) pd) (hiDst ((o :: rest).take m) pd)
                have real : ∀ {σ : Type} (k : Env → World → Option σ) (b : Bool), eR d = some (.bool b) → aOps P call all (n + 1) i (o :: rest) strip eR w k =
                    (if b = want then aOps P call all n i ((o :: rest).take m) ((j, want) :: strip) eR w fun e' w' => (ev e' (if want then x else y)).bind fun v => some (v, w')
                      else (ev (eR.drop (loDst ((o :: rest).take m) pd) (hiDst ((o :: rest).take m) pd)) (if want then y else x)).bind fun v => some (v, w)).bind fun r =>
                    aOps P call all n (i + m + 1) rest' strip ((eR.drop (loDst ((o :: rest).take m) pd) (hiDst ((o :: rest).take m) pd)).set pd r.1) r.2 k := by
                  intro σ k b hb
                  rw [aOps]
                  simp only [hgd, hs, Bool.false_eq_true, if_false, hm, hdr, hop, hdst, hpd, hcd, and_self, if_true, hb]
                  simp only [Option.ebind_eq, Option.bind_some, asB]
                split at h2
                · rename_i b hbd
                  obtain ⟨B, b1, b2⟩ := hE d _ hbd
                  simp only [g, Option.some.injEq] at b1
                  subst b1
                  cases hbw : (b == want) with
                  | true =>
                    rw [hbw] at h2
                    have hbw' : b = want := by simpa using hbw
                    simp only [cond_true, opsHere, Option.ob_eq, Option.bind_eq_some_iff] at h2
                    obtain ⟨⟨e1, H1⟩, h3, v, h4, h6⟩ := h2
                    obtain ⟨ρ1, w1, eR1, l1, r1, E1, n1⟩ := ih _ _ _ _ _ _ _ h3 ρ w eR r hE
                    obtain ⟨V, v1, v2⟩ := aev_ok E1 h4
                    obtain ⟨ρ2, w2, eR2, l2, r2, E2, n2⟩ := ih _ _ _ _ _ _ _ h6 ρ1 w1 _ r1 ((hED.mono l1).set v1)
                    refine ⟨ρ2, w2, eR2, l1.trans l2, r2, E2, fun k => ?_⟩
                    rw [real k b b2, if_pos hbw', n1, v2]
                    exact n2 k
                  | false =>
                    rw [hbw] at h2
                    have hbw' : ¬ b = want := by simpa using hbw
                    simp only [cond_false, opsGone, Option.ob_eq, Option.bind_eq_some_iff] at h2
                    obtain ⟨v, h4, h6⟩ := h2
                    obtain ⟨V, v1, v2⟩ := aev_ok hED h4
                    obtain ⟨ρ2, w2, eR2, l2, r2, E2, n2⟩ := ih _ _ _ _ _ _ _ h6 ρ w _ r (hED.set v1)
                    refine ⟨ρ2, w2, eR2, l2, r2, E2, fun k => ?_⟩
                    rw [real k b b2, if_neg hbw', v2]
                    exact n2 k
                · cases h2
            · cases h
          · cases h
end
/-! ### values that are the same -/
mutual
noncomputable def beqV : Nat → Value → Value → Bool
  | _, .int k a, .int k' b => decide (k = k') && decide (a = b)
  | _, .bool a, .bool b => decide (a = b)
  | _, .string a, .string b => decide (a = b)
  | _, .pointer a, .pointer b => decide (a = b)
  | _, .slice a n c, .slice b n' c' => decide (a = b) && (Nat.beq n n' && Nat.beq c c')
  | _, .nilIface, .nilIface => true
  | _, .nilFunc, .nilFunc => true
  | n + 1, .iface t a, .iface u b => Nat.beq t u && beqV n a b
  | n + 1, .agg a, .agg b => beqVs n a.toList b.toList
  | _, _, _ => false
noncomputable def beqVs : Nat → List Value → List Value → Bool
  | _, [], [] => true
  | n + 1, a :: r, b :: s => beqV n a b && beqVs n r s
  | _, _, _ => false
end
theorem beq_ok : ∀ (n : Nat), (∀ a b, beqV n a b = true → a = b) ∧ ∀ r s, beqVs n r s = true → r = s := by
  intro n
  induction n with
  | zero =>
    constructor
    · intro a b h
      cases a <;> cases b <;> simp only [beqV] at h <;> first | (cases h; done) | skip
      all_goals try simp only [Bool.and_eq_true, decide_eq_true_eq, Nat.beq_eq] at h
      all_goals first | rfl | (obtain ⟨rfl, rfl, rfl⟩ := h; rfl) | (obtain ⟨rfl, rfl⟩ := h; rfl) | (subst h; rfl)
    · intro r s h
      cases r <;> cases s <;> simp only [beqVs] at h <;> first | rfl | cases h
  | succ n ih =>
    constructor
    · intro a b h
      cases a <;> cases b <;> simp only [beqV] at h <;> first | (cases h; done) | skip
      all_goals try simp only [Bool.and_eq_true, decide_eq_true_eq, Nat.beq_eq] at h
      all_goals first
        | rfl
        | (obtain ⟨rfl, h2⟩ := h; rw [ih.1 _ _ h2]; done)
        | (have h2 := ih.2 _ _ h; congr 1; exact Array.ext' h2)
        | (obtain ⟨rfl, rfl, rfl⟩ := h; rfl)
        | (obtain ⟨rfl, rfl⟩ := h; rfl)
        | (subst h; rfl)
    · intro r s h
      cases r with
      | nil => cases s with | nil => rfl | cons b s => simp only [beqVs] at h; cases h
      | cons a r =>
        cases s with
        | nil => simp only [beqVs] at h; cases h
        | cons b s =>
          simp only [beqVs, Bool.and_eq_true] at h
          rw [ih.1 _ _ h.1, ih.2 _ _ h.2]
noncomputable def beqCap : Cap → Cap → Bool
  | .is a, .is b => Nat.beq a b
  | .less a, .less b => Nat.beq a b
  | _, _ => false
noncomputable def beqA : AV → AV → Bool
  | .v a, .v b => beqV 100 a b
  | .ptr k o, .ptr k' o' => Nat.beq k k' && Nat.beq o o'
  | .sl k o n c, .sl k' o' n' c' => Nat.beq k k' && (Nat.beq o o' && (Nat.beq n n' && beqCap c c'))
  | .ifc t a, .ifc u b => Nat.beq t u && beqA a b
  | _, _ => false
theorem beqA_ok : ∀ {a b : AV}, beqA a b = true → a = b
  | .v a, b, h => by
    cases b <;> simp only [beqA] at h <;> first | (cases h; done) | skip
    rw [(beq_ok 100).1 _ _ h]
  | .ptr k o, b, h => by
    cases b <;> simp only [beqA] at h <;> first | (cases h; done) | skip
    simp only [Bool.and_eq_true, Nat.beq_eq] at h
    obtain ⟨rfl, rfl⟩ := h
    rfl
  | .sl k o n c, b, h => by
    cases b <;> simp only [beqA] at h <;> first | (cases h; done) | skip
    simp only [Bool.and_eq_true, Nat.beq_eq] at h
    obtain ⟨rfl, rfl, rfl, h⟩ := h
    rename_i c'
    cases c <;> cases c' <;> simp only [beqCap] at h <;> first | (cases h; done) | skip
    all_goals rw [Nat.eq_of_beq_eq_true h]
  | .ifc t a, b, h => by
    cases b <;> simp only [beqA] at h <;> first | (cases h; done) | skip
    simp only [Bool.and_eq_true, Nat.beq_eq] at h
    obtain ⟨rfl, h⟩ := h
    rw [beqA_ok h]
  | .map k, b, h => by cases b <;> simp only [beqA] at h <;> cases h
  | .e0 k j, b, h => by cases b <;> simp only [beqA] at h <;> cases h
  | .fn f a l, b, h => by cases b <;> simp only [beqA] at h <;> cases h
  | .agg l, b, h => by cases b <;> simp only [beqA] at h <;> cases h
  | .tup l, b, h => by cases b <;> simp only [beqA] at h <;> cases h
end Go.Sh.Ev

namespace Go.Sh.Ev
open Go Go.RowKit
set_option linter.unusedVariables false
set_option linter.unusedSimpArgs false

/-! ### regions that draw and hold calls or stores -/
structure BL where
  before : AH
  after : AH
  op : Oper
  e : AEnv
  g : Bool
  v : AV
section
variable (P : Program) (G : Globs) (bc : BCall)
noncomputable def bGuard (all : List Oper) (o : Oper) (e : AEnv) : Option Bool := match o.guard with
  | none => some true
  | some (j, want) => (dstOf all j).ob fun d => match e d with
    | some (.v x) => some (wantedV want x)
    | _ => none
noncomputable def flatNext (o : Oper) (e : AEnv) (H : AH) (g : Bool) (log : List BL) (k : AEnv → AH → List BL → Option (AEnv × AH × List BL)) (v : AV) (H' : AH) : Option (AEnv × AH × List BL) := k (putE e o.dst v) H' (log ++ [⟨H, H', o, e, g, v⟩])
noncomputable def bFlat (all : List Oper) : List Oper → AEnv → AH → List BL → Option (AEnv × AH × List BL)
  | [], e, H, log => some (e, H, log)
  | o :: rest, e, H, log => (bGuard all o e).ob fun g =>
      (bif g then bOp P G bc o e H else some (.v undef, H)).ob (Prod.rec (flatNext o e H g log (bFlat all rest)))
noncomputable def flatEnd (ps : List (Nat × Nat)) (chk : List BL → List (Nat × Nat) → Bool) (e : AEnv) (H : AH) (log : List BL) : Option (AEnv × AH) := bif chk log ps then some (e, H) else none
noncomputable def bChk (x : BL) (H : AH) : Bool := bif x.g then (match x.op.op with
  | .load t a => match (aev x.e a).ob fun a => bLoad P G H t a with
    | some v => beqA v x.v
    | none => false
  | _ => false) else true
noncomputable def bChkAll (log : List BL) : List (Nat × Nat) → Bool
  | [] => true
  | (r, m) :: rest => (match log[r]?, log[m]? with
    | some x, some y => bChk P G x y.before && bChk P G x y.after
    | _, _ => false) && bChkAll log rest
noncomputable def bRegion (nt : Nat) (ops : List Oper) (draw : Bool) (e : AEnv) (H : AH) : Option (AEnv × AH) :=
  bif regionOk nt ops then (match draw with
    | false => bOps P G bc ops (2 * ops.length + 1) 0 ops [] e H
    | true => bif drawOk P ops then bOps P G bc ops (2 * ops.length + 1) 0 ops [] e H
      else bif flatOk P ops then (bFlat P G bc ops ops e H []).ob (Prod.rec fun e => Prod.rec (flatEnd (loose P ops) (bChkAll P G) e)) else none)
  else none
end
section
variable {P : Program} {G : Globs} {bc : BCall} {call : CallF} {W : World}
/-- one entry beside the real one -/
noncomputable def LogOk (P : Program) (call : CallF) (W : World) (ρ : Rho) (x : BL) (y : LogE) : Prop :=
  Live W ρ x.before y.before ∧ Live W ρ x.after y.after ∧ ∃ eR V, EnvR ρ x.e eR ∧ g ρ x.v = some V ∧ ∀ W', y.chk W' = if x.g = true then (aOp P call x.op eR W' fun v _ => some v) = some V else True
noncomputable def LogsOk (P : Program) (call : CallF) (W : World) (ρ : Rho) : List BL → List LogE → Prop
  | [], [] => True
  | x :: r, y :: s => LogOk P call W ρ x y ∧ LogsOk P call W ρ r s
  | _, _ => False
theorem LogOk.mono {ρ ρ' : Rho} (h : RhoLe ρ ρ') {x : BL} {y : LogE} (l : LogOk P call W ρ x y) : LogOk P call W ρ' x y := by
  obtain ⟨l1, l2, eR, V, l3, l4, l5⟩ := l
  exact ⟨l1.mono h, l2.mono h, eR, V, l3.mono h, g_mono h _ _ l4, l5⟩
theorem LogsOk.mono {ρ ρ' : Rho} (h : RhoLe ρ ρ') : ∀ {x : List BL} {y : List LogE}, LogsOk P call W ρ x y → LogsOk P call W ρ' x y
  | [], [], _ => trivial
  | x :: r, y :: s, l => ⟨l.1.mono h, LogsOk.mono h l.2⟩
  | [], _ :: _, l => l.elim
  | _ :: _, [], l => l.elim
theorem LogsOk.append {ρ : Rho} : ∀ {x x' : List BL} {y y' : List LogE}, LogsOk P call W ρ x y → LogsOk P call W ρ x' y' → LogsOk P call W ρ (x ++ x') (y ++ y')
  | [], x', [], y', _, l => l
  | x :: r, x', y :: s, y', l, l' => ⟨l.1, LogsOk.append l.2 l'⟩
  | [], _, _ :: _, _, l, _ => l.elim
  | _ :: _, _, [], _, l, _ => l.elim
theorem LogsOk.get {ρ : Rho} : ∀ {x : List BL} {y : List LogE}, LogsOk P call W ρ x y → ∀ {i : Nat} {a : BL}, x[i]? = some a → ∃ b, y[i]? = some b ∧ LogOk P call W ρ a b
  | [], [], _, i, a, h => by simp at h
  | x :: r, y :: s, l, 0, a, h => by simp at h; subst h; exact ⟨y, rfl, l.1⟩
  | x :: r, y :: s, l, i + 1, a, h => by simp at h; obtain ⟨b, h1, h2⟩ := LogsOk.get l.2 h; exact ⟨b, by simpa using h1, h2⟩
  | [], _ :: _, l, _, _, _ => l.elim
  | _ :: _, [], l, _, _, _ => l.elim
theorem bChk_ok (hG : GlobOk G W) {ρ : Rho} {x : BL} {y : LogE} (l : LogOk P call W ρ x y) {H : AH} {w : World} (hl : Live W ρ H w) (h : bChk P G x H = true) : y.chk w := by
  obtain ⟨_, _, eR, V, hE, hv, hc⟩ := l
  rw [hc]
  unfold bChk at h
  cases hg : x.g with
  | false => simp
  | true =>
    rw [hg] at h
    simp only [cond_true] at h
    simp only [if_true]
    split at h
    · rename_i t a hop
      split at h
      · rename_i v' hv'
        simp only [Option.ob_eq, Option.bind_eq_some_iff] at hv'
        obtain ⟨av, h1, h2⟩ := hv'
        have := beqA_ok h
        subst this
        obtain ⟨A, a1, a2⟩ := aev_ok hE h1
        obtain ⟨V', v1, v2⟩ := bLoad_ok hl hG h2 a1
        rw [hv] at v1
        cases v1
        unfold aOp
        rw [hop]
        simp only [Option.ebind_eq]
        simp only [a2, Option.bind_some, v2]
      · cases h
    · cases h
theorem bChkAll_ok (hG : GlobOk G W) {ρ : Rho} {xs : List BL} {ys : List LogE} (l : LogsOk P call W ρ xs ys) : ∀ {ps : List (Nat × Nat)}, bChkAll P G xs ps = true → chkAll ys ps
  | [], _ => trivial
  | (r, m) :: rest, h => by
    simp only [bChkAll, Bool.and_eq_true] at h
    obtain ⟨h1, h2⟩ := h
    refine ⟨?_, bChkAll_ok hG l h2⟩
    split at h1
    · rename_i x y hx hy
      simp only [Bool.and_eq_true] at h1
      obtain ⟨x', e1, l1⟩ := l.get hx
      obtain ⟨y', e2, l2⟩ := l.get hy
      simp only [e1, e2]
      exact ⟨bChk_ok hG l1 l2.1 h1.1, bChk_ok hG l1 l2.2.1 h1.2⟩
    · cases h1
theorem bGuard_ok {ρ : Rho} {e : AEnv} {eR : Env} (hE : EnvR ρ e eR) {all : List Oper} {o : Oper} {b : Bool} (h : bGuard all o e = some b) : guardV all o eR = some b := by
  unfold bGuard at h
  unfold guardV
  split at h
  · rename_i hg; simp only [hg]; exact h
  · rename_i j want hg
    simp only [hg]
    simp only [Option.ob_eq, Option.bind_eq_some_iff] at h
    obtain ⟨d, h1, h2⟩ := h
    rw [h1, Option.bind_some]
    split at h2
    · rename_i x hx
      obtain ⟨V, v1, v2⟩ := hE d _ hx
      simp only [g, Option.some.injEq] at v1
      subst v1
      rw [v2]
      exact h2
    · cases h2
theorem bFlat_ok (hG : GlobOk G W) (hC : CallB P call W bc) {all : List Oper} : ∀ (l : List Oper) (e : AEnv) (H : AH) (log : List BL) (e' : AEnv) (H' : AH) (log' : List BL), bFlat P G bc all l e H log = some (e', H', log') →
    ∀ (ρ : Rho) (w : World) (eR : Env) (logR : List LogE), Rel W ρ H w → EnvR ρ e eR → LogsOk P call W ρ log logR → ∃ ρ' w' eR' logR', RhoLe ρ ρ' ∧ Rel W ρ' H' w' ∧ EnvR ρ' e' eR' ∧ LogsOk P call W ρ' log' logR' ∧
      ∀ {σ : Type} (k : Env → World → List LogE → Option σ), aFlat P call all l eR w logR k = k eR' w' logR' := by
  intro l
  induction l with
  | nil => intro e H log e' H' log' h ρ w eR logR r hE hL; cases h; exact ⟨ρ, w, eR, logR, RhoLe.refl _, r, hE, hL, fun k => rfl⟩
  | cons o rest ih =>
    intro e H log e' H' log' h ρ w eR logR r hE hL
    simp only [bFlat, Option.ob_eq, Option.bind_eq_some_iff] at h
    obtain ⟨b, h1, ⟨v, H1⟩, h2, h4⟩ := h
    have hgd := bGuard_ok hE h1
    have step : ∃ ρ1 V w1, RhoLe ρ ρ1 ∧ Rel W ρ1 H1 w1 ∧ g ρ1 v = some V ∧ (if b = true then aOp P call o eR w fun v w' => some (v, w') else some (undef, w)) = some (V, w1) := by
      cases b with
      | true =>
        obtain ⟨ρ1, V, w1, l1, r1, v1, n1⟩ := bOp_ok r hG hC hE h2
        exact ⟨ρ1, V, w1, l1, r1, v1, by simp [n1]⟩
      | false =>
        cases h2
        exact ⟨ρ, undef, w, RhoLe.refl _, r, rfl, by simp⟩
    obtain ⟨ρ1, V, w1, l1, r1, v1, n1⟩ := step
    have hL1 : LogsOk P call W ρ1 (log ++ [⟨H, H1, o, e, b, v⟩]) (logR ++ [⟨w, w1, fun W' => if b = true then (aOp P call o eR W' fun v _ => some v) = some V else True⟩]) :=
      (hL.mono l1).append ⟨⟨r.toLive.mono l1, r1.toLive, eR, V, hE.mono l1, v1, fun W' => rfl⟩, trivial⟩
    obtain ⟨ρ2, w2, eR2, logR2, l2, r2, E2, L2, n2⟩ := ih _ _ _ _ _ _ h4 ρ1 w1 _ _ r1 ((hE.mono l1).put v1) hL1
    refine ⟨ρ2, w2, eR2, logR2, l1.trans l2, r2, E2, L2, fun k => ?_⟩
    rw [aFlat, hgd, Option.bind_some, n1, Option.bind_some]
    exact n2 k
theorem bRegion_ok (hG : GlobOk G W) (hC : CallB P call W bc) {rs : List Nat} {nt id : Nat} {ops : Array Oper} {draw : Bool} {x : Ann} {c : Ctx} {e : AEnv} {H : AH} {e' : AEnv} {H' : AH} (h : bRegion P G bc nt ops.toList draw e H = some (e', H'))
    {ρ : Rho} {w : World} {eR : Env} (r : Rel W ρ H w) (hE : EnvR ρ e eR) : ∃ ρ' w' eR', RhoLe ρ ρ' ∧ Rel W ρ' H' w' ∧ EnvR ρ' e' eR' ∧ ∀ (k : Env → World → Option Res), aCode P call rs nt (.region id ops draw) x c eR w k = k eR' w' := by
  unfold bRegion at h
  cases hr : regionOk nt ops.toList with
  | false => rw [hr] at h; cases h
  | true =>
    rw [hr] at h
    simp only [cond_true] at h
    cases draw with
    | false =>
      obtain ⟨ρ', w', eR', h1, h2, h3, h4⟩ := bOps_ok hG hC _ _ _ _ _ _ _ _ h ρ w eR r hE
      exact ⟨ρ', w', eR', h1, h2, h3, fun k => by simp only [aCode, hr, if_true]; exact h4 k⟩
    | true =>
      simp only at h
      cases hd : drawOk P ops.toList with
      | true =>
        rw [hd] at h
        simp only [cond_true] at h
        obtain ⟨ρ', w', eR', h1, h2, h3, h4⟩ := bOps_ok hG hC _ _ _ _ _ _ _ _ h ρ w.drew eR r.drew hE
        exact ⟨ρ', w', eR', h1, h2, h3, fun k => by simp only [aCode, hr, hd, if_true]; exact h4 k⟩
      | false =>
        rw [hd] at h
        simp only [cond_false] at h
        cases hf : flatOk P ops.toList with
        | false => rw [hf] at h; cases h
        | true =>
          rw [hf] at h
          simp only [cond_true, Option.ob_eq, Option.bind_eq_some_iff] at h
          obtain ⟨⟨e1, H1, log⟩, h1, h2⟩ := h
          simp only [flatEnd] at h2
          cases hc : bChkAll P G log (loose P ops.toList) with
          | false => rw [hc] at h2; cases h2
          | true =>
            rw [hc] at h2
            cases h2
            obtain ⟨ρ', w', eR', logR', l1, r1, E1, L1, n1⟩ := bFlat_ok hG hC _ _ _ _ _ _ _ h1 ρ w.drew eR [] r.drew hE trivial
            refine ⟨ρ', w', eR', l1, r1, E1, fun k => ?_⟩
            simp only [aCode, hr, hd, hf, if_true, Bool.false_eq_true, if_false]
            rw [n1]
            unfold chkThen
            rw [if_pos (bChkAll_ok hG L1 hc)]
end

/-! ### code -/
inductive BRes where
  | norm (e : AEnv) (H : AH)
  | exit (id : Nat) (vs : List AV) (H : AH)
  | ret (vs : List AV) (H : AH)
inductive AR where
  | norm (vs : List AV) (H : AH)
  | exit (id : Nat) (vs : List AV) (H : AH)
  | ret (vs : List AV) (H : AH)
noncomputable def loopNext (k : List AV → AH → Option AR) (x : Option AR) : Option AR := match x with
  | some (.norm vs' H') => k vs' H'
  | r => r
noncomputable def bLoop (f : List AV → AH → Option AR) (n : Nat) : List AV → AH → Option AR := Nat.rec (motive := fun _ => List AV → AH → Option AR) (fun _ _ => none) (fun _ rec vs H => loopNext rec (f vs H)) n
theorem bLoop_succ (f : List AV → AH → Option AR) (n : Nat) (vs : List AV) (H : AH) : bLoop f (n + 1) vs H = loopNext (bLoop f n) (f vs H) := rfl
/-- the end of a piece of code, as a list of slots -/
noncomputable def ending (K : List Nat) : BRes → Option AR
  | .norm e H => (agets e K).ob fun vs => some (.norm vs H)
  | .exit id vs H => some (.exit id vs H)
  | .ret vs H => some (.ret vs H)
/-- .. as an environment -/
noncomputable def opening (K : List Nat) : AR → Option BRes
  | .norm vs H => (mkE K vs).ob fun e => some (.norm e H)
  | .exit id vs H => some (.exit id vs H)
  | .ret vs H => some (.ret vs H)
noncomputable def AR.unblock (id : Nat) : AR → AR
  | .exit i vs H => bif Nat.beq i id then .norm vs H else .exit i vs H
  | r => r
section
variable (P : Program) (G : Globs) (bc : BCall) (fuel : Nat) (rs : List Nat) (nt : Nat)
abbrev CodeRec := Ann → Ctx → AEnv → AH → Option BRes
noncomputable def kRegion (ops : Array Oper) (draw : Bool) (e : AEnv) (H : AH) : Option BRes := (bRegion P G bc nt ops.toList draw e H).ob (Prod.rec fun e H => some (.norm e H))
noncomputable def kThen (f : AEnv → AH → Option BRes) (x : Option BRes) : Option BRes := match x with
  | some (.norm e' H') => f e' H'
  | r => r
noncomputable def kSeq (a b : CodeRec) (x : Ann) (c : Ctx) (e : AEnv) (H : AH) : Option BRes := match x with
  | .s x y => kThen (b y c) (a x c e H)
  | _ => none
noncomputable def kTest (t : Operand) (e : AEnv) (f : Bool → Option BRes) : Option BRes := match aev e t with
  | some (.v (.bool t)) => f t
  | _ => none
noncomputable def kCond (t : Operand) (a b : CodeRec) (x : Ann) (c : Ctx) (e : AEnv) (H : AH) : Option BRes := match x with
  | .c x y => kTest t e fun q => bif q then a x c e H else b y c e H
  | .j K x y => kTest t e fun q => ((bif q then a x c e H else b y c e H).ob (ending K)).ob (opening K)
  | _ => none
noncomputable def kBlock (id : Nat) (a : CodeRec) (x : Ann) (c : Ctx) (e : AEnv) (H : AH) : Option BRes := match x with
  | .b K x => ((a x ((id, K) :: c) e H).ob (ending K)).ob fun r => opening K (r.unblock id)
  | _ => none
noncomputable def kRound (K : List Nat) (a : AEnv → AH → Option BRes) (vs : List AV) (H : AH) : Option AR := (mkE K vs).ob fun e => (a e H).ob (ending K)
noncomputable def kOut : AR → Option BRes
  | .norm _ _ => none
  | .exit id vs H => some (.exit id vs H)
  | .ret vs H => some (.ret vs H)
noncomputable def kLoop (a : CodeRec) (x : Ann) (c : Ctx) (e : AEnv) (H : AH) : Option BRes := match x with
  | .l K x => (agets e K).ob fun vs => (bLoop (kRound K (a x c)) fuel vs H).ob kOut
  | _ => none
noncomputable def kExit (id : Nat) (c : Ctx) (e : AEnv) (H : AH) : Option BRes := (Ctx.keep c id).ob fun K => (agets e K).ob fun vs => some (.exit id vs H)
noncomputable def kRet (e : AEnv) (H : AH) : Option BRes := (agets e rs).ob fun vs => some (.ret vs H)
noncomputable def kSkip (e : AEnv) (H : AH) : Option BRes := some (.norm e H)
noncomputable def bCode (c : Code) : CodeRec := Code.rec (motive := fun _ => CodeRec) (fun _ _ => kSkip) (fun _ ops draw _ _ => kRegion P G bc nt ops draw) (fun _ _ a b => kSeq a b) (fun t _ _ a b => kCond t a b) (fun id _ a => kBlock id a) (fun _ a => kLoop fuel a)
  (fun _ _ _ _ _ _ _ _ _ _ => none) (fun id _ c => kExit id c) (fun _ _ _ _ _ _ => none) (fun _ _ _ => kSkip) (fun _ _ _ _ _ => none) (fun _ _ => kRet rs) (fun _ _ _ _ _ => none) c
theorem bCode_seq (a b : Code) : bCode P G bc fuel rs nt (.seq a b) = kSeq (bCode P G bc fuel rs nt a) (bCode P G bc fuel rs nt b) := rfl
theorem bCode_cond (t : Operand) (a b : Code) : bCode P G bc fuel rs nt (.cond t a b) = kCond t (bCode P G bc fuel rs nt a) (bCode P G bc fuel rs nt b) := rfl
theorem bCode_block (id : Nat) (a : Code) : bCode P G bc fuel rs nt (.block id a) = kBlock id (bCode P G bc fuel rs nt a) := rfl
theorem bCode_loop (a : Code) : bCode P G bc fuel rs nt (.loop a) = kLoop fuel (bCode P G bc fuel rs nt a) := rfl
end
section
variable {P : Program} {G : Globs} {bc : BCall} {call : CallF} {W : World}
/-- what a piece of code has come to -/
noncomputable def CodeTo (W : World) (ρ : Rho) (r : BRes) (F : (Env → World → Option Res) → Option Res) : Prop := match r with
  | .norm e' H' => ∃ ρ' w' eR', RhoLe ρ ρ' ∧ Rel W ρ' H' w' ∧ EnvR ρ' e' eR' ∧ ∀ k, F k = k eR' w'
  | .exit id vs H' => ∃ ρ' w' us, RhoLe ρ ρ' ∧ Rel W ρ' H' w' ∧ gs ρ' vs = some us ∧ ∀ k, F k = some (.exit id us w')
  | .ret vs H' => ∃ ρ' w' us, RhoLe ρ ρ' ∧ Rel W ρ' H' w' ∧ gs ρ' vs = some us ∧ ∀ k, F k = some (.ret us w')
noncomputable def ResTo (W : World) (ρ : Rho) (r : AR) (x : Option Res) : Prop := match r with
  | .norm vs H' => ∃ ρ' w' us, RhoLe ρ ρ' ∧ Rel W ρ' H' w' ∧ gs ρ' vs = some us ∧ x = some (.norm us w')
  | .exit id vs H' => ∃ ρ' w' us, RhoLe ρ ρ' ∧ Rel W ρ' H' w' ∧ gs ρ' vs = some us ∧ x = some (.exit id us w')
  | .ret vs H' => ∃ ρ' w' us, RhoLe ρ ρ' ∧ Rel W ρ' H' w' ∧ gs ρ' vs = some us ∧ x = some (.ret us w')
theorem ending_ok {ρ : Rho} {K : List Nat} {r : BRes} {q : AR} {F : (Env → World → Option Res) → Option Res} (h : CodeTo W ρ r F) (hq : ending K r = some q) : ResTo W ρ q (F fun e w => (gets e K).ebind fun vs => some (.norm vs w)) := by
  cases r with
  | norm e H =>
    simp only [ending, Option.ob_eq, Option.bind_eq_some_iff, Option.some.injEq] at hq
    obtain ⟨vs, h1, rfl⟩ := hq
    obtain ⟨ρ', w', eR', l, r', E, n⟩ := h
    obtain ⟨us, h2, h3⟩ := agets_ok E h1
    exact ⟨ρ', w', us, l, r', h2, by rw [n, h3]⟩
  | exit id vs H =>
    cases hq
    obtain ⟨ρ', w', us, l, r', E, n⟩ := h
    exact ⟨ρ', w', us, l, r', E, n _⟩
  | ret vs H =>
    cases hq
    obtain ⟨ρ', w', us, l, r', E, n⟩ := h
    exact ⟨ρ', w', us, l, r', E, n _⟩
theorem opening_ok {ρ : Rho} {K : List Nat} {r : AR} {q : BRes} {x : Option Res} (h : ResTo W ρ r x) (hq : opening K r = some q) : CodeTo W ρ q fun k => x.bind fun r => r.cont fun vs w => k (ofList 0 K vs) w := by
  cases r with
  | norm vs H =>
    simp only [opening, Option.ob_eq, Option.bind_eq_some_iff, Option.some.injEq] at hq
    obtain ⟨e, h1, rfl⟩ := hq
    obtain ⟨ρ', w', us, l, r', E, rfl⟩ := h
    exact ⟨ρ', w', _, l, r', mkE_ok (pre := []) h1 E, fun k => rfl⟩
  | exit id vs H =>
    cases hq
    obtain ⟨ρ', w', us, l, r', E, rfl⟩ := h
    exact ⟨ρ', w', us, l, r', E, fun k => rfl⟩
  | ret vs H =>
    cases hq
    obtain ⟨ρ', w', us, l, r', E, rfl⟩ := h
    exact ⟨ρ', w', us, l, r', E, fun k => rfl⟩
theorem unblock_ok {ρ : Rho} {id : Nat} {r : AR} {x : Option Res} (h : ResTo W ρ r x) : ResTo W ρ (r.unblock id) (x.bind fun r => some (r.unblock id)) := by
  cases r with
  | norm vs H => obtain ⟨ρ', w', us, l, r', E, rfl⟩ := h; exact ⟨ρ', w', us, l, r', E, rfl⟩
  | ret vs H => obtain ⟨ρ', w', us, l, r', E, rfl⟩ := h; exact ⟨ρ', w', us, l, r', E, rfl⟩
  | exit i vs H =>
    obtain ⟨ρ', w', us, l, r', E, rfl⟩ := h
    cases hb : Nat.beq i id with
    | true =>
      have e := Nat.eq_of_beq_eq_true hb
      have e2 : (AR.exit i vs H).unblock id = .norm vs H := by simp only [AR.unblock, hb, cond_true]
      rw [e2]
      exact ⟨ρ', w', us, l, r', E, by simp [Res.unblock, e]⟩
    | false =>
      have e : ¬ i = id := fun e => by rw [e, Nat.beq_refl] at hb; cases hb
      have e2 : (AR.exit i vs H).unblock id = .exit i vs H := by simp only [AR.unblock, hb, cond_false]
      rw [e2]
      exact ⟨ρ', w', us, l, r', E, by simp [Res.unblock, e]⟩
theorem bLoop_ok {f : List AV → AH → Option AR} {F : List Value → World → Option Res} (hf : ∀ vs H r, f vs H = some r → ∀ ρ w us, Rel W ρ H w → gs ρ vs = some us → ResTo W ρ r (F us w)) :
    ∀ (n : Nat) (vs : List AV) (H : AH) (r : AR), bLoop f n vs H = some r → (∀ vs H, r ≠ .norm vs H) → ∀ ρ w us, Rel W ρ H w → gs ρ vs = some us → ResTo W ρ r (iter F us w) := by
  intro n
  induction n with
  | zero => intro vs H r h; cases h
  | succ n ih =>
    intro vs H r h hr ρ w us rel hus
    rw [bLoop_succ] at h
    unfold loopNext at h
    split at h
    · rename_i vs' H' hstep
      obtain ⟨ρ1, w1, us1, l1, r1, g1, e1⟩ := hf _ _ _ hstep ρ w us rel hus
      have := ih _ _ _ h hr ρ1 w1 us1 r1 g1
      have key : iter F us w = iter F us1 w1 ∨ True := .inr trivial
      cases r with
      | norm vs H => exact absurd rfl (hr vs H)
      | exit id vs H =>
        obtain ⟨ρ2, w2, us2, l2, r2, g2, e2⟩ := this
        exact ⟨ρ2, w2, us2, l1.trans l2, r2, g2, iter_of_rounds (.more e1 (rounds_of_iter e2))⟩
      | ret vs H =>
        obtain ⟨ρ2, w2, us2, l2, r2, g2, e2⟩ := this
        exact ⟨ρ2, w2, us2, l1.trans l2, r2, g2, iter_of_rounds (.more e1 (rounds_of_iter e2))⟩
    · rename_i hne
      have := hf _ _ _ h ρ w us rel hus
      cases r with
      | norm vs H => exact absurd rfl (hr vs H)
      | exit id vs H =>
        obtain ⟨ρ2, w2, us2, l2, r2, g2, e2⟩ := this
        exact ⟨ρ2, w2, us2, l2, r2, g2, iter_of_rounds (.exit e2)⟩
      | ret vs H =>
        obtain ⟨ρ2, w2, us2, l2, r2, g2, e2⟩ := this
        exact ⟨ρ2, w2, us2, l2, r2, g2, iter_of_rounds (.ret e2)⟩
theorem CodeTo.weak {ρ ρ' : Rho} (h : RhoLe ρ ρ') {r : BRes} {F : (Env → World → Option Res) → Option Res} (c : CodeTo W ρ' r F) : CodeTo W ρ r F := by
  cases r with
  | norm e H => obtain ⟨ρ1, w1, e1, l, r⟩ := c; exact ⟨ρ1, w1, e1, h.trans l, r⟩
  | exit id vs H => obtain ⟨ρ1, w1, e1, l, r⟩ := c; exact ⟨ρ1, w1, e1, h.trans l, r⟩
  | ret vs H => obtain ⟨ρ1, w1, e1, l, r⟩ := c; exact ⟨ρ1, w1, e1, h.trans l, r⟩
theorem CodeTo.same {ρ : Rho} {r : BRes} {F F' : (Env → World → Option Res) → Option Res} (c : CodeTo W ρ r F) (h : ∀ k, F' k = F k) : CodeTo W ρ r F' := by
  have : F' = F := funext h
  rw [this]; exact c
theorem bCode_ok (hG : GlobOk G W) (hC : CallB P call W bc) {fuel : Nat} {rs : List Nat} {nt : Nat} : ∀ (c : Code) (x : Ann) (ctx : Ctx) (e : AEnv) (H : AH) (r : BRes), bCode P G bc fuel rs nt c x ctx e H = some r →
    ∀ (ρ : Rho) (w : World) (eR : Env), Rel W ρ H w → EnvR ρ e eR → CodeTo W ρ r fun k => aCode P call rs nt c x ctx eR w k := by
  intro c
  induction c with
  | skip => intro x ctx e H r h ρ w eR rel hE; have h' : some (BRes.norm e H) = some r := h; clear h; cases x <;> (cases h'; exact ⟨ρ, w, eR, RhoLe.refl _, rel, hE, fun k => by simp only [aCode]⟩)
  | label l => intro x ctx e H r h ρ w eR rel hE; have h' : some (BRes.norm e H) = some r := h; clear h; cases x <;> (cases h'; exact ⟨ρ, w, eR, RhoLe.refl _, rel, hE, fun k => by simp only [aCode]⟩)
  | region id ops draw =>
    intro x ctx e H r h ρ w eR rel hE
    have h' : ((bRegion P G bc nt ops.toList draw e H).ob (Prod.rec fun e H => some (BRes.norm e H))) = some r := h
    simp only [Option.ob_eq, Option.bind_eq_some_iff] at h'
    obtain ⟨⟨e', H'⟩, h1, h2⟩ := h'
    have h3 : some (BRes.norm e' H') = some r := h2
    cases h3
    exact bRegion_ok hG hC h1 rel hE
  | seq a b iha ihb =>
    intro x ctx e H r h ρ w eR rel hE
    rw [bCode_seq] at h
    cases x with
    | s x y =>
      simp only [kSeq, kThen] at h
      split at h
      · rename_i e1 H1 h1
        obtain ⟨ρ1, w1, eR1, l1, r1, E1, n1⟩ := iha _ _ _ _ _ h1 ρ w eR rel hE
        refine ((ihb _ _ _ _ _ h ρ1 w1 eR1 r1 E1).weak l1).same fun k => ?_
        simp only [aCode]
        exact n1 _
      · rename_i hne
        have := iha _ _ _ _ _ h ρ w eR rel hE
        cases r with
        | norm e1 H1 => exact absurd h (hne e1 H1)
        | exit id vs H1 => obtain ⟨ρ1, w1, us, l1, r1, E1, n1⟩ := this; exact ⟨ρ1, w1, us, l1, r1, E1, fun k => by simp only [aCode]; exact n1 _⟩
        | ret vs H1 => obtain ⟨ρ1, w1, us, l1, r1, E1, n1⟩ := this; exact ⟨ρ1, w1, us, l1, r1, E1, fun k => by simp only [aCode]; exact n1 _⟩
    | _ => cases h
  | cond t a b iha ihb =>
    intro x ctx e H r h ρ w eR rel hE
    rw [bCode_cond] at h
    cases x with
    | c x y =>
      simp only [kCond, kTest] at h
      split at h
      · rename_i q hq
        obtain ⟨T, t1, t2⟩ := aev_ok hE hq
        simp only [g, Option.some.injEq] at t1
        subst t1
        cases q with
        | true => exact (iha _ _ _ _ _ h ρ w eR rel hE).same fun k => by simp only [aCode]; rw [t2]; rfl
        | false => exact (ihb _ _ _ _ _ h ρ w eR rel hE).same fun k => by simp only [aCode]; rw [t2]; rfl
      · cases h
    | j K x y =>
      simp only [kCond, kTest] at h
      split at h
      · rename_i q hq
        obtain ⟨T, t1, t2⟩ := aev_ok hE hq
        simp only [g, Option.some.injEq] at t1
        subst t1
        simp only [Option.ob_eq, Option.bind_eq_some_iff] at h
        obtain ⟨q2, ⟨q1, h1, h2⟩, h3⟩ := h
        cases q with
        | true => exact (opening_ok (ending_ok (iha _ _ _ _ _ h1 ρ w eR rel hE) h2) h3).same fun k => by simp only [aCode]; rw [t2]; rfl
        | false => exact (opening_ok (ending_ok (ihb _ _ _ _ _ h1 ρ w eR rel hE) h2) h3).same fun k => by simp only [aCode]; rw [t2]; rfl
      · cases h
    | _ => cases h
  | block id a iha =>
    intro x ctx e H r h ρ w eR rel hE
    rw [bCode_block] at h
    cases x with
    | b K x =>
      simp only [kBlock, Option.ob_eq, Option.bind_eq_some_iff] at h
      obtain ⟨q2, ⟨q1, h1, h2⟩, h3⟩ := h
      refine (opening_ok (unblock_ok (id := id) (ending_ok (iha _ _ _ _ _ h1 ρ w eR rel hE) h2)) h3).same fun k => ?_
      simp only [aCode, Option.bind_assoc]
      rfl
    | _ => cases h
  | loop a iha =>
    intro x ctx e H r h ρ w eR rel hE
    rw [bCode_loop] at h
    cases x with
    | l K x =>
      simp only [kLoop, Option.ob_eq, Option.bind_eq_some_iff] at h
      obtain ⟨vs, h1, q, h2, h3⟩ := h
      obtain ⟨us, u1, u2⟩ := agets_ok hE h1
      have hne : ∀ vs H, q ≠ .norm vs H := by
        intro vs H e
        subst e
        cases h3
      have key := bLoop_ok (F := fun vs w => aCode P call rs nt a x ctx (ofList 0 K vs) w fun e w => (gets e K).ebind fun vs => some (.norm vs w)) (W := W) (by
        intro vs H r hr ρ w us rel hus
        simp only [kRound, Option.ob_eq, Option.bind_eq_some_iff] at hr
        obtain ⟨e, h4, q, h5, h6⟩ := hr
        exact ending_ok (iha _ _ _ _ _ h5 ρ w _ rel (mkE_ok (pre := []) h4 hus)) h6) fuel vs H q h2 hne ρ w us rel u1
      cases q with
      | norm vs H => exact absurd rfl (hne vs H)
      | exit id vs H =>
        cases h3
        obtain ⟨ρ1, w1, us1, l1, r1, g1, e1⟩ := key
        exact ⟨ρ1, w1, us1, l1, r1, g1, fun k => by simp only [aCode]; rw [u2]; exact e1⟩
      | ret vs H =>
        cases h3
        obtain ⟨ρ1, w1, us1, l1, r1, g1, e1⟩ := key
        exact ⟨ρ1, w1, us1, l1, r1, g1, fun k => by simp only [aCode]; rw [u2]; exact e1⟩
    | _ => cases h
  | exit id =>
    intro x ctx e H r h ρ w eR rel hE
    have h' : ((Ctx.keep ctx id).ob fun K => (agets e K).ob fun vs => some (BRes.exit id vs H)) = some r := h
    simp only [Option.ob_eq, Option.bind_eq_some_iff, Option.some.injEq] at h'
    obtain ⟨K, h1, vs, h2, rfl⟩ := h'
    obtain ⟨us, u1, u2⟩ := agets_ok hE h2
    exact ⟨ρ, w, us, RhoLe.refl _, rel, u1, fun k => by simp only [aCode]; rw [h1, Option.bind_some, u2]⟩
  | ret =>
    intro x ctx e H r h ρ w eR rel hE
    have h' : ((agets e rs).ob fun vs => some (BRes.ret vs H)) = some r := h
    simp only [Option.ob_eq, Option.bind_eq_some_iff, Option.some.injEq] at h'
    obtain ⟨vs, h2, rfl⟩ := h'
    obtain ⟨us, u1, u2⟩ := agets_ok hE h2
    exact ⟨ρ, w, us, RhoLe.refl _, rel, u1, fun k => by simp only [aCode]; rw [u2]⟩
  | _ => intro x ctx e H r h; exact absurd h (by intro h; cases h)
end

/-! ### functions -/
section
variable (P : Program) (G : Globs) (bc : BCall) (fuel : Nat)
noncomputable def isDefer : Code → Bool
  | .region _ ops false => (deferOf ops.toList).isSome
  | _ => false
noncomputable def bBody (rs : List Nat) (nt : Nat) : Code → Ann → AEnv → AH → Option AR
  | .seq a b, .s x y, e, H => bif isDefer a then none else match bCode P G bc fuel rs nt a x [] e H with
    | some (.norm e' H') => bBody rs nt b y e' H'
    | some (.exit id vs H') => some (.exit id vs H')
    | some (.ret vs H') => some (.ret vs H')
    | none => none
  | c, x, e, H => (bCode P G bc fuel rs nt c x [] e H).ob (ending rs)
noncomputable def outA : List AV → AV
  | [v] => v
  | vs => mkTup vs
noncomputable def bLoads (H : AH) : List ResultVar → List AV → Option (List AV)
  | [], _ => some []
  | .tmp _ :: r, v :: vs => (bLoads H r vs).ob fun us => some (v :: us)
  | .cell _ t :: r, v :: vs => (bLoad P G H t v).ob fun u => (bLoads H r vs).ob fun us => some (u :: us)
  | _ :: _, [] => none
noncomputable def bFun (fn : Func) (ann : Ann) (as : List AV) (H : AH) : Option (AV × AH) := match fn.body with
  | some c => (mkE (List.range as.length) as).ob fun e => match tmpsOf fn.results.toList with
    | some rs => match bBody P G bc fuel rs fn.ntmps c ann e H with
      | some (.norm vs H') | some (.ret vs H') => some (outA vs, H')
      | _ => none
    | none => match bBody P G bc fuel (slotsOf fn.results.toList) fn.ntmps c ann e H with
      | some (.norm vs H') | some (.ret vs H') => (bLoads P G H' fn.results.toList vs).ob fun us => some (outA us, H')
      | _ => none
  | none => none
end
noncomputable def bRun (P : Program) (G : Globs) (fuel : Nat) (ann : FuncId → Ann) (isPrim : FuncId → Bool) : Nat → BCall
  | 0, _, _, _ => none
  | n + 1, f, as, H => match P.funcs[f]? with
    | some fn => bif callable P f && !isPrim f then bFun P G (bRun P G fuel ann isPrim n) fuel fn (ann f) as H else none
    | none => none
section
variable {P : Program} {G : Globs} {bc : BCall} {call : CallF} {W : World}
theorem aBody_seq {dfr : CallF} {rs : List Nat} {nt : Nat} {a b : Code} {x y : Ann} {e : Env} {w : World} (h : isDefer a = false) : aBody P call dfr rs nt (.seq a b) (.s x y) e w = aCode P call rs nt a x [] e w fun e w => aBody P call dfr rs nt b y e w := by
  cases a with
  | region id ops draw =>
    cases draw with
    | true => rfl
    | false =>
      have hn : deferOf ops.toList = none := by
        have h' : (deferOf ops.toList).isSome = false := h
        cases hd : deferOf ops.toList with
        | none => rfl
        | some p => rw [hd] at h'; cases h'
      conv => lhs; unfold aBody
      dsimp only
      rw [hn]
  | _ => rfl
theorem outA_ok {ρ : Rho} {vs : List AV} {us : List Value} (h : gs ρ vs = some us) : g ρ (outA vs) = some (outcome us) := by
  unfold outA
  split
  · rename_i v
    obtain ⟨V, h1, rfl⟩ := gs_one h
    exact h1
  · rename_i hne
    have : outcome us = .tuple us.toArray := by
      have hl := gs_length h
      unfold outcome
      split
      · rename_i u
        cases vs with
        | nil => simp at hl
        | cons a r =>
          cases r with
          | nil => exact absurd rfl (hne a)
          | cons b r => simp at hl
      · rfl
    rw [this]
    exact g_mkTup h
theorem bBody_ok (hG : GlobOk G W) (hC : CallB P call W bc) {dfr : CallF} {fuel : Nat} {rs : List Nat} {nt : Nat} : ∀ (c : Code) (x : Ann) (e : AEnv) (H : AH) (r : AR), bBody P G bc fuel rs nt c x e H = some r →
    ∀ (ρ : Rho) (w : World) (eR : Env), Rel W ρ H w → EnvR ρ e eR → ResTo W ρ r (aBody P call dfr rs nt c x eR w) := by
  intro c
  have base : ∀ (c : Code) (x : Ann) (e : AEnv) (H : AH) (r : AR), (bCode P G bc fuel rs nt c x [] e H).ob (ending rs) = some r → ∀ (ρ : Rho) (w : World) (eR : Env), Rel W ρ H w → EnvR ρ e eR →
      ResTo W ρ r (aCode P call rs nt c x [] eR w fun e w => (gets e rs).ebind fun vs => some (.norm vs w)) := by
    intro c x e H r h ρ w eR rel hE
    simp only [Option.ob_eq, Option.bind_eq_some_iff] at h
    obtain ⟨q, h1, h2⟩ := h
    exact ending_ok (bCode_ok hG hC _ _ _ _ _ _ h1 ρ w eR rel hE) h2
  induction c with
  | seq a b iha ihb =>
    intro x e H r h ρ w eR rel hE
    cases x with
    | s x y =>
      simp only [bBody] at h
      cases hd : isDefer a with
      | true => rw [hd] at h; cases h
      | false =>
        rw [hd] at h
        simp only [cond_false] at h
        rw [aBody_seq hd]
        split at h
        · rename_i e1 H1 h1
          obtain ⟨ρ1, w1, eR1, l1, r1, E1, n1⟩ := bCode_ok hG hC _ _ _ _ _ _ h1 ρ w eR rel hE
          have := ihb _ _ _ _ h ρ1 w1 eR1 r1 E1
          have n1' : (aCode P call rs nt a x [] eR w fun e w => aBody P call dfr rs nt b y e w) = aBody P call dfr rs nt b y eR1 w1 := n1 _
          rw [n1']
          cases r with
          | norm vs H => obtain ⟨a1, a2, a3, a4, a5⟩ := this; exact ⟨a1, a2, a3, l1.trans a4, a5⟩
          | exit id vs H => obtain ⟨a1, a2, a3, a4, a5⟩ := this; exact ⟨a1, a2, a3, l1.trans a4, a5⟩
          | ret vs H => obtain ⟨a1, a2, a3, a4, a5⟩ := this; exact ⟨a1, a2, a3, l1.trans a4, a5⟩
        · rename_i id vs H1 h1
          cases h
          obtain ⟨ρ1, w1, us, l1, r1, E1, n1⟩ := bCode_ok hG hC _ _ _ _ _ _ h1 ρ w eR rel hE
          exact ⟨ρ1, w1, us, l1, r1, E1, n1 _⟩
        · rename_i vs H1 h1
          cases h
          obtain ⟨ρ1, w1, us, l1, r1, E1, n1⟩ := bCode_ok hG hC _ _ _ _ _ _ h1 ρ w eR rel hE
          exact ⟨ρ1, w1, us, l1, r1, E1, n1 _⟩
        · cases h
    | _ => exact base _ _ _ _ _ h ρ w eR rel hE
  | _ => intro x e H r h ρ w eR rel hE; exact base _ _ _ _ _ (by simpa only [bBody] using h) ρ w eR rel hE
theorem bLoads_ok (hG : GlobOk G W) {ρ : Rho} {H : AH} {w : World} (r : Live W ρ H w) : ∀ {vars : List ResultVar} {vs us : List AV} {Vs : List Value}, bLoads P G H vars vs = some us → gs ρ vs = some Vs → ∃ Us, gs ρ us = some Us ∧ loadsOf P vars Vs w = some Us
  | [], vs, us, Vs, h, hv => by cases h; exact ⟨[], rfl, by cases Vs <;> rfl⟩
  | .tmp t :: rest, v :: vs, us, Vs, h, hv => by
    simp only [bLoads, Option.ob_eq, Option.bind_eq_some_iff, Option.some.injEq] at h
    obtain ⟨us', h1, rfl⟩ := h
    obtain ⟨x, xs, h2, h3, rfl⟩ := gs_cons.mp hv
    obtain ⟨Us, h4, h5⟩ := bLoads_ok hG r h1 h3
    exact ⟨x :: Us, gs_cons.mpr ⟨_, _, h2, h4, rfl⟩, by simp only [loadsOf, h5]; rfl⟩
  | .cell s t :: rest, v :: vs, us, Vs, h, hv => by
    simp only [bLoads, Option.ob_eq, Option.bind_eq_some_iff, Option.some.injEq] at h
    obtain ⟨u, h0, us', h1, rfl⟩ := h
    obtain ⟨x, xs, h2, h3, rfl⟩ := gs_cons.mp hv
    obtain ⟨Us, h4, h5⟩ := bLoads_ok hG r h1 h3
    obtain ⟨U, u1, u2⟩ := bLoad_ok r hG h0 h2
    have hx : ∃ a, x = .pointer (some a) := by
      cases x with
      | pointer a =>
        cases a with
        | none => exact absurd u2 (by unfold Instr.loadAt; simp [rrun_bind, Instr.sureAddr, stuck, rrun])
        | some a => exact ⟨a, rfl⟩
      | _ => exact absurd u2 (by unfold Instr.loadAt; simp [rrun_bind, Instr.sureAddr, stuck, rrun])
    obtain ⟨a, rfl⟩ := hx
    exact ⟨U :: Us, gs_cons.mpr ⟨_, _, u1, h4, rfl⟩, by simp only [loadsOf, u2, h5]; rfl⟩
  | .tmp _ :: _, [], us, Vs, h, hv => by cases h
  | .cell _ _ :: _, [], us, Vs, h, hv => by cases h
theorem args_ok {ρ : Rho} {as : List AV} {vs : List Value} {e : AEnv} (h : mkE (List.range as.length) as = some e) (hv : gs ρ as = some vs) : EnvR ρ e (ofArgs vs.toArray) := by
  have hl := gs_length hv
  have key := mkE_ok (pre := []) h hv
  intro t a ht
  obtain ⟨V, v1, v2⟩ := key t a ht
  refine ⟨V, v1, ?_⟩
  have gen : ∀ (m i : Nat) (us : List Value) (t : Nat) (V : Value), i + m ≤ us.length → ofList i (List.range' i m) us t = some V → us[t]? = some V := by
    intro m
    induction m with
    | zero => intro i us t V _ h; simp [ofList, Env.nil] at h
    | succ m ih =>
      intro i us t V hm h
      simp only [List.range'_succ, ofList] at h
      rw [set_eq] at h
      split at h
      · rename_i e1
        subst e1
        cases h
        have nthE : ∀ (us : List Value) (t : Nat), t < us.length → us[t]? = some (nth us t) := by
          intro us
          induction us with
          | nil => intro t h; simp at h
          | cons u us ih => intro t h; cases t with | zero => rfl | succ t => simp at h; simpa using ih t h
        exact nthE us t (by omega)
      · exact ih (i + 1) us t V (by omega) h
  have := gen as.length 0 vs t V (by omega) (by rw [← List.range_eq_range']; simpa using v2)
  simpa [ofArgs] using this
theorem bFun_ok (hG : GlobOk G W) (hC : CallB P call W bc) {dfr : CallF} {fuel : Nat} {fn : Func} {ann : Ann} {as : List AV} {H H' : AH} {v : AV} (h : bFun P G bc fuel fn ann as H = some (v, H')) {ρ : Rho} {w : World} {vs : List Value} (r : Rel W ρ H w) (hv : gs ρ as = some vs) :
    Done W ρ v H' (aFun P call dfr fn ann (ofArgs vs.toArray) w) := by
  unfold bFun at h
  unfold aFun
  cases hb : fn.body with
  | none => rw [hb] at h; cases h
  | some c =>
    rw [hb] at h
    simp only [Option.ob_eq, Option.bind_eq_some_iff] at h
    obtain ⟨e, h1, h2⟩ := h
    have hE := args_ok h1 hv
    cases hr : tmpsOf fn.results.toList with
    | some rs =>
      rw [hr] at h2
      simp only at h2 ⊢
      split at h2
      · rename_i us H1 h3
        cases h2
        obtain ⟨ρ1, w1, Us, l1, r1, g1, e1⟩ := bBody_ok (dfr := dfr) hG hC _ _ _ _ _ h3 ρ w _ r hE
        exact ⟨ρ1, _, w1, l1, r1, outA_ok g1, by rw [e1]; rfl⟩
      · rename_i us H1 h3
        cases h2
        obtain ⟨ρ1, w1, Us, l1, r1, g1, e1⟩ := bBody_ok (dfr := dfr) hG hC _ _ _ _ _ h3 ρ w _ r hE
        exact ⟨ρ1, _, w1, l1, r1, outA_ok g1, by rw [e1]; rfl⟩
      · cases h2
    | none =>
      rw [hr] at h2
      simp only at h2 ⊢
      split at h2
      · rename_i us H1 h3
        simp only [Option.ob_eq, Option.bind_eq_some_iff, Option.some.injEq, Prod.mk.injEq] at h2
        obtain ⟨us', h4, rfl, rfl⟩ := h2
        obtain ⟨ρ1, w1, Us, l1, r1, g1, e1⟩ := bBody_ok (dfr := dfr) hG hC _ _ _ _ _ h3 ρ w _ r hE
        obtain ⟨Us', u1, u2⟩ := bLoads_ok hG r1.toLive h4 g1
        exact ⟨ρ1, _, w1, l1, r1, outA_ok u1, by rw [e1]; simp only [Option.bind_some, Res.doneR, u2]⟩
      · rename_i us H1 h3
        simp only [Option.ob_eq, Option.bind_eq_some_iff, Option.some.injEq, Prod.mk.injEq] at h2
        obtain ⟨us', h4, rfl, rfl⟩ := h2
        obtain ⟨ρ1, w1, Us, l1, r1, g1, e1⟩ := bBody_ok (dfr := dfr) hG hC _ _ _ _ _ h3 ρ w _ r hE
        obtain ⟨Us', u1, u2⟩ := bLoads_ok hG r1.toLive h4 g1
        exact ⟨ρ1, _, w1, l1, r1, outA_ok u1, by rw [e1]; simp only [Option.bind_some, Res.doneR, u2]⟩
      · cases h2
theorem bRun_ok {ann : FuncId → Ann} {prim : Prim} {isPrim : FuncId → Bool} (hp : ∀ f args w, isPrim f = false → prim.call f args w = none) (hG : GlobOk G W) {fuel : Nat} : ∀ n, CallB P (run P ann prim) W (bRun P G fuel ann isPrim n) := by
  intro n
  induction n with
  | zero => intro f as H v H' h; cases h
  | succ n ih =>
    intro f as H v H' h ρ w vs r hv
    unfold bRun at h
    cases hf : P.funcs[f]? with
    | none => rw [hf] at h; cases h
    | some fn =>
      rw [hf] at h
      simp only at h
      cases hc : (callable P f && !isPrim f) with
      | false => rw [hc] at h; cases h
      | true =>
        rw [hc] at h
        simp only [cond_true] at h
        simp only [Bool.and_eq_true, Bool.not_eq_true'] at hc
        obtain ⟨ρ1, V, w1, l1, r1, v1, e1⟩ := bFun_ok (dfr := prim.dfr) hG ih h r hv
        exact ⟨ρ1, V, w1, l1, r1, v1, run_body hf hc.1 (hp _ _ _ hc.2) e1⟩
noncomputable def okTrue (x : Option (AV × AH)) : Bool := match x with
  | some (.v (.bool true), _) => true
  | _ => false
/-- a closed run that answers true -/
theorem closed_true {ann : FuncId → Ann} {prim : Prim} {isPrim : FuncId → Bool} (hp : ∀ f args w, isPrim f = false → prim.call f args w = none) {w : World} (hG : GlobOk G w) {fuel n : Nat} {f : FuncId} (h : okTrue (bRun P G fuel ann isPrim n f [] ⟨0, .leaf⟩) = true) :
    ∃ w', run P ann prim f #[] w = some (.bool true, w') ∧ w.grownBy w' none := by
  unfold okTrue at h
  split at h
  · rename_i H' hr
    have rel : Rel w (fun _ => none) ⟨0, .leaf⟩ w := ⟨⟨grown_refl _ _, fun k o hk => by simp at hk, fun j k oj ok b m m' hj => by simp at hj, fun k o b m hk h => by cases h⟩, fun k _ => rfl⟩
    obtain ⟨ρ', V, w', _, r', v', e'⟩ := bRun_ok hp hG n f [] _ _ _ hr _ w [] rel rfl
    simp only [g, Option.some.injEq] at v'
    subst v'
    exact ⟨w', e', r'.grown⟩
  · cases h
end
end Go.Sh.Ev

