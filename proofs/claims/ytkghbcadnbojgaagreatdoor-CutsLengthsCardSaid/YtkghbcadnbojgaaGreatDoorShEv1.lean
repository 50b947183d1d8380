/- The layer 'Sh': closed runs that the kernel reckons: abstract values, tries, an abstract heap and how it stands to a world. No condition but those that each statement names. -/
import Derived.Test.YtkghbcadnbojgaaGreatDoorShFoot
/-- 'bind', by the recursor: for the kernel -/
noncomputable def _root_.Option.ob {α β : Type} (x : Option α) (f : α → Option β) : Option β := Option.rec (motive := fun _ => Option β) none f x
theorem _root_.Option.ob_eq {α β : Type} (x : Option α) (f : α → Option β) : x.ob f = x.bind f := by cases x <;> rfl
namespace Go.Sh.Ev
open Go Go.RowKit
set_option linter.unusedVariables false
set_option linter.unusedSimpArgs false

/-! ### tries -/
inductive Tr (α : Type) where
  | leaf
  | node (l : Tr α) (v : Option α) (r : Tr α)
namespace Tr
variable {α : Type}
/-- a look-up; by the recursor, as the kernel reckons it -/
noncomputable def get (t : Tr α) : Nat → Option α :=
  Tr.rec (motive := fun _ => Nat → Option α) (fun _ => none) (fun _ v _ gl gr k => cond (Nat.beq k 0) v (cond (Nat.beq (Nat.mod k 2) 1) (gl (Nat.div k 2)) (gr (Nat.sub (Nat.div k 2) 1)))) t
noncomputable def put (n : Nat) : Tr α → Nat → Option α → Tr α :=
  Nat.rec (motive := fun _ => Tr α → Nat → Option α → Tr α) (fun t _ _ => t)
    (fun _ rec t k x => Tr.rec (motive := fun _ => Tr α)
      (cond (Nat.beq k 0) (node leaf x leaf) (cond (Nat.beq (Nat.mod k 2) 1) (node (rec leaf (Nat.div k 2) x) none leaf) (node leaf none (rec leaf (Nat.sub (Nat.div k 2) 1) x))))
      (fun l v r _ _ => cond (Nat.beq k 0) (node l x r) (cond (Nat.beq (Nat.mod k 2) 1) (node (rec l (Nat.div k 2) x) v r) (node l v (rec r (Nat.sub (Nat.div k 2) 1) x)))) t) n
@[simp] theorem get_leaf (k : Nat) : get (leaf : Tr α) k = none := rfl
theorem get_node (l : Tr α) (v : Option α) (r : Tr α) (k : Nat) : get (node l v r) k = bif Nat.beq k 0 then v else bif Nat.beq (Nat.mod k 2) 1 then get l (Nat.div k 2) else get r (Nat.sub (Nat.div k 2) 1) := rfl
theorem put_leaf (n k : Nat) (x : Option α) : put (n + 1) (leaf : Tr α) k x = bif Nat.beq k 0 then node leaf x leaf else bif Nat.beq (Nat.mod k 2) 1 then node (put n leaf (Nat.div k 2) x) none leaf else node leaf none (put n leaf (Nat.sub (Nat.div k 2) 1) x) := rfl
theorem put_node (n k : Nat) (x : Option α) (l : Tr α) (v : Option α) (r : Tr α) : put (n + 1) (node l v r) k x = bif Nat.beq k 0 then node l x r else bif Nat.beq (Nat.mod k 2) 1 then node (put n l (Nat.div k 2) x) v r else node l v (put n r (Nat.sub (Nat.div k 2) 1) x) := rfl
theorem get_put : ∀ (n : Nat) (t : Tr α) (k j : Nat) (x : Option α), k + 1 < 2 ^ n → get (put n t k x) j = if j = k then x else get t j := by
  intro n
  induction n with
  | zero => intro t k j x hk; exact absurd hk (by simp)
  | succ n ih =>
    intro t k j x hk
    have hp : 2 ^ (n + 1) = 2 * 2 ^ n := by rw [Nat.pow_succ]; omega
    rw [hp] at hk
    have e1 : Nat.mod k 2 = k % 2 := rfl
    have e2 : Nat.div k 2 = k / 2 := rfl
    have e3 : Nat.mod j 2 = j % 2 := rfl
    have e4 : Nat.div j 2 = j / 2 := rfl
    by_cases k0 : k = 0
    · subst k0
      cases t with
      | leaf =>
        by_cases j0 : j = 0
        · subst j0; rfl
        · have c0 : Nat.beq j 0 = false := by cases j with | zero => exact absurd rfl j0 | succ k => rfl
          have p0 : put (n + 1) (leaf : Tr α) 0 x = node leaf x leaf := rfl
          rw [p0]
          simp only [get_node, get_leaf, c0, cond_false, if_neg j0]
          cases Nat.beq (Nat.mod j 2) 1 <;> rfl
      | node l v r =>
        have p0 : put (n + 1) (node l v r) 0 x = node l x r := rfl
        rw [p0]
        by_cases j0 : j = 0
        · subst j0; rfl
        · have c0 : Nat.beq j 0 = false := by cases j with | zero => exact absurd rfl j0 | succ k => rfl
          simp only [get_node, get_leaf, c0, cond_false, if_neg j0]
    · have b0 : Nat.beq k 0 = false := by cases k with | zero => exact absurd rfl k0 | succ k => rfl
      by_cases ho : k % 2 = 1
      · have b1 : Nat.beq (Nat.mod k 2) 1 = true := by rw [e1, ho]; rfl
        have h1 := fun t j => ih t (k / 2) j x (by omega)
        cases t with
        | leaf =>
          simp only [put_leaf, put_node, b0, b1, cond_false, cond_true, e2]
          by_cases j0 : j = 0
          · subst j0
            simp [get_node, show ¬ (0 = k) by omega]
          · have c0 : Nat.beq j 0 = false := by cases j with | zero => exact absurd rfl j0 | succ k => rfl
            by_cases jo : j % 2 = 1
            · have c1 : Nat.beq (Nat.mod j 2) 1 = true := by rw [e3, jo]; rfl
              simp only [get_node, get_leaf, c0, c1, cond_false, cond_true, e4, h1]
              by_cases hjk : j = k
              · simp [hjk]
              · have : ¬ j / 2 = k / 2 := by omega
                simp [hjk, this]
            · have c1 : Nat.beq (Nat.mod j 2) 1 = false := by rw [e3, show j % 2 = 0 by omega]; rfl
              simp [get_node, c0, c1, show ¬ j = k by intro h; rw [h] at jo; exact jo ho]
        | node l v r =>
          simp only [put_leaf, put_node, b0, b1, cond_false, cond_true, e2]
          by_cases j0 : j = 0
          · subst j0
            simp [get_node, show ¬ (0 = k) by omega]
          · have c0 : Nat.beq j 0 = false := by cases j with | zero => exact absurd rfl j0 | succ k => rfl
            by_cases jo : j % 2 = 1
            · have c1 : Nat.beq (Nat.mod j 2) 1 = true := by rw [e3, jo]; rfl
              simp only [get_node, get_leaf, c0, c1, cond_false, cond_true, e4, h1]
              by_cases hjk : j = k
              · simp [hjk]
              · have : ¬ j / 2 = k / 2 := by omega
                simp [hjk, this]
            · have c1 : Nat.beq (Nat.mod j 2) 1 = false := by rw [e3, show j % 2 = 0 by omega]; rfl
              simp [get_node, c0, c1, show ¬ j = k by intro h; rw [h] at jo; exact jo ho]
      · have b1 : Nat.beq (Nat.mod k 2) 1 = false := by rw [e1, show k % 2 = 0 by omega]; rfl
        have h1 := fun t j => ih t (k / 2 - 1) j x (by omega)
        have e5 : Nat.sub (k / 2) 1 = k / 2 - 1 := rfl
        have e6 : Nat.sub (j / 2) 1 = j / 2 - 1 := rfl
        cases t with
        | leaf =>
          simp only [put_leaf, put_node, b0, b1, cond_false, cond_true, e2, e5]
          by_cases j0 : j = 0
          · subst j0
            simp [get_node, show ¬ (0 = k) by omega]
          · have c0 : Nat.beq j 0 = false := by cases j with | zero => exact absurd rfl j0 | succ k => rfl
            by_cases jo : j % 2 = 1
            · have c1 : Nat.beq (Nat.mod j 2) 1 = true := by rw [e3, jo]; rfl
              simp [get_node, c0, c1, show ¬ j = k by intro h; rw [h] at jo; exact ho jo]
            · have c1 : Nat.beq (Nat.mod j 2) 1 = false := by rw [e3, show j % 2 = 0 by omega]; rfl
              simp only [get_node, get_leaf, c0, c1, cond_false, cond_true, e4, e6, h1]
              by_cases hjk : j = k
              · simp [hjk]
              · have : ¬ j / 2 - 1 = k / 2 - 1 := by omega
                simp [hjk, this]
        | node l v r =>
          simp only [put_leaf, put_node, b0, b1, cond_false, cond_true, e2, e5]
          by_cases j0 : j = 0
          · subst j0
            simp [get_node, show ¬ (0 = k) by omega]
          · have c0 : Nat.beq j 0 = false := by cases j with | zero => exact absurd rfl j0 | succ k => rfl
            by_cases jo : j % 2 = 1
            · have c1 : Nat.beq (Nat.mod j 2) 1 = true := by rw [e3, jo]; rfl
              simp [get_node, c0, c1, show ¬ j = k by intro h; rw [h] at jo; exact ho jo]
            · have c1 : Nat.beq (Nat.mod j 2) 1 = false := by rw [e3, show j % 2 = 0 by omega]; rfl
              simp only [get_node, get_leaf, c0, c1, cond_false, cond_true, e4, e6, h1]
              by_cases hjk : j = k
              · simp [hjk]
              · have : ¬ j / 2 - 1 = k / 2 - 1 := by omega
                simp [hjk, this]
/-- the bound that the evaluator keeps to -/
def okKey (k : Nat) : Bool := Nat.ble k 1000000
theorem get_set {t : Tr α} {k : Nat} (h : okKey k = true) (j : Nat) (x : Option α) : get (put 24 t k x) j = if j = k then x else get t j :=
  get_put 24 t k j x (by have := Nat.le_of_ble_eq_true h; omega)
end Tr

/-! ### values -/
inductive Cap where
  | is (c : Nat)
  | less (s : Nat)
def Cap.at (m : Nat) : Cap → Nat
  | .is c => c
  | .less s => m - s
/-- a value: one that is known as it stands; or one that lies, or points, in new memory -/
inductive AV where
  | v (x : Value)
  | ptr (k o : Nat)
  | sl (k o n : Nat) (c : Cap)
  | map (k : Nat)
  | e0 (k j : Nat)
  | fn (f : FuncId) (a l : List AV)
  | ifc (t : TypeId) (x : AV)
  | agg (l : List AV)
  | tup (l : List AV)
/-- where a name lies, and what room it has -/
abbrev Rho := Nat → Option (Nat × Nat)
mutual
def g (ρ : Rho) : AV → Option Value
  | .v x => some x
  | .ptr k o => match ρ k with | some p => some (.pointer (some ⟨p.1, o, none⟩)) | none => none
  | .sl k o n c => match ρ k with | some p => some (.slice (some ⟨p.1, o, none⟩) n (c.at p.2)) | none => none
  | .map k => match ρ k with | some p => some (.map (some p.1)) | none => none
  | .e0 k j => match ρ k with | some p => (match ρ j with | some q => some (.slice (some ⟨p.1, q.1, none⟩) 0 q.2) | none => none) | none => none
  | .fn f a l => match gs ρ a with | some us => (match gs ρ l with | some vs => some (.func (.func f) us.toArray vs.toArray) | none => none) | none => none
  | .ifc t x => match g ρ x with | some V => some (.iface t V) | none => none
  | .agg l => match gs ρ l with | some vs => some (.agg vs.toArray) | none => none
  | .tup l => match gs ρ l with | some vs => some (.tuple vs.toArray) | none => none
def gs (ρ : Rho) : List AV → Option (List Value)
  | [] => some []
  | a :: r => match g ρ a with | some x => (match gs ρ r with | some xs => some (x :: xs) | none => none) | none => none
end
def RhoLe (ρ ρ' : Rho) : Prop := ∀ k p, ρ k = some p → ρ' k = some p
theorem RhoLe.refl (ρ : Rho) : RhoLe ρ ρ := fun _ _ h => h
theorem RhoLe.trans {ρ ρ' ρ'' : Rho} (h : RhoLe ρ ρ') (h' : RhoLe ρ' ρ'') : RhoLe ρ ρ'' := fun k p e => h' k p (h k p e)
theorem gs_cons {ρ : Rho} {a : AV} {r : List AV} {vs : List Value} : gs ρ (a :: r) = some vs ↔ ∃ x xs, g ρ a = some x ∧ gs ρ r = some xs ∧ vs = x :: xs := by
  simp only [gs]
  cases g ρ a with
  | none => simp
  | some x =>
    cases gs ρ r with
    | none => simp
    | some xs => simp [eq_comm]
theorem gs_nil {ρ : Rho} {vs : List Value} : gs ρ [] = some vs ↔ vs = [] := by simp [gs, eq_comm]
mutual
theorem g_mono {ρ ρ' : Rho} (h : RhoLe ρ ρ') : ∀ (a : AV) (V : Value), g ρ a = some V → g ρ' a = some V
  | .v x, V, e => by simpa [g] using e
  | .ptr k o, V, e => by
    simp only [g] at e ⊢
    cases hk : ρ k with
    | none => rw [hk] at e; cases e
    | some p => rw [hk] at e; rw [h k p hk]; exact e
  | .sl k o n c, V, e => by
    simp only [g] at e ⊢
    cases hk : ρ k with
    | none => rw [hk] at e; cases e
    | some p => rw [hk] at e; rw [h k p hk]; exact e
  | .map k, V, e => by
    simp only [g] at e ⊢
    cases hk : ρ k with
    | none => rw [hk] at e; cases e
    | some p => rw [hk] at e; rw [h k p hk]; exact e
  | .e0 k j, V, e => by
    simp only [g] at e ⊢
    cases hk : ρ k with
    | none => rw [hk] at e; cases e
    | some p =>
      cases hj : ρ j with
      | none => rw [hk, hj] at e; cases e
      | some q => rw [hk, hj] at e; rw [h k p hk, h j q hj]; exact e
  | .fn f a l, V, e => by
    simp only [g] at e ⊢
    cases hk : gs ρ a with
    | none => rw [hk] at e; cases e
    | some p =>
      cases hj : gs ρ l with
      | none => rw [hk, hj] at e; cases e
      | some q => rw [hk, hj] at e; rw [gs_mono h a p hk, gs_mono h l q hj]; exact e
  | .ifc t x, V, e => by
    simp only [g] at e ⊢
    cases hk : g ρ x with
    | none => rw [hk] at e; cases e
    | some p => rw [hk] at e; rw [g_mono h x p hk]; exact e
  | .agg l, V, e => by
    simp only [g] at e ⊢
    cases hk : gs ρ l with
    | none => rw [hk] at e; cases e
    | some p => rw [hk] at e; rw [gs_mono h l p hk]; exact e
  | .tup l, V, e => by
    simp only [g] at e ⊢
    cases hk : gs ρ l with
    | none => rw [hk] at e; cases e
    | some p => rw [hk] at e; rw [gs_mono h l p hk]; exact e
theorem gs_mono {ρ ρ' : Rho} (h : RhoLe ρ ρ') : ∀ (l : List AV) (vs : List Value), gs ρ l = some vs → gs ρ' l = some vs
  | [], vs, e => by simpa [gs] using e
  | a :: r, vs, e => by
    obtain ⟨x, xs, h1, h2, rfl⟩ := gs_cons.mp e
    exact gs_cons.mpr ⟨x, xs, g_mono h a x h1, gs_mono h r xs h2, rfl⟩
end
theorem gs_append {ρ : Rho} : ∀ {l m : List AV} {vs us : List Value}, gs ρ l = some vs → gs ρ m = some us → gs ρ (l ++ m) = some (vs ++ us)
  | [], m, vs, us, h, h' => by rw [gs_nil] at h; subst h; simpa using h'
  | a :: r, m, vs, us, h, h' => by
    obtain ⟨x, xs, h1, h2, rfl⟩ := gs_cons.mp h
    exact gs_cons.mpr ⟨x, xs ++ us, h1, gs_append h2 h', rfl⟩
theorem gs_length {ρ : Rho} : ∀ {l : List AV} {vs : List Value}, gs ρ l = some vs → vs.length = l.length
  | [], vs, h => by rw [gs_nil] at h; subst h; rfl
  | a :: r, vs, h => by
    obtain ⟨x, xs, h1, h2, rfl⟩ := gs_cons.mp h
    simp [gs_length h2]
theorem gs_get {ρ : Rho} : ∀ {l : List AV} {vs : List Value} {i : Nat} {a : AV}, gs ρ l = some vs → l[i]? = some a → ∃ V, vs[i]? = some V ∧ g ρ a = some V
  | [], vs, i, a, h, h' => by simp at h'
  | b :: r, vs, i, a, h, h' => by
    obtain ⟨x, xs, h1, h2, rfl⟩ := gs_cons.mp h
    cases i with
    | zero => simp at h'; subst h'; exact ⟨x, rfl, h1⟩
    | succ i => simp at h'; obtain ⟨V, h3, h4⟩ := gs_get h2 h'; exact ⟨V, by simpa using h3, h4⟩
theorem gs_take {ρ : Rho} : ∀ {l : List AV} {vs : List Value} (n : Nat), gs ρ l = some vs → gs ρ (l.take n) = some (vs.take n)
  | [], vs, n, h => by rw [gs_nil] at h; subst h; simp [gs]
  | a :: r, vs, 0, h => by simp [gs]
  | a :: r, vs, n + 1, h => by
    obtain ⟨x, xs, h1, h2, rfl⟩ := gs_cons.mp h
    exact gs_cons.mpr ⟨x, xs.take n, h1, gs_take n h2, rfl⟩
theorem gs_drop {ρ : Rho} : ∀ {l : List AV} {vs : List Value} (n : Nat), gs ρ l = some vs → gs ρ (l.drop n) = some (vs.drop n)
  | [], vs, n, h => by rw [gs_nil] at h; subst h; simp [gs]
  | a :: r, vs, 0, h => by simpa using h
  | a :: r, vs, n + 1, h => by
    obtain ⟨x, xs, h1, h2, rfl⟩ := gs_cons.mp h
    simpa using gs_drop n h2
/-- all known as they stand -/
noncomputable def pl (l : List AV) : Option (List Value) :=
  List.rec (motive := fun _ => Option (List Value)) (some []) (fun a _ rec => AV.casesOn a (fun x => Option.rec (motive := fun _ => Option (List Value)) none (fun xs => some (x :: xs)) rec) (fun _ _ => none) (fun _ _ _ _ => none) (fun _ => none) (fun _ _ => none) (fun _ _ _ => none) (fun _ _ => none) (fun _ => none) (fun _ => none)) l
theorem pl_nil : pl [] = some [] := rfl
theorem pl_cons (a : AV) (r : List AV) : pl (a :: r) = match a with | .v x => (match pl r with | some xs => some (x :: xs) | none => none) | _ => none := by
  cases a with
  | v x =>
    show Option.rec (motive := fun _ => Option (List Value)) none (fun xs => some (x :: xs)) (pl r) = _
    cases pl r <;> rfl
  | _ => rfl
theorem gs_pl {ρ : Rho} : ∀ {l : List AV} {vs : List Value}, pl l = some vs → gs ρ l = some vs
  | [], vs, h => by simpa [pl_nil, gs] using h
  | a :: r, vs, h => by
    rw [pl_cons] at h
    split at h
    · rename_i x
      cases hr : pl r with
      | none => rw [hr] at h; cases h
      | some xs =>
        rw [hr] at h
        injection h with h
        exact gs_cons.mpr ⟨x, xs, rfl, gs_pl hr, h.symm⟩
    · cases h
theorem gs_map {ρ : Rho} : ∀ (vs : List Value), gs ρ (vs.map .v) = some vs
  | [] => rfl
  | x :: r => gs_cons.mpr ⟨x, r, rfl, gs_map r, rfl⟩
noncomputable def mkAgg (l : List AV) : AV := match pl l with | some vs => .v (.agg vs.toArray) | none => .agg l
theorem g_mkAgg {ρ : Rho} {l : List AV} {vs : List Value} (h : gs ρ l = some vs) : g ρ (mkAgg l) = some (.agg vs.toArray) := by
  unfold mkAgg
  split
  · rename_i us hu
    have := gs_pl (ρ := ρ) hu
    rw [h] at this
    cases this
    rfl
  · simp [g, h]
noncomputable def mkTup (l : List AV) : AV := match pl l with | some vs => .v (.tuple vs.toArray) | none => .tup l
theorem g_mkTup {ρ : Rho} {l : List AV} {vs : List Value} (h : gs ρ l = some vs) : g ρ (mkTup l) = some (.tuple vs.toArray) := by
  unfold mkTup
  split
  · rename_i us hu
    have := gs_pl (ρ := ρ) hu
    rw [h] at this
    cases this
    rfl
  · simp [g, h]
/-- a value's cells -/
def cellsOfAV : AV → List AV
  | .v x => x.cells.toList.map .v
  | .agg l => l
  | a => [a]
theorem gs_cells {ρ : Rho} {a : AV} {V : Value} (h : g ρ a = some V) : gs ρ (cellsOfAV a) = some V.cells.toList := by
  cases a with
  | v x => simp only [g, Option.some.injEq] at h; subst h; exact gs_map _
  | agg l =>
    simp only [g] at h
    cases hk : gs ρ l with
    | none => rw [hk] at h; cases h
    | some vs => rw [hk] at h; cases h; simpa [cellsOfAV, Value.cells] using hk
  | ptr k o => simp only [cellsOfAV]; refine gs_cons.mpr ⟨V, [], h, rfl, ?_⟩; simp only [g] at h; split at h <;> cases h; rfl
  | sl k o n c => simp only [cellsOfAV]; refine gs_cons.mpr ⟨V, [], h, rfl, ?_⟩; simp only [g] at h; split at h <;> cases h; rfl
  | map k => simp only [cellsOfAV]; refine gs_cons.mpr ⟨V, [], h, rfl, ?_⟩; simp only [g] at h; split at h <;> cases h; rfl
  | e0 k j => simp only [cellsOfAV]; refine gs_cons.mpr ⟨V, [], h, rfl, ?_⟩; simp only [g] at h; split at h <;> (try (split at h)) <;> cases h; rfl
  | fn f a l => simp only [cellsOfAV]; refine gs_cons.mpr ⟨V, [], h, rfl, ?_⟩; simp only [g] at h; split at h <;> (try (split at h)) <;> cases h; rfl
  | ifc t x => simp only [cellsOfAV]; refine gs_cons.mpr ⟨V, [], h, rfl, ?_⟩; simp only [g] at h; split at h <;> cases h; rfl
  | tup l => simp only [cellsOfAV]; refine gs_cons.mpr ⟨V, [], h, rfl, ?_⟩; simp only [g] at h; split at h <;> cases h; rfl
/-- a value of one cell -/
def oneAV : AV → Bool
  | .v x => x.oneCell'
  | .agg _ | .tup _ => false
  | _ => true
theorem oneCell_of {ρ : Rho} {a : AV} {V : Value} (h : g ρ a = some V) (h1 : oneAV a = true) : V.oneCell' = true := by
  cases a with
  | v x => simp only [g, Option.some.injEq] at h; subst h; exact h1
  | agg l => cases h1
  | tup l => cases h1
  | ptr k o => simp only [g] at h; split at h <;> cases h; rfl
  | sl k o n c => simp only [g] at h; split at h <;> cases h; rfl
  | map k => simp only [g] at h; split at h <;> cases h; rfl
  | e0 k j => simp only [g] at h; split at h <;> (try (split at h)) <;> cases h; rfl
  | fn f a l => simp only [g] at h; split at h <;> (try (split at h)) <;> cases h; rfl
  | ifc t x => simp only [g] at h; split at h <;> cases h; rfl
theorem oneCells_of {ρ : Rho} : ∀ {l : List AV} {vs : List Value}, gs ρ l = some vs → l.all oneAV = true → ∀ v ∈ vs, v.oneCell' = true
  | [], vs, h, _ => by rw [gs_nil] at h; subst h; simp
  | a :: r, vs, h, h1 => by
    obtain ⟨x, xs, h2, h3, rfl⟩ := gs_cons.mp h
    simp only [List.all_cons, Bool.and_eq_true] at h1
    intro v hv
    rcases List.mem_cons.mp hv with rfl | hv
    · exact oneCell_of h2 h1.1
    · exact oneCells_of h3 h1.2 v hv

/-! ### the heap -/
inductive AO where
  | cells (l : List AV) (e : TypeId) (room : Option Nat)
  | iter (s : ByteArray) (pos : Nat)
structure AH where
  next : Nat
  tr : Tr AO
def RO (ρ : Rho) (m : Nat) : AO → Obj → Prop
  | .cells l e none, o => ∃ vs, gs ρ l = some vs ∧ o = .cells vs.toArray e (0, 0)
  | .cells l e (some sz), o => ∃ vs rest, gs ρ l = some vs ∧ o = .cells (vs ++ rest).toArray e (0, 0) ∧ (vs ++ rest).length = m * sz ∧ m ≤ maxLen
  | .iter s p, o => o = .stringIter s p
theorem RO.mono {ρ ρ' : Rho} (h : RhoLe ρ ρ') {m : Nat} {a : AO} {o : Obj} (r : RO ρ m a o) : RO ρ' m a o := by
  cases a with
  | cells l e room =>
    cases room with
    | none => obtain ⟨vs, h1, h2⟩ := r; exact ⟨vs, gs_mono h _ _ h1, h2⟩
    | some sz => obtain ⟨vs, rest, h1, h2⟩ := r; exact ⟨vs, rest, gs_mono h _ _ h1, h2⟩
  | iter s p => exact r
/-- what is laid, cell by cell -/
abbrev Globs := Nat → Option (List Value)
def GlobOk (G : Globs) (W : World) : Prop := ∀ b l, G b = some l → ∀ i V, l[i]? = some V → W.cell? ⟨b, i, none⟩ = some V
structure Live (W : World) (ρ : Rho) (H : AH) (w : World) : Prop where
  grown : W.grownBy w none
  live : ∀ k o, H.tr.get k = some o → ∃ b m O, ρ k = some (b, m) ∧ w.heap[b]? = some O ∧ RO ρ m o O
  inj : ∀ j k oj ok b m m', H.tr.get j = some oj → H.tr.get k = some ok → ρ j = some (b, m) → ρ k = some (b, m') → j = k
  new : ∀ k o b m, H.tr.get k = some o → ρ k = some (b, m) → W.heap.size ≤ b
structure Rel (W : World) (ρ : Rho) (H : AH) (w : World) : Prop extends Live W ρ H w where
  fresh : ∀ k, H.next ≤ k → ρ k = none
theorem Live.mono {W : World} {ρ ρ' : Rho} {H : AH} {w : World} (r : Live W ρ H w) (h : RhoLe ρ ρ') : Live W ρ' H w := by
  refine ⟨r.grown, fun k o hk => ?_, fun j k oj ok b m m' hj hk h1 h2 => ?_, fun k o b m hk h1 => ?_⟩
  · obtain ⟨b, m, O, h1, h2, h3⟩ := r.live k o hk
    exact ⟨b, m, O, h _ _ h1, h2, h3.mono h⟩
  · obtain ⟨b1, m1, _, e1, _⟩ := r.live j oj hj
    obtain ⟨b2, m2, _, e2, _⟩ := r.live k ok hk
    have e3 := h _ _ e1
    have e4 := h _ _ e2
    rw [h1] at e3
    rw [h2] at e4
    cases e3
    cases e4
    exact r.inj j k oj ok b m m' hj hk e1 e2
  · obtain ⟨b1, m1, _, e1, _⟩ := r.live k o hk
    have e3 := h _ _ e1
    rw [h1] at e3
    cases e3
    exact r.new k o b m hk e1
theorem Rel.drew {W : World} {ρ : Rho} {H : AH} {w : World} (r : Rel W ρ H w) : Rel W ρ H w.drew :=
  ⟨⟨⟨r.grown.os, r.grown.tape, r.grown.output, r.grown.size, r.grown.block⟩, r.live, r.inj, r.new⟩, r.fresh⟩
def updR (ρ : Rho) (k : Nat) (p : Nat × Nat) : Rho := fun i => if i = k then some p else ρ i
theorem updR_le {ρ : Rho} {k : Nat} {p : Nat × Nat} (h : ρ k = none) : RhoLe ρ (updR ρ k p) := fun i q hq => by
  unfold updR
  split
  · rename_i e; subst e; rw [h] at hq; cases hq
  · exact hq
@[simp] theorem updR_self (ρ : Rho) (k : Nat) (p : Nat × Nat) : updR ρ k p k = some p := by simp [updR]
/-- a new block -/
noncomputable def AH.add (H : AH) (o : AO) : AH := ⟨H.next + 1, Tr.put 24 H.tr H.next (some o)⟩
noncomputable def AH.set (H : AH) (k : Nat) (o : AO) : AH := ⟨H.next, Tr.put 24 H.tr k (some o)⟩
/-- one that takes another's place -/
noncomputable def AH.turn (H : AH) (k : Nat) (o : AO) : AH := ⟨H.next + 1, Tr.put 24 (Tr.put 24 H.tr k none) H.next (some o)⟩
theorem Rel.new_ {W : World} {ρ : Rho} {H : AH} {w w' : World} (r : Rel W ρ H w) (hg : w.grownBy w' none) {b m : Nat} {O : Obj} {o : AO} (hb : w.heap.size ≤ b) (hO : w'.heap[b]? = some O) (hr : RO (updR ρ H.next (b, m)) m o O) (hk : Tr.okKey H.next = true) :
    Rel W (updR ρ H.next (b, m)) (H.add o) w' := by
  have le := updR_le (p := (b, m)) (r.fresh H.next (Nat.le_refl _))
  have old : ∀ k o', H.tr.get k = some o' → k ≠ H.next := fun k o' hk' e => by
    obtain ⟨b', m', _, e1, _⟩ := r.live k o' hk'
    rw [e, r.fresh H.next (Nat.le_refl _)] at e1
    cases e1
  refine ⟨⟨grown_trans r.grown hg (by simp), fun k o' h => ?_, fun j k oj ok b1 m1 m2 hj hk' h1 h2 => ?_, fun k o' b' m' hk' h => ?_⟩, fun k h => ?_⟩
  · simp only [AH.add, Tr.get_set hk] at h
    split at h
    · rename_i e
      subst e
      cases h
      exact ⟨b, m, O, by simp, hO, hr⟩
    · obtain ⟨b', m', O', e1, e2, e3⟩ := r.live k o' h
      exact ⟨b', m', O', le _ _ e1, (hg.block b' ((Array.getElem?_eq_some_iff.mp e2).1) (by simp)).trans e2, e3.mono le⟩
  · simp only [AH.add, Tr.get_set hk] at hj hk'
    have lt : ∀ i oi b0 m0, H.tr.get i = some oi → updR ρ H.next (b, m) i = some (b0, m0) → b0 < w.heap.size ∧ ρ i = some (b0, m0) := by
      intro i oi b0 m0 hi h0
      obtain ⟨b', m', O', e1, e2, e3⟩ := r.live i oi hi
      have := le _ _ e1
      rw [h0] at this
      cases this
      exact ⟨(Array.getElem?_eq_some_iff.mp e2).1, e1⟩
    split at hj <;> split at hk'
    · rename_i a1 a2; rw [a1, a2]
    · rename_i a1 a2
      subst a1
      rw [updR_self] at h1
      cases h1
      have := (lt k ok b m2 hk' h2).1
      omega
    · rename_i a1 a2
      subst a2
      rw [updR_self] at h2
      cases h2
      have := (lt j oj b m1 hj h1).1
      omega
    · exact r.inj j k oj ok b1 m1 m2 hj hk' (lt j oj b1 m1 hj h1).2 (lt k ok b1 m2 hk' h2).2
  · unfold updR at h
    simp only [AH.add, Tr.get_set hk] at hk'
    split at h
    · cases h
      exact Nat.le_trans r.grown.size hb
    · rename_i e
      rw [if_neg e] at hk'
      exact r.new k o' b' m' hk' h
  · simp only [AH.add] at h
    unfold updR
    rw [if_neg (by omega)]
    exact r.fresh k (by omega)
/-- a block that is written -/
theorem Rel.set_ {W : World} {ρ : Rho} {H : AH} {w w' : World} (r : Rel W ρ H w) {k b m : Nat} {o : AO} (hk : H.tr.get k = some o) (hρ : ρ k = some (b, m)) (hg : w.grownBy w' (some b)) {O : Obj} {o' : AO} (hO : w'.heap[b]? = some O) (hr : RO ρ m o' O) (hkey : Tr.okKey k = true) :
    Rel W ρ (H.set k o') w' := by
  refine ⟨⟨grown_new r.grown hg (r.new k o b m hk hρ), fun j oj h => ?_, fun i j oi oj b1 m1 m2 hi hj h1 h2 => ?_, fun j oj b1 m1 hj h1 => ?_⟩, r.fresh⟩
  · simp only [AH.set, Tr.get_set hkey] at h
    split at h
    · rename_i e
      subst e
      cases h
      exact ⟨b, m, O, hρ, hO, hr⟩
    · rename_i e
      obtain ⟨b', m', O', e1, e2, e3⟩ := r.live j oj h
      refine ⟨b', m', O', e1, (hg.block b' ((Array.getElem?_eq_some_iff.mp e2).1) fun e4 => ?_).trans e2, e3⟩
      cases e4
      exact e (r.inj j k oj o b m' m h hk e1 hρ)
  · simp only [AH.set, Tr.get_set hkey] at hi hj
    have key : ∀ i oi, (if i = k then some o' else H.tr.get i) = some oi → ∃ oi', H.tr.get i = some oi' := by
      intro i oi h
      split at h
      · rename_i e; subst e; exact ⟨_, hk⟩
      · exact ⟨_, h⟩
    obtain ⟨oi', hi'⟩ := key i oi hi
    obtain ⟨oj', hj'⟩ := key j oj hj
    exact r.inj i j oi' oj' b1 m1 m2 hi' hj' h1 h2
  · simp only [AH.set, Tr.get_set hkey] at hj
    split at hj
    · rename_i e; subst e; exact r.new _ o _ _ hk h1
    · exact r.new _ oj _ _ hj h1
/-- a row that has grown, where it lay or in new memory -/
theorem Rel.turn_ {W : World} {ρ : Rho} {H : AH} {w w' : World} (r : Rel W ρ H w) {k b m b' m' : Nat} {o : AO} (hk : H.tr.get k = some o) (hρ : ρ k = some (b, m)) (hg : w.grownBy w' (some b)) (hb : b' = b ∨ w.heap.size ≤ b') {O : Obj} {o' : AO} (hO : w'.heap[b']? = some O)
    (hr : RO (updR ρ H.next (b', m')) m' o' O) (hkey : Tr.okKey k = true) (hkey' : Tr.okKey H.next = true) : Rel W (updR ρ H.next (b', m')) (H.turn k o') w' := by
  have le := updR_le (p := (b', m')) (r.fresh H.next (Nat.le_refl _))
  have hbw : W.heap.size ≤ b' := by
    rcases hb with rfl | hb
    · exact r.new k o _ m hk hρ
    · exact Nat.le_trans r.grown.size hb
  have look : ∀ i oi, (if i = H.next then some o' else if i = k then none else H.tr.get i) = some oi → (i = H.next ∧ oi = o') ∨ (i ≠ H.next ∧ i ≠ k ∧ H.tr.get i = some oi) := by
    intro i oi h
    split at h
    · rename_i e; cases h; exact .inl ⟨e, rfl⟩
    · rename_i e
      split at h
      · cases h
      · rename_i e2; exact .inr ⟨e, e2, h⟩
  have lt : ∀ i oi b0 m0, H.tr.get i = some oi → updR ρ H.next (b', m') i = some (b0, m0) → b0 < w.heap.size ∧ ρ i = some (b0, m0) := by
    intro i oi b0 m0 hi h0
    obtain ⟨b', m', O', e1, e2, e3⟩ := r.live i oi hi
    have := le _ _ e1
    rw [h0] at this
    cases this
    exact ⟨(Array.getElem?_eq_some_iff.mp e2).1, e1⟩
  have apart : ∀ i oi b0 m0, i ≠ k → H.tr.get i = some oi → ρ i = some (b0, m0) → b0 ≠ b := fun i oi b0 m0 hne hi h0 e => by
    subst e
    exact hne (r.inj i k oi o b0 m0 m hi hk h0 hρ)
  have no : ∀ i oi m0, i ≠ k → H.tr.get i = some oi → updR ρ H.next (b', m') i = some (b', m0) → False := by
    intro i oi m0 hne hi h0
    obtain ⟨l1, l2⟩ := lt i oi b' m0 hi h0
    rcases hb with rfl | hb
    · exact apart i oi _ m0 hne hi l2 rfl
    · omega
  refine ⟨⟨grown_new r.grown hg (r.new k o b m hk hρ), fun j oj h => ?_, fun i j oi oj b1 m1 m2 hi hj h1 h2 => ?_, fun j oj b0 m0 hj h => ?_⟩, fun k h => ?_⟩
  · simp only [AH.turn, Tr.get_set hkey', Tr.get_set hkey] at h
    rcases look j oj h with ⟨rfl, rfl⟩ | ⟨n1, n2, h⟩
    · exact ⟨b', m', O, by simp, hO, hr⟩
    · obtain ⟨b0, m0, O', e1, e2, e3⟩ := r.live j oj h
      exact ⟨b0, m0, O', le _ _ e1, (hg.block b0 ((Array.getElem?_eq_some_iff.mp e2).1) fun e4 => apart j oj b0 m0 n2 h e1 (by cases e4; rfl)).trans e2, e3.mono le⟩
  · simp only [AH.turn, Tr.get_set hkey', Tr.get_set hkey] at hi hj
    rcases look i oi hi with ⟨rfl, e1⟩ | ⟨n1, n2, hi⟩ <;> rcases look j oj hj with ⟨rfl, e2⟩ | ⟨n3, n4, hj⟩
    · rfl
    · rw [updR_self] at h1
      cases h1
      exact (no j oj m2 n4 hj h2).elim
    · rw [updR_self] at h2
      cases h2
      exact (no i oi m1 n2 hi h1).elim
    · exact r.inj i j oi oj b1 m1 m2 hi hj (lt i oi b1 m1 hi h1).2 (lt j oj b1 m2 hj h2).2
  · simp only [AH.turn, Tr.get_set hkey', Tr.get_set hkey] at hj
    rcases look j oj hj with ⟨rfl, e2⟩ | ⟨n1, n2, hj⟩
    · rw [updR_self] at h; cases h; exact hbw
    · exact r.new j oj b0 m0 hj (lt j oj b0 m0 hj h).2
  · simp only [AH.turn] at h
    unfold updR
    rw [if_neg (by omega)]
    exact r.fresh k (by omega)
/-- a name for two numbers -/
def AH.name (H : AH) : AH := ⟨H.next + 1, H.tr⟩
theorem Rel.name_ {W : World} {ρ : Rho} {H : AH} {w : World} (r : Rel W ρ H w) (p : Nat × Nat) : Rel W (updR ρ H.next p) H.name w := by
  refine ⟨⟨(r.toLive.mono (updR_le (p := p) (r.fresh _ (Nat.le_refl _)))).grown, (r.toLive.mono (updR_le (p := p) (r.fresh _ (Nat.le_refl _)))).live, (r.toLive.mono (updR_le (p := p) (r.fresh _ (Nat.le_refl _)))).inj, (r.toLive.mono (updR_le (p := p) (r.fresh _ (Nat.le_refl _)))).new⟩, fun k h => ?_⟩
  simp only [AH.name] at h
  unfold updR
  rw [if_neg (by omega)]
  exact r.fresh k (by omega)
end Go.Sh.Ev
