/- The layer 'Sh': closed runs: structs that are built, memory. Conditions: those of each statement. -/
import Derived.Test.YtkghbcadnbojgaaGreatDoorShEv2
namespace Go.Sh.Ev
open Go Go.RowKit
set_option linter.unusedVariables false
set_option linter.unusedSimpArgs false

/-! ### structs that are built -/
theorem foldl_set (off : Nat) : ∀ (cs : List Value) (j : Nat) (A : Array Value), off + j + cs.length ≤ A.size →
    ((cs.zipIdx j).foldl (fun (A : Array Value) (p : Value × Nat) => A.setIfInBounds (off + p.2) p.1) A).toList = A.toList.take (off + j) ++ cs ++ A.toList.drop (off + j + cs.length)
  | [], j, A, h => by simp
  | c :: r, j, A, h => by
    simp only [List.length_cons] at h
    simp only [List.zipIdx_cons, List.foldl_cons]
    rw [foldl_set off r (j + 1) _ (by simp; omega)]
    have hl : off + j < A.toList.length := by simp; omega
    simp only [Array.toList_setIfInBounds]
    rw [List.set_eq_take_append_cons_drop, if_pos hl]
    have e1 : (A.toList.take (off + j)).length = off + j := by simp; omega
    have e2 : off + (j + 1) = (off + j) + 1 := by omega
    rw [e2, List.take_append, List.drop_append, e1]
    simp only [List.take_take, List.length_cons]
    have e3 : off + j + 1 - (off + j) = 1 := by omega
    have e4 : min (off + j + 1) (off + j) = off + j := by omega
    have e5 : (off + j + 1 + r.length) - (off + j) = r.length + 1 := by omega
    have e6 : (A.toList.take (off + j)).drop (off + j + 1 + r.length) = [] := by
      rw [List.drop_eq_nil_iff]; rw [e1]; omega
    rw [e3, e4, e5, e6]
    simp only [List.take_succ_cons, List.take_zero, List.drop_succ_cons, List.drop_drop, List.nil_append, List.append_assoc, List.singleton_append, List.cons_append]
    congr 3
    congr 1
    omega
theorem fill_step {off size : Nat} {cells : Array Value} {v : Value} : (v.cells.zipIdx.foldl (fun cs (c, j) => cs.setIfInBounds (off + j) c) cells) = (v.cells.toList.zipIdx.foldl (fun (A : Array Value) (p : Value × Nat) => A.setIfInBounds (off + p.2) p.1) cells) := by
  rw [← Array.foldl_toList, Array.toList_zipIdx]
theorem fill_ok {ρ : Rho} {place : Nat → Option (Nat × Nat)} : ∀ (ns : List Nat) (as : List AV) (vs : List Value) (cells : List AV) (cs : List Value) (r : List AV),
    fillL place cells (ns.zip as) = some r → gs ρ cells = some cs → gs ρ as = some vs → ∃ rs, gs ρ r = some rs ∧ Instr.fill place cs.toArray (ns.zip vs) = some rs.toArray := by
  intro ns
  induction ns with
  | nil => intro as vs cells cs r h hc ha; simp [fillL] at h; subst h; exact ⟨cs, hc, by simp [Instr.fill]⟩
  | cons n ns ih =>
    intro as vs cells cs r h hc ha
    cases as with
    | nil => rw [gs_nil] at ha; subst ha; simp [fillL] at h; subst h; exact ⟨cs, hc, by simp [Instr.fill]⟩
    | cons a as =>
      obtain ⟨V, vs', h1, h2, rfl⟩ := gs_cons.mp ha
      simp only [List.zip_cons_cons, fillL] at h
      simp only [List.zip_cons_cons, Instr.fill]
      cases hp : place n with
      | none => rw [hp] at h; cases h
      | some p =>
        obtain ⟨off, size⟩ := p
        rw [hp] at h
        simp only at h
        cases hb : (Nat.beq (cellsOfAV a).length size && Nat.ble (off + size) cells.length) with
        | false => rw [hb] at h; cases h
        | true =>
          rw [hb] at h
          simp only [cond_true] at h
          simp only [Bool.and_eq_true, Nat.beq_eq, Nat.ble_eq] at hb
          obtain ⟨b1, b2⟩ := hb
          have hcell := gs_cells h1
          have hlen := gs_length hcell
          have hlc := gs_length hc
          have hsz : V.cells.size = size := by rw [← Array.length_toList, hlen, b1]
          have hnew := gs_append (gs_append (gs_take off hc) hcell) (gs_drop (off + size) hc)
          obtain ⟨rs, h3, h4⟩ := ih as vs' _ _ r h hnew h2
          refine ⟨rs, h3, ?_⟩
          have hcond : (V.cells.size ≠ size || off + V.cells.size > cs.toArray.size : Bool) = false := by
            simp [hsz]; omega
          simp only [hcond]
          rw [if_neg (by simp), fill_step (size := size)]
          have e := foldl_set off V.cells.toList 0 cs.toArray (by simp [hsz]; omega)
          have e2 : (V.cells.toList.zipIdx.foldl (fun (A : Array Value) (p : Value × Nat) => A.setIfInBounds (off + p.2) p.1) cs.toArray) = (cs.take off ++ V.cells.toList ++ cs.drop (off + size)).toArray := by
            apply Array.ext'
            rw [e]
            simp [hsz]
          rw [e2]
          exact h4
section
variable {P : Program}
theorem bBuild_ok {t : TypeId} {ns : List Nat} {as : List AV} {r : AV} (h : bBuild P t ns as = some r) {ρ : Rho} {vs : List Value} (ha : gs ρ as = some vs) : ∃ V, g ρ r = some V ∧ prun P (Instr.build t (ns.zip vs).toArray) = some V := by
  unfold bBuild at h
  split at h
  · rename_i us hu
    have := gs_pl (ρ := ρ) hu
    rw [ha] at this
    cases this
    simp only [Option.ob_eq, Option.bind_eq_some_iff, Option.some.injEq] at h
    obtain ⟨q, h1, rfl⟩ := h
    exact ⟨q, rfl, h1⟩
  · simp only [Option.ob_eq, Option.bind_eq_some_iff] at h
    obtain ⟨i, h1, z, h2, h3⟩ := h
    split at h3
    · rename_i fields hu
      simp only [Option.ob_eq, Option.bind_eq_some_iff, Option.some.injEq] at h3
      obtain ⟨places, h4, rl, h5, rfl⟩ := h3
      obtain ⟨rs, h6, h7⟩ := fill_ok ns as vs _ _ rl h5 (gs_map _) ha
      refine ⟨_, g_mkAgg h6, ?_⟩
      have hz : prun P (zeroValue t) = some z := by unfold zeroValue; simp [prun_bind, prun_typeInfo h1, h2]
      unfold Instr.build
      simp only [prun_bind, hz, Option.bind_some, prun_underlying hu, h4]
      simp only [Array.toArray_toList] at h7
      simp [h7]
    · cases h3
theorem bMakeIface_ok {t : TypeId} {a r : AV} (h : bMakeIface P t a = some r) {ρ : Rho} {A : Value} (hA : g ρ a = some A) : ∃ V, g ρ r = some V ∧ prun P (Instr.makeInterface t A) = some V := by
  unfold bMakeIface at h
  split at h
  · simp only [Option.ob_eq, Option.bind_eq_some_iff, Option.some.injEq] at h
    obtain ⟨q, h1, rfl⟩ := h
    simp only [g, Option.some.injEq] at hA
    subst hA
    exact ⟨q, rfl, h1⟩
  · split at h
    · cases h
    · rename_i d hu hd
      cases h
      refine ⟨.iface t A, by simp [g, hA], ?_⟩
      unfold Instr.makeInterface
      simp only [prun_bind, prun_underlying hd, Option.bind_some]
      cases d <;> first | rfl | exact absurd hd (by simpa using hu _)
    · cases h
theorem bMakeFunc_ok {fn : Fn} {first cap : List AV} {r : AV} (h : bMakeFunc fn first cap = some r) {ρ : Rho} {a b : List Value} (ha : gs ρ first = some a) (hb : gs ρ cap = some b) : g ρ r = some (.func fn a.toArray b.toArray) := by
  unfold bMakeFunc at h
  split at h
  · rename_i a' b' h1 h2
    have e1 := gs_pl (ρ := ρ) h1
    have e2 := gs_pl (ρ := ρ) h2
    rw [ha] at e1
    rw [hb] at e2
    cases e1; cases e2
    cases h
    rfl
  · split at h
    · cases h
      simp [g, ha, hb]
    · cases h
theorem bAssert_ok {a r : AV} {xt u : TypeId} {ok : Bool} (h : bAssert P a xt u ok = some r) {ρ : Rho} {A : Value} (hA : g ρ a = some A) : ∃ V, g ρ r = some V ∧ prun P (Instr.typeAssert A xt u ok) = some V := by
  unfold bAssert at h
  split at h
  · simp only [Option.ob_eq, Option.bind_eq_some_iff, Option.some.injEq] at h
    obtain ⟨q, h1, rfl⟩ := h
    simp only [g, Option.some.injEq] at hA
    subst hA
    exact ⟨q, rfl, h1⟩
  · rename_i t x
    have hI : ∃ X, g ρ x = some X ∧ A = .iface t X := by
      simp only [g] at hA
      split at hA <;> cases hA
      exact ⟨_, by assumption, rfl⟩
    obtain ⟨X, hX, rfl⟩ := hI
    split at h
    · rename_i want hu
      simp only [Option.ob_eq, Option.bind_eq_some_iff] at h
      obtain ⟨i, h1, h2⟩ := h
      split at h2
      · rename_i hm
        cases ok with
        | true =>
          cases h2
          refine ⟨_, g_mkTup (gs_cons.mpr ⟨_, _, hA, gs_cons.mpr ⟨_, _, rfl, rfl, rfl⟩, rfl⟩), ?_⟩
          unfold Instr.typeAssert
          simp [prun_bind, prun_underlying hu, prun_typeInfo h1, hm]
        | false =>
          cases h2
          refine ⟨_, hA, ?_⟩
          unfold Instr.typeAssert
          simp [prun_bind, prun_underlying hu, prun_typeInfo h1, hm]
      · rename_i m hm
        cases ok with
        | true =>
          simp only [cond_true, Option.ob_eq, Option.bind_eq_some_iff, Option.some.injEq] at h2
          obtain ⟨j, h3, z, h4, rfl⟩ := h2
          refine ⟨_, rfl, ?_⟩
          have hz : prun P (zeroValue u) = some z := by unfold zeroValue; simp [prun_bind, prun_typeInfo h3, h4]
          unfold Instr.typeAssert
          simp [prun_bind, prun_underlying hu, prun_typeInfo h1, hm, hz]
        | false => cases h2
    · rename_i d hd hu
      cases ht : Nat.beq t u with
      | true =>
        rw [ht] at h
        have ht' : t = u := Nat.eq_of_beq_eq_true ht
        cases ok with
        | true =>
          cases h
          refine ⟨_, g_mkTup (gs_cons.mpr ⟨_, _, hX, gs_cons.mpr ⟨_, _, rfl, rfl, rfl⟩, rfl⟩), ?_⟩
          unfold Instr.typeAssert
          simp only [prun_bind, prun_underlying hu, Option.bind_some]
          cases d <;> first | (simp [ht']; done) | exact absurd hu (by simpa using hd _)
        | false =>
          cases h
          refine ⟨_, hX, ?_⟩
          unfold Instr.typeAssert
          simp only [prun_bind, prun_underlying hu, Option.bind_some]
          cases d <;> first | (simp [ht']; done) | exact absurd hu (by simpa using hd _)
      | false =>
        rw [ht] at h
        have ht' : ¬ t = u := fun e => by rw [e, Nat.beq_refl] at ht; cases ht
        cases ok with
        | true =>
          simp only [cond_true, cond_false, Option.ob_eq, Option.bind_eq_some_iff, Option.some.injEq] at h
          obtain ⟨j, h3, z, h4, rfl⟩ := h
          refine ⟨_, rfl, ?_⟩
          have hz : prun P (zeroValue u) = some z := by unfold zeroValue; simp [prun_bind, prun_typeInfo h3, h4]
          unfold Instr.typeAssert
          simp only [prun_bind, prun_underlying hu, Option.bind_some]
          cases d <;> first | (simp [ht', prun_bind, hz]; done) | exact absurd hu (by simpa using hd _)
        | false => cases h
    · cases h
  · cases h
end

/-! ### reads -/
/-- an element; by the recursor -/
noncomputable def getL {α : Type} (l : List α) : Nat → Option α := List.rec (motive := fun _ => Nat → Option α) (fun _ => none) (fun a _ rec k => cond (Nat.beq k 0) (some a) (rec (Nat.sub k 1))) l
theorem getL_eq {α : Type} : ∀ (l : List α) (k : Nat), getL l k = l[k]?
  | [], k => by simp; rfl
  | a :: r, 0 => rfl
  | a :: r, k + 1 => by
    have := getL_eq r k
    show getL r (k + 1 - 1) = _
    simpa using this
/-- so many elements -/
noncomputable def takeL {α : Type} (n : Nat) : List α → Option (List α) := Nat.rec (motive := fun _ => List α → Option (List α)) (fun _ => some []) (fun _ rec l => List.casesOn l none (fun a r => Option.rec (motive := fun _ => Option (List α)) none (fun x => some (a :: x)) (rec r))) n
theorem takeL_ok {α : Type} : ∀ (n : Nat) (l x : List α), takeL n l = some x → x = l.take n ∧ x.length = n
  | 0, l, x, h => by cases h; simp
  | n + 1, [], x, h => by cases h
  | n + 1, a :: r, x, h => by
    have h' : Option.rec (motive := fun _ => Option (List α)) none (fun x => some (a :: x)) (takeL n r) = some x := h
    cases hr : takeL n r with
    | none => rw [hr] at h'; cases h'
    | some y =>
      rw [hr] at h'
      cases h'
      obtain ⟨h1, h2⟩ := takeL_ok n r y hr
      exact ⟨by rw [h1]; rfl, by simp [h2]⟩
noncomputable def dropL {α : Type} (l : List α) : Nat → List α := List.rec (motive := fun _ => Nat → List α) (fun _ => []) (fun a r rec k => cond (Nat.beq k 0) (a :: r) (rec (Nat.sub k 1))) l
theorem dropL_eq {α : Type} : ∀ (l : List α) (k : Nat), dropL l k = l.drop k
  | [], k => by simp; rfl
  | a :: r, 0 => rfl
  | a :: r, k + 1 => by
    have := dropL_eq r k
    show dropL r (k + 1 - 1) = _
    simpa using this
section
variable (P : Program) (G : Globs)
/-- so many cells from an address on -/
noncomputable def srcAt (H : AH) (a : AV) (n : Nat) : Option (List AV) := match a with
  | .ptr k o => match H.tr.get k with
    | some (.cells l _ _) => takeL n (dropL l o)
    | _ => none
  | .v (.pointer (some a)) => bif a.spot.isSome then none else (G a.block).ob fun l => (takeL n (dropL l a.off)).ob fun x => some (x.map .v)
  | _ => none
noncomputable def bLoad (H : AH) (t : TypeId) (a : AV) : Option AV :=
  bif isAggB P t then (P.info? t).ob fun i => (srcAt G H a i.size).ob fun l => some (mkAgg l)
  else (P.underlying t).ob fun _ => (srcAt G H a 1).ob fun l => l.head?
variable {P} {G}
theorem cell_of_RO {ρ : Rho} {m : Nat} {l : List AV} {e : TypeId} {room : Option Nat} {O : Obj} (h : RO ρ m (.cells l e room) O) : ∃ vs rest, gs ρ l = some vs ∧ O = .cells (vs ++ rest).toArray e (0, 0) ∧ (∀ sz, room = some sz → (vs ++ rest).length = m * sz ∧ m ≤ maxLen) ∧ (room = none → rest = []) := by
  cases room with
  | none => obtain ⟨vs, h1, rfl⟩ := h; exact ⟨vs, [], h1, by simp, by simp, by simp⟩
  | some sz => obtain ⟨vs, rest, h1, rfl, h2⟩ := h; exact ⟨vs, rest, h1, rfl, by simpa using h2, by simp⟩
theorem Live.cells {W : World} {ρ : Rho} {H : AH} {w : World} (r : Live W ρ H w) {k : Nat} {l : List AV} {e : TypeId} {room : Option Nat} (h : H.tr.get k = some (.cells l e room)) :
    ∃ b m vs rest, ρ k = some (b, m) ∧ gs ρ l = some vs ∧ w.heap[b]? = some (.cells (vs ++ rest).toArray e (0, 0)) ∧ (∀ sz, room = some sz → (vs ++ rest).length = m * sz ∧ m ≤ maxLen) ∧ (room = none → rest = []) := by
  obtain ⟨b, m, O, h1, h2, h3⟩ := r.live k _ h
  obtain ⟨vs, rest, h4, rfl, h5, h6⟩ := cell_of_RO h3
  exact ⟨b, m, vs, rest, h1, h4, h2, h5, h6⟩
theorem cell_at {w : World} {b : Nat} {cs : List Value} {e : TypeId} (h : w.heap[b]? = some (.cells cs.toArray e (0, 0))) (i : Nat) : w.cell? ⟨b, i, none⟩ = cs[i]? := by
  unfold World.cell?; rw [h]; simp
theorem srcAt_ok {W : World} {ρ : Rho} {H : AH} {w : World} (r : Live W ρ H w) (hG : GlobOk G W) {a : AV} {n : Nat} {l : List AV} (h : srcAt G H a n = some l) {A : Value} (hA : g ρ a = some A) :
    ∃ b o vs, A = .pointer (some ⟨b, o, none⟩) ∧ gs ρ l = some vs ∧ vs.length = n ∧ ∀ j V, vs[j]? = some V → w.cell? ⟨b, o + j, none⟩ = some V := by
  unfold srcAt at h
  split at h
  · rename_i k o
    split at h
    · rename_i l' e room hk
      rw [dropL_eq] at h
      obtain ⟨rfl, hlen⟩ := takeL_ok _ _ _ h
      obtain ⟨b, m, vs, rest, h1, h2, h3, _⟩ := r.cells hk
      simp only [g, h1] at hA
      cases hA
      have h4 := gs_take n (gs_drop o h2)
      refine ⟨b, o, _, rfl, h4, by rw [gs_length h4]; exact hlen, fun j V hj => ?_⟩
      rw [cell_at h3]
      rw [List.getElem?_take] at hj
      split at hj
      · rw [List.getElem?_drop] at hj
        rw [List.getElem?_append_left (List.getElem?_eq_some_iff.mp hj).1]
        exact hj
      · cases hj
    · cases h
  · rename_i a
    obtain ⟨b, o, sp⟩ := a
    cases sp with
    | some s => cases h
    | none =>
      simp only [Option.isSome_none, cond_false, Option.ob_eq, Option.bind_eq_some_iff] at h
      obtain ⟨gl, h1, x, h2, h3⟩ := h
      rw [dropL_eq] at h2
      obtain ⟨rfl, hlen⟩ := takeL_ok _ _ _ h2
      cases h3
      simp only [g, Option.some.injEq] at hA
      subst hA
      refine ⟨b, o, _, rfl, gs_map _, hlen, fun j V hj => ?_⟩
      rw [List.getElem?_take] at hj
      split at hj
      · rw [List.getElem?_drop] at hj
        have := hG b gl h1 _ _ hj
        have hlt := World.block_lt_of_cell? W _ this
        rw [World.cell?_of_block (w := W) (r.grown.block b hlt (by simp))]
        exact this
      · cases hj
  · cases h
theorem bLoad_ok {W : World} {ρ : Rho} {H : AH} {w : World} (r : Live W ρ H w) (hG : GlobOk G W) {t : TypeId} {a x : AV} (h : bLoad P G H t a = some x) {A : Value} (hA : g ρ a = some A) : ∃ V, g ρ x = some V ∧ rrun P (Instr.loadAt t A) w = some V := by
  unfold bLoad at h
  cases ha : isAggB P t with
  | true =>
    rw [ha] at h
    simp only [cond_true, Option.ob_eq, Option.bind_eq_some_iff, Option.some.injEq] at h
    obtain ⟨i, h1, l, h2, rfl⟩ := h
    obtain ⟨b, o, vs, rfl, h3, h4, h5⟩ := srcAt_ok r hG h2 hA
    refine ⟨_, g_mkAgg h3, load_agg h1 ha h4 ?_⟩
    have : ∀ (us : List Value) (j : Nat), (∀ q V, us[q]? = some V → vs[j + q]? = some V) → cellsAt w ⟨b, o, none⟩ j us := by
      intro us
      induction us with
      | nil => intro j _; trivial
      | cons u us ih => exact fun j hq => ⟨by rw [addL]; exact h5 j u (by simpa using hq 0 u rfl), ih (j + 1) fun q V hV => by have := hq (q + 1) V (by simpa using hV); rwa [show j + 1 + q = j + (q + 1) by omega]⟩
    exact this vs 0 fun q V hV => by simpa using hV
  | false =>
    rw [ha] at h
    simp only [cond_false, Option.ob_eq, Option.bind_eq_some_iff] at h
    obtain ⟨d, h1, l, h2, h3⟩ := h
    obtain ⟨b, o, vs, rfl, h4, h5, h6⟩ := srcAt_ok r hG h2 hA
    have hx : l[0]? = some x := by rw [← List.head?_eq_getElem?]; exact h3
    obtain ⟨V, h7, h8⟩ := gs_get h4 hx
    refine ⟨V, h8, ?_⟩
    rw [load_one h1 ha]
    simpa using h6 0 V h7
end

/-! ### writes -/
/-- the first of one list, then what is left of the other -/
noncomputable def onto (cs : List AV) : List AV → List AV := List.rec (motive := fun _ => List AV → List AV) (fun l => l) (fun c _ rec l => c :: rec (List.casesOn l [] (fun _ r => r))) cs
theorem onto_eq : ∀ (cs l : List AV), onto cs l = cs ++ l.drop cs.length
  | [], l => by simp; rfl
  | c :: r, l => by
    have e : onto (c :: r) l = c :: onto r (List.casesOn l [] (fun _ r => r)) := rfl
    rw [e, onto_eq r]
    cases l <;> simp
noncomputable def splice (l : List AV) : Nat → List AV → List AV := List.rec (motive := fun _ => Nat → List AV → List AV) (fun _ cs => cs) (fun x l rec o cs => cond (Nat.beq o 0) (onto cs (x :: l)) (x :: rec (Nat.sub o 1) cs)) l
theorem splice_eq : ∀ (l : List AV) (o : Nat) (cs : List AV), o + cs.length ≤ l.length → splice l o cs = l.take o ++ cs ++ l.drop (o + cs.length)
  | [], 0, cs, h => by have : cs = [] := by simpa using h
                       subst this; rfl
  | x :: l, 0, cs, _ => by
    have e : splice (x :: l) 0 cs = onto cs (x :: l) := rfl
    rw [e, onto_eq]
    simp
  | [], o + 1, cs, h => by simp at h
  | x :: l, o + 1, cs, h => by
    have := splice_eq l o cs (by simp at h; omega)
    have e : splice (x :: l) (o + 1) cs = x :: splice l o cs := rfl
    simp [e, this, show o + 1 + cs.length = (o + cs.length) + 1 by omega]
theorem setRow_grown (w : World) (b : Nat) (cs : Array Value) : w.grownBy (w.setRow b cs) (some b) :=
  ⟨rfl, rfl, rfl, by simp [World.setRow], fun k _ hk => by
    have hne : b ≠ k := fun e => hk (by rw [e])
    simp [World.setRow, Array.getElem?_modify, hne]⟩
section
variable (P : Program)
noncomputable def bStore (H : AH) (t : TypeId) (a x : AV) : Option AH := match a with
  | .ptr k o => match H.tr.get k with
    | some (.cells l e room) => (P.info? t).ob fun i =>
      bif Nat.beq (cellsOfAV x).length i.size && ((cellsOfAV x).all oneAV && ((Nat.blt 0 i.size && (takeL i.size (dropL l o)).isSome) && Tr.okKey k)) then some (H.set k (.cells (splice l o (cellsOfAV x)) e room)) else none
    | _ => none
  | _ => none
variable {P}
theorem bStore_ok {W : World} {ρ : Rho} {H H' : AH} {w : World} (r : Rel W ρ H w) {t : TypeId} {a x : AV} (h : bStore P H t a x = some H') {A X : Value} (hA : g ρ a = some A) (hX : g ρ x = some X) : ∃ w', Rel W ρ H' w' ∧ erun P (Instr.storeAt t A X) w = some ((), w') := by
  unfold bStore at h
  split at h
  · rename_i k o
    split at h
    · rename_i l e room hk
      simp only [Option.ob_eq, Option.bind_eq_some_iff] at h
      obtain ⟨i, h1, h2⟩ := h
      cases hb : (Nat.beq (cellsOfAV x).length i.size && ((cellsOfAV x).all oneAV && ((Nat.blt 0 i.size && (takeL i.size (dropL l o)).isSome) && Tr.okKey k))) with
      | false => rw [hb] at h2; cases h2
      | true =>
        rw [hb] at h2
        cases h2
        simp only [Bool.and_eq_true, Nat.beq_eq, Nat.blt_eq] at hb
        obtain ⟨b1, b2, ⟨b30, b31⟩, b4⟩ := hb
        have b3 : o + i.size ≤ l.length := by
          obtain ⟨x', hx'⟩ := Option.isSome_iff_exists.mp b31
          rw [dropL_eq] at hx'
          obtain ⟨e1, e2⟩ := takeL_ok _ _ _ hx'
          rw [e1, List.length_take, List.length_drop] at e2
          omega
        obtain ⟨b, m, vs, rest, h3, h4, h5, h6, h7⟩ := r.cells hk
        simp only [g, h3] at hA
        cases hA
        have hc := gs_cells hX
        have hcl : X.cells.toList.length = i.size := by rw [gs_length hc, b1]
        have hvl := gs_length h4
        have h1c := oneCells_of hc b2
        have hrun := run_storeCells_at P b o e X.cells.toList 0 (vs ++ rest).toArray w h5 (by simp only [List.size_toArray, List.length_append]; omega) h1c
        refine ⟨w.setRow b ((vs ++ rest).take o ++ X.cells.toList ++ (vs ++ rest).drop (o + i.size)).toArray, ?_, ?_⟩
        · have hnew : ((vs ++ rest).take o ++ X.cells.toList ++ (vs ++ rest).drop (o + i.size)) = (vs.take o ++ X.cells.toList ++ vs.drop (o + i.size)) ++ rest := by
            rw [List.take_append_of_le_length (by omega), List.drop_append_of_le_length (by omega)]
            simp
          refine r.set_ hk h3 (setRow_grown w b _) (O := .cells ((vs.take o ++ X.cells.toList ++ vs.drop (o + i.size)) ++ rest).toArray e (0, 0)) ?_ ?_ b4
          · rw [setRow_heap w b _ _ e (0, 0) h5, hnew]
          · have hg' : gs ρ (splice l o (cellsOfAV x)) = some (vs.take o ++ X.cells.toList ++ vs.drop (o + i.size)) := by
              rw [splice_eq _ _ _ (by omega), b1]
              exact gs_append (gs_append (gs_take o h4) hc) (gs_drop _ h4)
            have hlen : (vs.take o ++ X.cells.toList ++ vs.drop (o + i.size)).length = vs.length := by simp only [List.length_append, List.length_take, List.length_drop]; omega
            cases room with
            | none =>
              have := h7 rfl
              subst this
              exact ⟨_, hg', by simp⟩
            | some sz =>
              obtain ⟨h8, h9⟩ := h6 sz rfl
              exact ⟨_, rest, hg', rfl, by rw [List.length_append, hlen, ← List.length_append]; exact h8, h9⟩
        · refine erun_of_run ?_
          unfold Instr.storeAt storeVar
          have e1 : (Instr.sureAddr (.pointer (some ⟨b, o, none⟩))).run P w = .ok ⟨b, o, none⟩ w := rfl
          rw [run_ok e1, run_ok (prun_run (prun_sizeOf h1) w)]
          have hsz : X.cells.size = i.size := by rw [← Array.length_toList]; exact hcl
          simp only [hsz, ne_eq, not_true_eq_false, if_false]
          rw [hrun]
          simp [hcl]
    · cases h
  · cases h
end
/-! ### new memory -/
section
variable (P : Program)
noncomputable def addCells (H : AH) (l : List AV) (e : TypeId) : Option (AV × AH) := bif Tr.okKey H.next then some (.ptr H.next 0, H.add (.cells l e none)) else none
noncomputable def bAlloc (H : AH) (t : TypeId) : Option (AV × AH) := (P.info? t).ob fun i => i.zero.ob fun z => addCells H (z.cells.toList.map .v) t
noncomputable def bBox (H : AH) (t : TypeId) (x : AV) : Option (AV × AH) := addCells H (cellsOfAV x) t
noncomputable def madeL (z : Array Value) (n : Nat) : List AV := match z.toList with
  | [x] => List.replicate n (.v x)
  | _ => (List.range n).map fun i => .v (z[i % z.size]!)
noncomputable def bMake (H : AH) (t : TypeId) (l c : AV) : Option (AV × AH) := match l, c with
  | .v (.int _ (.ofNat l)), .v (.int _ (.ofNat c)) => match P.underlying t with
    | some (.slice e) => (P.info? e).ob fun i => i.zero.ob fun z =>
      bif Nat.ble l c && (Nat.ble c 10000000 && (Nat.ble i.bytes 1000000 && Tr.okKey H.next)) then some (.sl H.next 0 l (.is c), H.add (.cells (madeL z.cells (c * i.size)) e none)) else none
    | _ => none
  | _, _ => none
noncomputable def bBuildSlice (H : AH) (t : TypeId) (n : Nat) (ns : List Nat) (as : List AV) : Option (AV × AH) := match P.underlying t with
  | some (.slice e) => (P.info? e).ob fun i => i.zero.ob fun z =>
    bif Nat.ble (n * i.size) 100000 && (Tr.okKey H.next && !(Nat.beq (n * i.size) 0)) then
      (fillL (fun j => some (j * i.size, i.size)) (madeL z.cells (n * i.size)) (ns.zip as)).ob fun r => some (.sl H.next 0 n (.is n), H.add (.cells r e none))
    else none
  | _ => none
variable {P}
/-- what a step has come to -/
noncomputable def Done (W : World) (ρ : Rho) (a : AV) (H : AH) (r : Option (Value × World)) : Prop := ∃ ρ' V w', RhoLe ρ ρ' ∧ Rel W ρ' H w' ∧ g ρ' a = some V ∧ r = some (V, w')
theorem add_done {W : World} {ρ : Rho} {H : AH} {w : World} (r : Rel W ρ H w) {l : List AV} {vs : List Value} (hl : gs ρ l = some vs) {e : TypeId} (hk : Tr.okKey H.next = true) :
    ∃ ρ', RhoLe ρ ρ' ∧ ρ' H.next = some (w.heap.size, 0) ∧ Rel W ρ' (H.add (.cells l e none)) (w.alloc (.cells vs.toArray e)) :=
  ⟨_, updR_le (p := (w.heap.size, 0)) (r.fresh _ (Nat.le_refl _)), by simp, r.new_ (World.grownBy_alloc w _ none) (Nat.le_refl _) (heap_alloc_new w _) ⟨vs, gs_mono (updR_le (r.fresh _ (Nat.le_refl _))) _ _ hl, rfl⟩ hk⟩
theorem addCells_ok {W : World} {ρ : Rho} {H H' : AH} {w : World} (r : Rel W ρ H w) {l : List AV} {e : TypeId} {a : AV} (h : addCells H l e = some (a, H')) {vs : List Value} (hl : gs ρ l = some vs) :
    Done W ρ a H' (some (.pointer (some ⟨w.heap.size, 0, none⟩), w.alloc (.cells vs.toArray e))) := by
  unfold addCells at h
  cases hk : Tr.okKey H.next with
  | false => rw [hk] at h; cases h
  | true =>
    rw [hk] at h
    cases h
    obtain ⟨ρ', h1, h2, h3⟩ := add_done r hl (e := e) hk
    exact ⟨ρ', _, _, h1, h3, by simp [g, h2], rfl⟩
theorem bAlloc_ok {W : World} {ρ : Rho} {H H' : AH} {w : World} (r : Rel W ρ H w) {t : TypeId} {a : AV} (h : bAlloc P H t = some (a, H')) : Done W ρ a H' (erun P (Instr.alloc t true (.tuple #[])) w) := by
  unfold bAlloc at h
  simp only [Option.ob_eq, Option.bind_eq_some_iff] at h
  obtain ⟨i, h1, z, h2, h3⟩ := h
  have := addCells_ok r h3 (gs_map z.cells.toList)
  have hz : prun P (zeroValue t) = some z := by unfold zeroValue; simp [prun_bind, prun_typeInfo h1, h2]
  have e : erun P (Instr.alloc t true (.tuple #[])) w = some (.pointer (some ⟨w.heap.size, 0, none⟩), w.alloc (.cells z.cells t)) := by
    unfold Instr.alloc
    rw [erun_bind, erun_of_prun hz]
    rfl
  rw [e]
  simpa using this
theorem bBox_ok {W : World} {ρ : Rho} {H H' : AH} {w : World} (r : Rel W ρ H w) {t : TypeId} {a x : AV} (h : bBox H t x = some (a, H')) {X : Value} (hX : g ρ x = some X) : Done W ρ a H' (erun P (Instr.box t X) w) := by
  have := addCells_ok r h (gs_cells hX)
  rw [box_any]
  simpa using this
theorem madeL_ok {ρ : Rho} (z : Array Value) (n : Nat) : gs ρ (madeL z n) = some (madeCells z n).toList := by
  unfold madeL
  split
  · rename_i x hx
    have hz : z = #[x] := by apply Array.ext'; simpa using hx
    subst hz
    have e : (madeCells #[x] n).toList = List.replicate n x := by
      simp only [madeCells, Array.toList_map, Array.toList_range]
      apply List.ext_getElem
      · simp
      · intro i h1 h2
        simp [Nat.mod_one]
    rw [e, ← List.map_replicate]
    exact gs_map _
  · have e : (madeCells z n).toList = (List.range n).map fun i => z[i % z.size]! := by
      simp [madeCells, Array.toList_map, Array.toList_range]
    rw [e]
    have := gs_map (ρ := ρ) ((List.range n).map fun i => z[i % z.size]!)
    rwa [List.map_map] at this
theorem bMake_ok {W : World} {ρ : Rho} {H H' : AH} {w : World} (r : Rel W ρ H w) {t : TypeId} {a l c : AV} (h : bMake P H t l c = some (a, H')) {L C : Value} (hL : g ρ l = some L) (hC : g ρ c = some C) : Done W ρ a H' (erun P (Instr.makeSlice t L C) w) := by
  unfold bMake at h
  split at h
  · rename_i kl l kc c
    simp only [g, Option.some.injEq] at hL hC
    subst hL; subst hC
    split at h
    · rename_i e hu
      simp only [Option.ob_eq, Option.bind_eq_some_iff] at h
      obtain ⟨i, h1, z, h2, h3⟩ := h
      cases hb : (Nat.ble l c && (Nat.ble c 10000000 && (Nat.ble i.bytes 1000000 && Tr.okKey H.next))) with
      | false => rw [hb] at h3; cases h3
      | true =>
        rw [hb] at h3
        cases h3
        simp only [Bool.and_eq_true, Nat.ble_eq] at hb
        obtain ⟨b1, b2, b3, b4⟩ := hb
        obtain ⟨ρ', q1, q2, q3⟩ := add_done r (madeL_ok z.cells (c * i.size)) (e := e) b4
        have hby : (i.bytes : Int) * (Int.ofNat c) ≤ 281474976710656 := by
          have : i.bytes * c ≤ 1000000 * 10000000 := Nat.mul_le_mul b3 b2
          have h4 : ((i.bytes * c : Nat) : Int) ≤ 281474976710656 := by omega
          rwa [Int.natCast_mul] at h4
        have hc63 : Int.ofNat c ≤ 9223372036854775807 := by
          have : (c : Int) ≤ 10000000 := by omega
          exact Int.le_trans this (by decide)
        have hrun := run_make (P := P) w t e i z hu h1 h2 kl kc (Int.ofNat l) (Int.ofNat c) (Int.natCast_nonneg l) (by simpa using b1) hby hc63
        refine ⟨ρ', _, _, q1, q3, ?_, erun_of_run (by simpa using hrun)⟩
        simp [g, q2, Cap.at]
    · cases h
  · cases h
theorem bBuildSlice_ok {W : World} {ρ : Rho} {H H' : AH} {w : World} (r : Rel W ρ H w) {t : TypeId} {n : Nat} {ns : List Nat} {as : List AV} {a : AV} (h : bBuildSlice P H t n ns as = some (a, H')) {vs : List Value} (ha : gs ρ as = some vs) : Done W ρ a H' (erun P (Instr.buildSlice t n (ns.zip vs).toArray) w) := by
  unfold bBuildSlice at h
  split at h
  · rename_i e hu
    simp only [Option.ob_eq, Option.bind_eq_some_iff] at h
    obtain ⟨i, h1, z, h2, h3⟩ := h
    cases hb : (Nat.ble (n * i.size) 100000 && (Tr.okKey H.next && !(Nat.beq (n * i.size) 0))) with
    | false => rw [hb] at h3; cases h3
    | true =>
      rw [hb] at h3
      simp only [cond_true, Option.ob_eq, Option.bind_eq_some_iff, Option.some.injEq, Prod.mk.injEq] at h3
      obtain ⟨rl, h4, rfl, rfl⟩ := h3
      simp only [Bool.and_eq_true, Nat.ble_eq, Bool.not_eq_true'] at hb
      obtain ⟨b1, b2, b3⟩ := hb
      have hne : ¬ n * i.size = 0 := fun e => by rw [e] at b3; cases b3
      obtain ⟨rs, h5, h6⟩ := fill_ok ns as vs _ _ rl h4 (madeL_ok z.cells (n * i.size)) ha
      obtain ⟨ρ', q1, q2, q3⟩ := add_done r h5 (e := e) b2
      refine ⟨ρ', .slice (some ⟨w.heap.size, 0, none⟩) n n, _, q1, q3, by simp [g, q2, Cap.at], ?_⟩
      have hz : prun P (zeroValue e) = some z := by unfold zeroValue; simp [prun_bind, prun_typeInfo h1, h2]
      have hbig : ¬ (n * i.size > 2 ^ 24) := by omega
      unfold Instr.buildSlice
      rw [erun_bind, erun_of_prun (prun_underlying hu)]
      simp only [Option.bind_some]
      rw [erun_bind, erun_of_prun (prun_sizeOf h1)]
      simp only [Option.bind_some, hbig, if_false, hne]
      simp only [Array.toArray_toList, madeCells] at h6
      simp only [erun_bind, erun_of_prun hz, Option.bind_some, erun_of_prun (prun_pure _), h6]
      rfl
  · cases h
end
end Go.Sh.Ev
