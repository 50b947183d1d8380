/- The layer 'Sh': closed runs: regions. Conditions: those of each statement. -/
import Derived.Test.YtkghbcadnbojgaaGreatDoorShEv5
namespace Go.Sh.Ev
open Go Go.RowKit
set_option linter.unusedVariables false
set_option linter.unusedSimpArgs false

/-! ### environments -/
noncomputable def dropE (e : AEnv) (lo hi : Nat) : AEnv := fun i => cond (Nat.ble lo i) (cond (Nat.ble i hi) none (e i)) (e i)
theorem EnvR.drop {ρ : Rho} {e : AEnv} {eR : Env} (h : EnvR ρ e eR) (lo hi : Nat) : EnvR ρ (dropE e lo hi) (Env.drop lo hi eR) := by
  intro t a ht
  unfold dropE at ht
  unfold Env.drop
  cases h1 : Nat.ble lo t with
  | false =>
    rw [h1] at ht
    simp only [Bool.false_and, cond_false]
    exact h t a ht
  | true =>
    rw [h1] at ht
    cases h2 : Nat.ble t hi with
    | false =>
      rw [h2] at ht
      simp only [Bool.and_false, cond_false]
      exact h t a ht
    | true => rw [h2] at ht; cases ht
noncomputable def setE (e : AEnv) (d : Nat) (v : AV) : AEnv := fun i => Bool.rec (motive := fun _ => Option AV) (e i) (some v) (Nat.beq i d)
theorem EnvR.set {ρ : Rho} {e : AEnv} {eR : Env} (h : EnvR ρ e eR) {d : Nat} {v : AV} {V : Value} (hv : g ρ v = some V) : EnvR ρ (setE e d v) (eR.set d V) := by
  intro t a ht
  unfold setE at ht
  rw [set_eq]
  cases hb : Nat.beq t d with
  | true =>
    rw [hb] at ht
    cases ht
    rw [if_pos (Nat.eq_of_beq_eq_true hb)]
    exact ⟨V, hv, rfl⟩
  | false =>
    rw [hb] at ht
    have hne : ¬ t = d := fun e => by rw [e, Nat.beq_refl] at hb; cases hb
    rw [if_neg hne]
    exact h t a ht
noncomputable def putE (e : AEnv) (d : Option Nat) (v : AV) : AEnv := match d with | some d => setE e d v | none => e
theorem EnvR.put {ρ : Rho} {e : AEnv} {eR : Env} (h : EnvR ρ e eR) {d : Option Nat} {v : AV} {V : Value} (hv : g ρ v = some V) : EnvR ρ (putE e d v) (eR.put d V) := by
  cases d with
  | none => exact h
  | some d => exact h.set hv
noncomputable def agets (e : AEnv) : List Nat → Option (List AV)
  | [] => some []
  | t :: r => (e t).ob fun a => (agets e r).ob fun l => some (a :: l)
theorem agets_ok {ρ : Rho} {e : AEnv} {eR : Env} (h : EnvR ρ e eR) : ∀ {K : List Nat} {as : List AV}, agets e K = some as → ∃ vs, gs ρ as = some vs ∧ gets eR K = some vs
  | [], as, ha => by simp only [agets, Option.some.injEq] at ha; subst ha; exact ⟨[], rfl, rfl⟩
  | t :: r, as, ha => by
    simp only [agets, Option.ob_eq, Option.bind_eq_some_iff, Option.some.injEq] at ha
    obtain ⟨a, h1, l, h2, rfl⟩ := ha
    obtain ⟨V, v1, v2⟩ := h t a h1
    obtain ⟨vs, h3, h4⟩ := agets_ok h h2
    exact ⟨V :: vs, gs_cons.mpr ⟨_, _, v1, h3, rfl⟩, by simp [gets, v2, h4]⟩
noncomputable def mkE : List Nat → List AV → Option AEnv
  | [], _ => some fun _ => none
  | t :: r, a :: as => (mkE r as).ob fun e => some (setE e t a)
  | _ :: _, [] => none
theorem nth_app : ∀ (pre : List Value) (x : Value) (r : List Value), nth (pre ++ x :: r) pre.length = x
  | [], x, r => rfl
  | p :: pre, x, r => nth_app pre x r
theorem mkE_ok {ρ : Rho} : ∀ {K : List Nat} {as : List AV} {vs pre : List Value} {e : AEnv}, mkE K as = some e → gs ρ as = some vs → EnvR ρ e (ofList pre.length K (pre ++ vs))
  | [], as, vs, pre, e, h, hv => by cases h; intro t a ht; cases ht
  | t :: r, [], vs, pre, e, h, hv => by cases h
  | t :: r, a :: as, vs, pre, e, h, hv => by
    simp only [mkE, Option.ob_eq, Option.bind_eq_some_iff, Option.some.injEq] at h
    obtain ⟨e1, h1, rfl⟩ := h
    obtain ⟨x, xs, h3, h4, rfl⟩ := gs_cons.mp hv
    have h5 := mkE_ok (pre := pre ++ [x]) h1 h4
    have e2 : (pre ++ [x]).length = pre.length + 1 := by simp
    rw [e2] at h5
    simp only [List.append_assoc, List.singleton_append] at h5
    simp only [ofList, nth_app]
    exact h5.set h3

section
variable (P : Program) (G : Globs) (bc : BCall)
/-! ### regions, in the text's order -/
abbrev OpsRec := Nat → List Oper → List (Nat × Bool) → AEnv → AH → Option (AEnv × AH)
noncomputable def opsPut (d : Option Nat) (e : AEnv) (k : AEnv → AH → Option (AEnv × AH)) (v : AV) (H : AH) : Option (AEnv × AH) := Option.rec (motive := fun _ => Option (AEnv × AH)) (k e H) (fun d => k (setE e d v) H) d
theorem opsPut_eq (d : Option Nat) (e : AEnv) (k : AEnv → AH → Option (AEnv × AH)) (v : AV) (H : AH) : opsPut d e k v H = k (putE e d v) H := by cases d <;> rfl
noncomputable def opsPlain (o : Oper) (e : AEnv) (H : AH) (k : AEnv → AH → Option (AEnv × AH)) : Option (AEnv × AH) := (bOp P G bc o e H).ob (Prod.rec (opsPut o.dst e k))
noncomputable def opsHere (rec : OpsRec) (i m : Nat) (x y : Operand) (pd : Nat) (ed : AEnv) (rest' : List Oper) (strip : List (Nat × Bool)) (want : Bool) (e1 : AEnv) (H1 : AH) : Option (AEnv × AH) :=
  (aev e1 (if want then x else y)).ob fun v => rec (i + m + 1) rest' strip (setE ed pd v) H1
noncomputable def opsGone (rec : OpsRec) (i m : Nat) (x y : Operand) (pd : Nat) (ed : AEnv) (rest' : List Oper) (strip : List (Nat × Bool)) (want : Bool) (H : AH) : Option (AEnv × AH) :=
  (aev ed (if want then y else x)).ob fun v => rec (i + m + 1) rest' strip (setE ed pd v) H
noncomputable def opsPick (rec : OpsRec) (i m : Nat) (grp rest' : List Oper) (j : Nat) (want : Bool) (strip : List (Nat × Bool)) (e : AEnv) (H : AH) (x y : Operand) (d pd : Nat) : Option (AEnv × AH) :=
  match e d with
    | some (.v (.bool b)) => bif b == want then (rec i grp ((j, want) :: strip) e H).ob (Prod.rec (opsHere rec i m x y pd (dropE e (loDst grp pd) (hiDst grp pd)) rest' strip want)) else opsGone rec i m x y pd (dropE e (loDst grp pd) (hiDst grp pd)) rest' strip want H
    | _ => none
noncomputable def opsGrp (all : List Oper) (rec : OpsRec) (i m : Nat) (grp tail : List Oper) (j : Nat) (want : Bool) (strip : List (Nat × Bool)) (e : AEnv) (H : AH) : Option (AEnv × AH) := match tail with
  | p :: rest' => match p.op, dstOf all j, p.dst with
    | .pick (.tmp c) x y, some d, some pd => bif Nat.beq c d && guardIn p strip then opsPick rec i m grp rest' j want strip e H x y d pd else none
    | _, _, _ => none
  | [] => none
noncomputable def opsGuard (all : List Oper) (rec : OpsRec) (i : Nat) (o : Oper) (rest : List Oper) (strip : List (Nat × Bool)) (e : AEnv) (H : AH) (j : Nat) (want : Bool) : Option (AEnv × AH) :=
  bif inStrip j want strip then opsPlain P G bc o e H (rec (i + 1) rest strip) else opsGrp all rec i (grpLen i j want (o :: rest)) ((o :: rest).take (grpLen i j want (o :: rest))) ((o :: rest).drop (grpLen i j want (o :: rest))) j want strip e H
noncomputable def opsStep (all : List Oper) (rec : OpsRec) (i : Nat) (o : Oper) (rest : List Oper) (strip : List (Nat × Bool)) (e : AEnv) (H : AH) : Option (AEnv × AH) := match o.guard with
  | none => opsPlain P G bc o e H (rec (i + 1) rest strip)
  | some g => opsGuard P G bc all rec i o rest strip e H g.1 g.2
noncomputable def opsList (all : List Oper) (rec : OpsRec) (i : Nat) (ops : List Oper) (strip : List (Nat × Bool)) (e : AEnv) (H : AH) : Option (AEnv × AH) := match ops with
  | [] => some (e, H)
  | o :: rest => opsStep P G bc all rec i o rest strip e H
noncomputable def bOps (all : List Oper) (n : Nat) : OpsRec := Nat.rec (motive := fun _ => OpsRec) (fun _ _ _ _ _ => none) (fun _ rec => opsList P G bc all rec) n
theorem bOps_zero (all : List Oper) (i : Nat) (ops : List Oper) (strip : List (Nat × Bool)) (e : AEnv) (H : AH) : bOps P G bc all 0 i ops strip e H = none := rfl
theorem bOps_nil (all : List Oper) (n i : Nat) (strip : List (Nat × Bool)) (e : AEnv) (H : AH) : bOps P G bc all (n + 1) i [] strip e H = some (e, H) := rfl
theorem bOps_cons (all : List Oper) (n i : Nat) (o : Oper) (rest : List Oper) (strip : List (Nat × Bool)) (e : AEnv) (H : AH) : bOps P G bc all (n + 1) i (o :: rest) strip e H = opsStep P G bc all (bOps P G bc all n) i o rest strip e H := rfl
end
section
variable {P : Program} {G : Globs} {bc : BCall} {call : CallF} {W : World}
theorem aOps_step {all : List Oper} {n i : Nat} {o : Oper} {rest : List Oper} {strip : List (Nat × Bool)} {eR : Env} {w : World} {σ : Type} {k : Env → World → Option σ} (hg : o.guard = none ∨ ∃ j want, o.guard = some (j, want) ∧ inStrip j want strip = true) :
    aOps P call all (n + 1) i (o :: rest) strip eR w k = aOp P call o eR w fun v w => aOps P call all n (i + 1) rest strip (eR.put o.dst v) w k := by
  rcases hg with hg | ⟨j, want, hg, hs⟩
  · simp only [aOps, hg]
  · simp only [aOps, hg, hs, if_true]
theorem bOps_ok (hG : GlobOk G W) (hC : CallB P call W bc) {all : List Oper} : ∀ (n i : Nat) (ops : List Oper) (strip : List (Nat × Bool)) (e : AEnv) (H : AH) (e' : AEnv) (H' : AH), bOps P G bc all n i ops strip e H = some (e', H') →
    ∀ (ρ : Rho) (w : World) (eR : Env), Rel W ρ H w → EnvR ρ e eR → ∃ ρ' w' eR', RhoLe ρ ρ' ∧ Rel W ρ' H' w' ∧ EnvR ρ' e' eR' ∧ ∀ {σ : Type} (k : Env → World → Option σ), aOps P call all n i ops strip eR w k = k eR' w' := by
  intro n
  induction n with
  | zero => intro i ops strip e H e' H' h; cases h
  | succ n ih =>
    intro i ops strip e H e' H' h ρ w eR r hE
    cases ops with
    | nil => rw [bOps_nil] at h; cases h; exact ⟨ρ, w, eR, RhoLe.refl _, r, hE, fun k => rfl⟩
    | cons o rest =>
      have plain : (o.guard = none ∨ ∃ j want, o.guard = some (j, want) ∧ inStrip j want strip = true) → opsPlain P G bc o e H (bOps P G bc all n (i + 1) rest strip) = some (e', H') →
          ∃ ρ' w' eR', RhoLe ρ ρ' ∧ Rel W ρ' H' w' ∧ EnvR ρ' e' eR' ∧ ∀ {σ : Type} (k : Env → World → Option σ), aOps P call all (n + 1) i (o :: rest) strip eR w k = k eR' w' := by
        intro hg h
        simp only [opsPlain, Option.ob_eq, Option.bind_eq_some_iff] at h
        obtain ⟨⟨v, H1⟩, h1, h3⟩ := h
        simp only [opsPut_eq] at h3
        obtain ⟨ρ1, V, w1, l1, r1, v1, n1⟩ := bOp_ok r hG hC hE h1
        obtain ⟨ρ2, w2, eR2, l2, r2, E2, n2⟩ := ih _ _ _ _ _ _ _ h3 ρ1 w1 _ r1 ((hE.mono l1).put v1)
        exact ⟨ρ2, w2, eR2, l1.trans l2, r2, E2, fun k => by rw [aOps_step hg, n1, n2]⟩
      rw [bOps_cons] at h
      unfold opsStep at h
      cases hgd : o.guard with
      | none => rw [hgd] at h; exact plain (.inl hgd) h
      | some jw =>
        obtain ⟨j, want⟩ := jw
        rw [hgd] at h
        simp only [opsGuard] at h
        cases hs : inStrip j want strip with
        | true => rw [hs] at h; exact plain (.inr ⟨j, want, hgd, hs⟩) h
        | false =>
          rw [hs] at h
          simp only [cond_false] at h
          generalize hm : grpLen i j want (o :: rest) = m at h
          unfold opsGrp at h
          split at h
          · rename_i p rest' hdr
            split at h
            · rename_i c x y d pd hop hdst hpd
              cases hcd : (Nat.beq c d && guardIn p strip) with
              | false => rw [hcd] at h; cases h
              | true =>
                rw [hcd] at h
                simp only [cond_true, opsPick] at h
                simp only [Bool.and_eq_true, Nat.beq_eq] at hcd
                have h2 := h
                clear h
                have hED := hE.drop (loDst ((o :: rest).take m) pd) (hiDst ((o :: rest).take m) pd)
                have real : ∀ {σ : Type} (k : Env → World → Option σ) (b : Bool), eR d = some (.bool b) → aOps P call all (n + 1) i (o :: rest) strip eR w k =
                    (if b = want then aOps P call all n i ((o :: rest).take m) ((j, want) :: strip) eR w fun e' w' => (ev e' (if want then x else y)).bind fun v => some (v, w')
                      else (ev (eR.drop (loDst ((o :: rest).take m) pd) (hiDst ((o :: rest).take m) pd)) (if want then y else x)).bind fun v => some (v, w)).bind fun r =>
                    aOps P call all n (i + m + 1) rest' strip ((eR.drop (loDst ((o :: rest).take m) pd) (hiDst ((o :: rest).take m) pd)).set pd r.1) r.2 k := by
                  intro σ k b hb
                  rw [aOps]
                  simp only [hgd, hs, Bool.false_eq_true, if_false, hm, hdr, hop, hdst, hpd, hcd, and_self, if_true, hb]
                  simp only [Option.ebind_eq, Option.bind_some, asB]
                split at h2
                · rename_i b hbd
                  obtain ⟨B, b1, b2⟩ := hE d _ hbd
                  simp only [g, Option.some.injEq] at b1
                  subst b1
                  cases hbw : (b == want) with
                  | true =>
                    rw [hbw] at h2
                    have hbw' : b = want := by simpa using hbw
                    simp only [cond_true, opsHere, Option.ob_eq, Option.bind_eq_some_iff] at h2
                    obtain ⟨⟨e1, H1⟩, h3, v, h4, h6⟩ := h2
                    obtain ⟨ρ1, w1, eR1, l1, r1, E1, n1⟩ := ih _ _ _ _ _ _ _ h3 ρ w eR r hE
                    obtain ⟨V, v1, v2⟩ := aev_ok E1 h4
                    obtain ⟨ρ2, w2, eR2, l2, r2, E2, n2⟩ := ih _ _ _ _ _ _ _ h6 ρ1 w1 _ r1 ((hED.mono l1).set v1)
                    refine ⟨ρ2, w2, eR2, l1.trans l2, r2, E2, fun k => ?_⟩
                    rw [real k b b2, if_pos hbw', n1, v2]
                    exact n2 k
                  | false =>
                    rw [hbw] at h2
                    have hbw' : ¬ b = want := by simpa using hbw
                    simp only [cond_false, opsGone, Option.ob_eq, Option.bind_eq_some_iff] at h2
                    obtain ⟨v, h4, h6⟩ := h2
                    obtain ⟨V, v1, v2⟩ := aev_ok hED h4
                    obtain ⟨ρ2, w2, eR2, l2, r2, E2, n2⟩ := ih _ _ _ _ _ _ _ h6 ρ w _ r (hED.set v1)
                    refine ⟨ρ2, w2, eR2, l2, r2, E2, fun k => ?_⟩
                    rw [real k b b2, if_neg hbw', v2]
                    exact n2 k
                · cases h2
            · cases h
          · cases h
end
/-! ### values that are the same -/
mutual
noncomputable def beqV : Nat → Value → Value → Bool
  | _, .int k a, .int k' b => decide (k = k') && decide (a = b)
  | _, .bool a, .bool b => decide (a = b)
  | _, .string a, .string b => decide (a = b)
  | _, .pointer a, .pointer b => decide (a = b)
  | _, .slice a n c, .slice b n' c' => decide (a = b) && (Nat.beq n n' && Nat.beq c c')
  | _, .nilIface, .nilIface => true
  | _, .nilFunc, .nilFunc => true
  | n + 1, .iface t a, .iface u b => Nat.beq t u && beqV n a b
  | n + 1, .agg a, .agg b => beqVs n a.toList b.toList
  | _, _, _ => false
noncomputable def beqVs : Nat → List Value → List Value → Bool
  | _, [], [] => true
  | n + 1, a :: r, b :: s => beqV n a b && beqVs n r s
  | _, _, _ => false
end
theorem beq_ok : ∀ (n : Nat), (∀ a b, beqV n a b = true → a = b) ∧ ∀ r s, beqVs n r s = true → r = s := by
  intro n
  induction n with
  | zero =>
    constructor
    · intro a b h
      cases a <;> cases b <;> simp only [beqV] at h <;> first | (cases h; done) | skip
      all_goals try simp only [Bool.and_eq_true, decide_eq_true_eq, Nat.beq_eq] at h
      all_goals first | rfl | (obtain ⟨rfl, rfl, rfl⟩ := h; rfl) | (obtain ⟨rfl, rfl⟩ := h; rfl) | (subst h; rfl)
    · intro r s h
      cases r <;> cases s <;> simp only [beqVs] at h <;> first | rfl | cases h
  | succ n ih =>
    constructor
    · intro a b h
      cases a <;> cases b <;> simp only [beqV] at h <;> first | (cases h; done) | skip
      all_goals try simp only [Bool.and_eq_true, decide_eq_true_eq, Nat.beq_eq] at h
      all_goals first
        | rfl
        | (obtain ⟨rfl, h2⟩ := h; rw [ih.1 _ _ h2]; done)
        | (have h2 := ih.2 _ _ h; congr 1; exact Array.ext' h2)
        | (obtain ⟨rfl, rfl, rfl⟩ := h; rfl)
        | (obtain ⟨rfl, rfl⟩ := h; rfl)
        | (subst h; rfl)
    · intro r s h
      cases r with
      | nil => cases s with | nil => rfl | cons b s => simp only [beqVs] at h; cases h
      | cons a r =>
        cases s with
        | nil => simp only [beqVs] at h; cases h
        | cons b s =>
          simp only [beqVs, Bool.and_eq_true] at h
          rw [ih.1 _ _ h.1, ih.2 _ _ h.2]
noncomputable def beqCap : Cap → Cap → Bool
  | .is a, .is b => Nat.beq a b
  | .less a, .less b => Nat.beq a b
  | _, _ => false
noncomputable def beqA : AV → AV → Bool
  | .v a, .v b => beqV 100 a b
  | .ptr k o, .ptr k' o' => Nat.beq k k' && Nat.beq o o'
  | .sl k o n c, .sl k' o' n' c' => Nat.beq k k' && (Nat.beq o o' && (Nat.beq n n' && beqCap c c'))
  | .ifc t a, .ifc u b => Nat.beq t u && beqA a b
  | _, _ => false
theorem beqA_ok : ∀ {a b : AV}, beqA a b = true → a = b
  | .v a, b, h => by
    cases b <;> simp only [beqA] at h <;> first | (cases h; done) | skip
    rw [(beq_ok 100).1 _ _ h]
  | .ptr k o, b, h => by
    cases b <;> simp only [beqA] at h <;> first | (cases h; done) | skip
    simp only [Bool.and_eq_true, Nat.beq_eq] at h
    obtain ⟨rfl, rfl⟩ := h
    rfl
  | .sl k o n c, b, h => by
    cases b <;> simp only [beqA] at h <;> first | (cases h; done) | skip
    simp only [Bool.and_eq_true, Nat.beq_eq] at h
    obtain ⟨rfl, rfl, rfl, h⟩ := h
    rename_i c'
    cases c <;> cases c' <;> simp only [beqCap] at h <;> first | (cases h; done) | skip
    all_goals rw [Nat.eq_of_beq_eq_true h]
  | .ifc t a, b, h => by
    cases b <;> simp only [beqA] at h <;> first | (cases h; done) | skip
    simp only [Bool.and_eq_true, Nat.beq_eq] at h
    obtain ⟨rfl, h⟩ := h
    rw [beqA_ok h]
  | .map k, b, h => by cases b <;> simp only [beqA] at h <;> cases h
  | .e0 k j, b, h => by cases b <;> simp only [beqA] at h <;> cases h
  | .fn f a l, b, h => by cases b <;> simp only [beqA] at h <;> cases h
  | .agg l, b, h => by cases b <;> simp only [beqA] at h <;> cases h
  | .tup l, b, h => by cases b <;> simp only [beqA] at h <;> cases h
end Go.Sh.Ev
