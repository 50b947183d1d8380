/- The layer 'Sh': closed runs: regions. Conditions: those of each statement. -/
import Derived.Test.YtkghbcadnbojgaaGreatDoorShEv5
namespace Go.Sh.Ev
open Go Go.RowKit
set_option linter.unusedVariables false
set_option linter.unusedSimpArgs false

/-! ### environments -/
def dropN : Nat → Nat → AEnv → AEnv
  | 0, _, e => e
  | n + 1, lo, e => dropN n (lo + 1) (Tr.put 24 e lo none)
def dropE (e : AEnv) (lo hi : Nat) : Option AEnv := bif Tr.okKey hi then some (dropN (hi + 1 - lo) lo e) else none
theorem dropN_get : ∀ (n lo : Nat) (e : AEnv) (t : Nat) (a : AV), lo + n ≤ 1000001 → (dropN n lo e).get t = some a → e.get t = some a ∧ ¬ (lo ≤ t ∧ t < lo + n)
  | 0, lo, e, t, a, _, h => ⟨h, by omega⟩
  | n + 1, lo, e, t, a, hb, h => by
    obtain ⟨h1, h2⟩ := dropN_get n (lo + 1) _ t a (by omega) h
    rw [Tr.get_set (Nat.ble_eq.mpr (by omega))] at h1
    split at h1
    · cases h1
    · rename_i hne; exact ⟨h1, by omega⟩
theorem EnvR.drop {ρ : Rho} {e e' : AEnv} {eR : Env} (h : EnvR ρ e eR) {lo hi : Nat} (hd : dropE e lo hi = some e') : EnvR ρ e' (Env.drop lo hi eR) := by
  unfold dropE at hd
  cases hk : Tr.okKey hi with
  | false => rw [hk] at hd; cases hd
  | true =>
    rw [hk] at hd
    cases hd
    have hhi : hi ≤ 1000000 := Nat.le_of_ble_eq_true hk
    intro t a ht
    by_cases hlo : lo ≤ hi + 1
    · obtain ⟨h1, h2⟩ := dropN_get _ _ _ _ _ (by omega) ht
      obtain ⟨V, v1, v2⟩ := h t a h1
      refine ⟨V, v1, ?_⟩
      unfold Env.drop
      have : (Nat.ble lo t && Nat.ble t hi) = false := by
        rw [Bool.and_eq_false_iff]
        by_cases h3 : lo ≤ t
        · right
          have h4 : ¬ t ≤ hi := by omega
          exact Bool.eq_false_iff.mpr fun h5 => h4 (Nat.le_of_ble_eq_true h5)
        · left
          exact Bool.eq_false_iff.mpr fun h5 => h3 (Nat.le_of_ble_eq_true h5)
      rw [this]
      exact v2
    · rw [show hi + 1 - lo = 0 by omega] at ht
      obtain ⟨V, v1, v2⟩ := h t a ht
      refine ⟨V, v1, ?_⟩
      unfold Env.drop
      have : (Nat.ble lo t && Nat.ble t hi) = false := by
        rw [Bool.and_eq_false_iff]
        by_cases h3 : lo ≤ t
        · right
          have h4 : ¬ t ≤ hi := by omega
          exact Bool.eq_false_iff.mpr fun h5 => h4 (Nat.le_of_ble_eq_true h5)
        · left
          exact Bool.eq_false_iff.mpr fun h5 => h3 (Nat.le_of_ble_eq_true h5)
      rw [this]
      exact v2
def setE (e : AEnv) (d : Nat) (v : AV) : Option AEnv := bif Tr.okKey d then some (Tr.put 24 e d (some v)) else none
theorem EnvR.set {ρ : Rho} {e e' : AEnv} {eR : Env} (h : EnvR ρ e eR) {d : Nat} {v : AV} {V : Value} (hv : g ρ v = some V) (hs : setE e d v = some e') : EnvR ρ e' (eR.set d V) := by
  unfold setE at hs
  cases hk : Tr.okKey d with
  | false => rw [hk] at hs; cases hs
  | true =>
    rw [hk] at hs
    cases hs
    intro t a ht
    rw [Tr.get_set hk] at ht
    rw [set_eq]
    split at ht
    · rename_i e1
      cases ht
      rw [if_pos e1]
      exact ⟨V, hv, rfl⟩
    · rename_i e1
      rw [if_neg e1]
      exact h t a ht
def putE (e : AEnv) (d : Option Nat) (v : AV) : Option AEnv := match d with | some d => setE e d v | none => some e
theorem EnvR.put {ρ : Rho} {e e' : AEnv} {eR : Env} (h : EnvR ρ e eR) {d : Option Nat} {v : AV} {V : Value} (hv : g ρ v = some V) (hs : putE e d v = some e') : EnvR ρ e' (eR.put d V) := by
  cases d with
  | none => cases hs; exact h
  | some d => exact h.set hv hs
def agets (e : AEnv) : List Nat → Option (List AV)
  | [] => some []
  | t :: r => (e.get t).bind fun a => (agets e r).bind fun l => some (a :: l)
theorem agets_ok {ρ : Rho} {e : AEnv} {eR : Env} (h : EnvR ρ e eR) : ∀ {K : List Nat} {as : List AV}, agets e K = some as → ∃ vs, gs ρ as = some vs ∧ gets eR K = some vs
  | [], as, ha => by simp only [agets, Option.some.injEq] at ha; subst ha; exact ⟨[], rfl, rfl⟩
  | t :: r, as, ha => by
    simp only [agets, Option.bind_eq_some_iff, Option.some.injEq] at ha
    obtain ⟨a, h1, l, h2, rfl⟩ := ha
    obtain ⟨V, v1, v2⟩ := h t a h1
    obtain ⟨vs, h3, h4⟩ := agets_ok h h2
    exact ⟨V :: vs, gs_cons.mpr ⟨_, _, v1, h3, rfl⟩, by simp [gets, v2, h4]⟩
def mkE : List Nat → List AV → Option AEnv
  | [], _ => some .leaf
  | t :: r, a :: as => (mkE r as).bind fun e => setE e t a
  | _ :: _, [] => none
theorem nth_app : ∀ (pre : List Value) (x : Value) (r : List Value), nth (pre ++ x :: r) pre.length = x
  | [], x, r => rfl
  | p :: pre, x, r => nth_app pre x r
theorem mkE_ok {ρ : Rho} : ∀ {K : List Nat} {as : List AV} {vs pre : List Value} {e : AEnv}, mkE K as = some e → gs ρ as = some vs → EnvR ρ e (ofList pre.length K (pre ++ vs))
  | [], as, vs, pre, e, h, hv => by cases h; intro t a ht; simp at ht
  | t :: r, [], vs, pre, e, h, hv => by cases h
  | t :: r, a :: as, vs, pre, e, h, hv => by
    simp only [mkE, Option.bind_eq_some_iff] at h
    obtain ⟨e1, h1, h2⟩ := h
    obtain ⟨x, xs, h3, h4, rfl⟩ := gs_cons.mp hv
    have h5 := mkE_ok (pre := pre ++ [x]) h1 h4
    have e2 : (pre ++ [x]).length = pre.length + 1 := by simp
    rw [e2] at h5
    simp only [List.append_assoc, List.singleton_append] at h5
    simp only [ofList, nth_app]
    exact h5.set h3 h2

section
variable (P : Program) (G : Globs) (bc : BCall)
/-! ### regions, in the text's order -/
def bOps (all : List Oper) : Nat → Nat → List Oper → List (Nat × Bool) → AEnv → AH → Option (AEnv × AH)
  | 0, _, _, _, _, _ => none
  | _ + 1, _, [], _, e, H => some (e, H)
  | n + 1, i, o :: rest, strip, e, H =>
    match o.guard with
    | none => (bOp P G bc o e H).bind fun r => (putE e o.dst r.1).bind fun e' => bOps all n (i + 1) rest strip e' r.2
    | some (j, want) =>
      bif inStrip j want strip then (bOp P G bc o e H).bind fun r => (putE e o.dst r.1).bind fun e' => bOps all n (i + 1) rest strip e' r.2 else
      match (o :: rest).drop (grpLen i j want (o :: rest)) with
      | p :: rest' =>
        match p.op, dstOf all j, p.dst with
        | .pick (.tmp c) x y, some d, some pd =>
          bif Nat.beq c d && guardIn p strip then
            (dropE e (loDst ((o :: rest).take (grpLen i j want (o :: rest))) pd) (hiDst ((o :: rest).take (grpLen i j want (o :: rest))) pd)).bind fun ed =>
            match e.get d with
            | some (.v (.bool b)) =>
              bif b == want then
                (bOps all n i ((o :: rest).take (grpLen i j want (o :: rest))) ((j, want) :: strip) e H).bind fun r => (aev r.1 (if want then x else y)).bind fun v => (setE ed pd v).bind fun e' => bOps all n (i + grpLen i j want (o :: rest) + 1) rest' strip e' r.2
              else (aev ed (if want then y else x)).bind fun v => (setE ed pd v).bind fun e' => bOps all n (i + grpLen i j want (o :: rest) + 1) rest' strip e' H
            | _ => none
          else none
        | _, _, _ => none
      | [] => none
end
section
variable {P : Program} {G : Globs} {bc : BCall} {call : CallF} {W : World}
theorem aOps_step {all : List Oper} {n i : Nat} {o : Oper} {rest : List Oper} {strip : List (Nat × Bool)} {eR : Env} {w : World} {σ : Type} {k : Env → World → Option σ} (hg : o.guard = none ∨ ∃ j want, o.guard = some (j, want) ∧ inStrip j want strip = true) :
    aOps P call all (n + 1) i (o :: rest) strip eR w k = aOp P call o eR w fun v w => aOps P call all n (i + 1) rest strip (eR.put o.dst v) w k := by
  rcases hg with hg | ⟨j, want, hg, hs⟩
  · simp only [aOps, hg]
  · simp only [aOps, hg, hs, if_true]
theorem bOps_ok (hG : GlobOk G W) (hC : CallB P call W bc) {all : List Oper} : ∀ (n i : Nat) (ops : List Oper) (strip : List (Nat × Bool)) (e : AEnv) (H : AH) (e' : AEnv) (H' : AH), bOps P G bc all n i ops strip e H = some (e', H') →
    ∀ (ρ : Rho) (w : World) (eR : Env), Rel W ρ H w → EnvR ρ e eR → ∃ ρ' w' eR', RhoLe ρ ρ' ∧ Rel W ρ' H' w' ∧ EnvR ρ' e' eR' ∧ ∀ {σ : Type} (k : Env → World → Option σ), aOps P call all n i ops strip eR w k = k eR' w' := by
  intro n
  induction n with
  | zero => intro i ops strip e H e' H' h; cases h
  | succ n ih =>
    intro i ops strip e H e' H' h ρ w eR r hE
    cases ops with
    | nil => cases h; exact ⟨ρ, w, eR, RhoLe.refl _, r, hE, fun k => rfl⟩
    | cons o rest =>
      have plain : (o.guard = none ∨ ∃ j want, o.guard = some (j, want) ∧ inStrip j want strip = true) → ((bOp P G bc o e H).bind fun r => (putE e o.dst r.1).bind fun e' => bOps P G bc all n (i + 1) rest strip e' r.2) = some (e', H') →
          ∃ ρ' w' eR', RhoLe ρ ρ' ∧ Rel W ρ' H' w' ∧ EnvR ρ' e' eR' ∧ ∀ {σ : Type} (k : Env → World → Option σ), aOps P call all (n + 1) i (o :: rest) strip eR w k = k eR' w' := by
        intro hg h
        simp only [Option.bind_eq_some_iff] at h
        obtain ⟨⟨v, H1⟩, h1, e1, h2, h3⟩ := h
        obtain ⟨ρ1, V, w1, l1, r1, v1, n1⟩ := bOp_ok r hG hC hE h1
        obtain ⟨ρ2, w2, eR2, l2, r2, E2, n2⟩ := ih _ _ _ _ _ _ _ h3 ρ1 w1 _ r1 ((hE.mono l1).put v1 h2)
        exact ⟨ρ2, w2, eR2, l1.trans l2, r2, E2, fun k => by rw [aOps_step hg, n1, n2]⟩
      unfold bOps at h
      cases hgd : o.guard with
      | none => rw [hgd] at h; exact plain (.inl hgd) h
      | some jw =>
        obtain ⟨j, want⟩ := jw
        rw [hgd] at h
        simp only at h
        cases hs : inStrip j want strip with
        | true => rw [hs] at h; exact plain (.inr ⟨j, want, hgd, hs⟩) h
        | false =>
          rw [hs] at h
          simp only [cond_false] at h
          generalize hm : grpLen i j want (o :: rest) = m at h
          split at h
          · rename_i p rest' hdr
            split at h
            · rename_i c x y d pd hop hdst hpd
              cases hcd : (Nat.beq c d && guardIn p strip) with
              | false => rw [hcd] at h; cases h
              | true =>
                rw [hcd] at h
                simp only [cond_true, Option.bind_eq_some_iff] at h
                simp only [Bool.and_eq_true, Nat.beq_eq] at hcd
                obtain ⟨ed, h1, h2⟩ := h
                have hED := hE.drop h1
                have real : ∀ {σ : Type} (k : Env → World → Option σ) (b : Bool), eR d = some (.bool b) → aOps P call all (n + 1) i (o :: rest) strip eR w k =
                    (if b = want then aOps P call all n i ((o :: rest).take m) ((j, want) :: strip) eR w fun e' w' => (ev e' (if want then x else y)).bind fun v => some (v, w')
                      else (ev (eR.drop (loDst ((o :: rest).take m) pd) (hiDst ((o :: rest).take m) pd)) (if want then y else x)).bind fun v => some (v, w)).bind fun r =>
                    aOps P call all n (i + m + 1) rest' strip ((eR.drop (loDst ((o :: rest).take m) pd) (hiDst ((o :: rest).take m) pd)).set pd r.1) r.2 k := by
                  intro σ k b hb
                  rw [aOps]
                  simp only [hgd, hs, Bool.false_eq_true, if_false, hm, hdr, hop, hdst, hpd, hcd, and_self, if_true, hb]
                  simp only [Option.ebind_eq, Option.bind_some, asB]
                split at h2
                · rename_i b hbd
                  obtain ⟨B, b1, b2⟩ := hE d _ hbd
                  simp only [g, Option.some.injEq] at b1
                  subst b1
                  cases hbw : (b == want) with
                  | true =>
                    rw [hbw] at h2
                    have hbw' : b = want := by simpa using hbw
                    simp only [cond_true, Option.bind_eq_some_iff] at h2
                    obtain ⟨⟨e1, H1⟩, h3, v, h4, e2, h5, h6⟩ := h2
                    obtain ⟨ρ1, w1, eR1, l1, r1, E1, n1⟩ := ih _ _ _ _ _ _ _ h3 ρ w eR r hE
                    obtain ⟨V, v1, v2⟩ := aev_ok E1 h4
                    obtain ⟨ρ2, w2, eR2, l2, r2, E2, n2⟩ := ih _ _ _ _ _ _ _ h6 ρ1 w1 _ r1 ((hED.mono l1).set v1 h5)
                    refine ⟨ρ2, w2, eR2, l1.trans l2, r2, E2, fun k => ?_⟩
                    rw [real k b b2, if_pos hbw', n1, v2]
                    exact n2 k
                  | false =>
                    rw [hbw] at h2
                    have hbw' : ¬ b = want := by simpa using hbw
                    simp only [cond_false, Option.bind_eq_some_iff] at h2
                    obtain ⟨v, h4, e2, h5, h6⟩ := h2
                    obtain ⟨V, v1, v2⟩ := aev_ok hED h4
                    obtain ⟨ρ2, w2, eR2, l2, r2, E2, n2⟩ := ih _ _ _ _ _ _ _ h6 ρ w _ r (hED.set v1 h5)
                    refine ⟨ρ2, w2, eR2, l2, r2, E2, fun k => ?_⟩
                    rw [real k b b2, if_neg hbw', v2]
                    exact n2 k
                · cases h2
            · cases h
          · cases h
end
/-! ### values that are the same -/
mutual
def beqV : Nat → Value → Value → Bool
  | _, .int k a, .int k' b => decide (k = k') && decide (a = b)
  | _, .bool a, .bool b => decide (a = b)
  | _, .string a, .string b => decide (a = b)
  | _, .pointer a, .pointer b => decide (a = b)
  | _, .slice a n c, .slice b n' c' => decide (a = b) && (Nat.beq n n' && Nat.beq c c')
  | _, .nilIface, .nilIface => true
  | _, .nilFunc, .nilFunc => true
  | n + 1, .iface t a, .iface u b => Nat.beq t u && beqV n a b
  | n + 1, .agg a, .agg b => beqVs n a.toList b.toList
  | _, _, _ => false
def beqVs : Nat → List Value → List Value → Bool
  | _, [], [] => true
  | n + 1, a :: r, b :: s => beqV n a b && beqVs n r s
  | _, _, _ => false
end
theorem beq_ok : ∀ (n : Nat), (∀ a b, beqV n a b = true → a = b) ∧ ∀ r s, beqVs n r s = true → r = s := by
  intro n
  induction n with
  | zero =>
    constructor
    · intro a b h
      cases a <;> cases b <;> simp only [beqV] at h <;> first | (cases h; done) | skip
      all_goals try simp only [Bool.and_eq_true, decide_eq_true_eq, Nat.beq_eq] at h
      all_goals first | rfl | (obtain ⟨rfl, rfl, rfl⟩ := h; rfl) | (obtain ⟨rfl, rfl⟩ := h; rfl) | (subst h; rfl)
    · intro r s h
      cases r <;> cases s <;> simp only [beqVs] at h <;> first | rfl | cases h
  | succ n ih =>
    constructor
    · intro a b h
      cases a <;> cases b <;> simp only [beqV] at h <;> first | (cases h; done) | skip
      all_goals try simp only [Bool.and_eq_true, decide_eq_true_eq, Nat.beq_eq] at h
      all_goals first
        | rfl
        | (obtain ⟨rfl, h2⟩ := h; rw [ih.1 _ _ h2]; done)
        | (have h2 := ih.2 _ _ h; congr 1; exact Array.ext' h2)
        | (obtain ⟨rfl, rfl, rfl⟩ := h; rfl)
        | (obtain ⟨rfl, rfl⟩ := h; rfl)
        | (subst h; rfl)
    · intro r s h
      cases r with
      | nil => cases s with | nil => rfl | cons b s => simp only [beqVs] at h; cases h
      | cons a r =>
        cases s with
        | nil => simp only [beqVs] at h; cases h
        | cons b s =>
          simp only [beqVs, Bool.and_eq_true] at h
          rw [ih.1 _ _ h.1, ih.2 _ _ h.2]
def beqCap : Cap → Cap → Bool
  | .is a, .is b => Nat.beq a b
  | .less a, .less b => Nat.beq a b
  | _, _ => false
def beqA : AV → AV → Bool
  | .v a, .v b => beqV 100 a b
  | .ptr k o, .ptr k' o' => Nat.beq k k' && Nat.beq o o'
  | .sl k o n c, .sl k' o' n' c' => Nat.beq k k' && (Nat.beq o o' && (Nat.beq n n' && beqCap c c'))
  | .ifc t a, .ifc u b => Nat.beq t u && beqA a b
  | _, _ => false
theorem beqA_ok : ∀ {a b : AV}, beqA a b = true → a = b
  | .v a, b, h => by
    cases b <;> simp only [beqA] at h <;> first | (cases h; done) | skip
    rw [(beq_ok 100).1 _ _ h]
  | .ptr k o, b, h => by
    cases b <;> simp only [beqA] at h <;> first | (cases h; done) | skip
    simp only [Bool.and_eq_true, Nat.beq_eq] at h
    obtain ⟨rfl, rfl⟩ := h
    rfl
  | .sl k o n c, b, h => by
    cases b <;> simp only [beqA] at h <;> first | (cases h; done) | skip
    simp only [Bool.and_eq_true, Nat.beq_eq] at h
    obtain ⟨rfl, rfl, rfl, h⟩ := h
    rename_i c'
    cases c <;> cases c' <;> simp only [beqCap] at h <;> first | (cases h; done) | skip
    all_goals rw [Nat.eq_of_beq_eq_true h]
  | .ifc t a, b, h => by
    cases b <;> simp only [beqA] at h <;> first | (cases h; done) | skip
    simp only [Bool.and_eq_true, Nat.beq_eq] at h
    obtain ⟨rfl, h⟩ := h
    rw [beqA_ok h]
  | .map k, b, h => by cases b <;> simp only [beqA] at h <;> cases h
  | .e0 k j, b, h => by cases b <;> simp only [beqA] at h <;> cases h
  | .fn f a l, b, h => by cases b <;> simp only [beqA] at h <;> cases h
  | .agg l, b, h => by cases b <;> simp only [beqA] at h <;> cases h
  | .tup l, b, h => by cases b <;> simp only [beqA] at h <;> cases h
end Go.Sh.Ev
