/- The layer 'Sh': closed runs: regions that draw; code; functions; whole runs. Conditions: those of each statement. -/
import Derived.Test.YtkghbcadnbojgaaGreatDoorShEv6
namespace Go.Sh.Ev
open Go Go.RowKit
set_option linter.unusedVariables false
set_option linter.unusedSimpArgs false

/-! ### regions that draw and hold calls or stores -/
structure BL where
  before : AH
  after : AH
  op : Oper
  e : AEnv
  g : Bool
  v : AV
section
variable (P : Program) (G : Globs) (bc : BCall)
noncomputable def bGuard (all : List Oper) (o : Oper) (e : AEnv) : Option Bool := match o.guard with
  | none => some true
  | some (j, want) => (dstOf all j).ob fun d => match e d with
    | some (.v x) => some (wantedV want x)
    | _ => none
noncomputable def flatNext (o : Oper) (e : AEnv) (H : AH) (g : Bool) (log : List BL) (k : AEnv → AH → List BL → Option (AEnv × AH × List BL)) (v : AV) (H' : AH) : Option (AEnv × AH × List BL) := k (putE e o.dst v) H' (log ++ [⟨H, H', o, e, g, v⟩])
noncomputable def bFlat (all : List Oper) : List Oper → AEnv → AH → List BL → Option (AEnv × AH × List BL)
  | [], e, H, log => some (e, H, log)
  | o :: rest, e, H, log => (bGuard all o e).ob fun g =>
      (bif g then bOp P G bc o e H else some (.v undef, H)).ob (Prod.rec (flatNext o e H g log (bFlat all rest)))
noncomputable def flatEnd (ps : List (Nat × Nat)) (chk : List BL → List (Nat × Nat) → Bool) (e : AEnv) (H : AH) (log : List BL) : Option (AEnv × AH) := bif chk log ps then some (e, H) else none
noncomputable def bChk (x : BL) (H : AH) : Bool := bif x.g then (match x.op.op with
  | .load t a => match (aev x.e a).ob fun a => bLoad P G H t a with
    | some v => beqA v x.v
    | none => false
  | _ => false) else true
noncomputable def bChkAll (log : List BL) : List (Nat × Nat) → Bool
  | [] => true
  | (r, m) :: rest => (match log[r]?, log[m]? with
    | some x, some y => bChk P G x y.before && bChk P G x y.after
    | _, _ => false) && bChkAll log rest
noncomputable def bRegion (nt : Nat) (ops : List Oper) (draw : Bool) (e : AEnv) (H : AH) : Option (AEnv × AH) :=
  bif regionOk nt ops then (match draw with
    | false => bOps P G bc ops (2 * ops.length + 1) 0 ops [] e H
    | true => bif drawOk P ops then bOps P G bc ops (2 * ops.length + 1) 0 ops [] e H
      else bif flatOk P ops then (bFlat P G bc ops ops e H []).ob (Prod.rec fun e => Prod.rec (flatEnd (loose P ops) (bChkAll P G) e)) else none)
  else none
end
section
variable {P : Program} {G : Globs} {bc : BCall} {call : CallF} {W : World}
/-- one entry beside the real one -/
noncomputable def LogOk (P : Program) (call : CallF) (W : World) (ρ : Rho) (x : BL) (y : LogE) : Prop :=
  Live W ρ x.before y.before ∧ Live W ρ x.after y.after ∧ ∃ eR V, EnvR ρ x.e eR ∧ g ρ x.v = some V ∧ ∀ W', y.chk W' = if x.g = true then (aOp P call x.op eR W' fun v _ => some v) = some V else True
noncomputable def LogsOk (P : Program) (call : CallF) (W : World) (ρ : Rho) : List BL → List LogE → Prop
  | [], [] => True
  | x :: r, y :: s => LogOk P call W ρ x y ∧ LogsOk P call W ρ r s
  | _, _ => False
theorem LogOk.mono {ρ ρ' : Rho} (h : RhoLe ρ ρ') {x : BL} {y : LogE} (l : LogOk P call W ρ x y) : LogOk P call W ρ' x y := by
  obtain ⟨l1, l2, eR, V, l3, l4, l5⟩ := l
  exact ⟨l1.mono h, l2.mono h, eR, V, l3.mono h, g_mono h _ _ l4, l5⟩
theorem LogsOk.mono {ρ ρ' : Rho} (h : RhoLe ρ ρ') : ∀ {x : List BL} {y : List LogE}, LogsOk P call W ρ x y → LogsOk P call W ρ' x y
  | [], [], _ => trivial
  | x :: r, y :: s, l => ⟨l.1.mono h, LogsOk.mono h l.2⟩
  | [], _ :: _, l => l.elim
  | _ :: _, [], l => l.elim
theorem LogsOk.append {ρ : Rho} : ∀ {x x' : List BL} {y y' : List LogE}, LogsOk P call W ρ x y → LogsOk P call W ρ x' y' → LogsOk P call W ρ (x ++ x') (y ++ y')
  | [], x', [], y', _, l => l
  | x :: r, x', y :: s, y', l, l' => ⟨l.1, LogsOk.append l.2 l'⟩
  | [], _, _ :: _, _, l, _ => l.elim
  | _ :: _, _, [], _, l, _ => l.elim
theorem LogsOk.get {ρ : Rho} : ∀ {x : List BL} {y : List LogE}, LogsOk P call W ρ x y → ∀ {i : Nat} {a : BL}, x[i]? = some a → ∃ b, y[i]? = some b ∧ LogOk P call W ρ a b
  | [], [], _, i, a, h => by simp at h
  | x :: r, y :: s, l, 0, a, h => by simp at h; subst h; exact ⟨y, rfl, l.1⟩
  | x :: r, y :: s, l, i + 1, a, h => by simp at h; obtain ⟨b, h1, h2⟩ := LogsOk.get l.2 h; exact ⟨b, by simpa using h1, h2⟩
  | [], _ :: _, l, _, _, _ => l.elim
  | _ :: _, [], l, _, _, _ => l.elim
theorem bChk_ok (hG : GlobOk G W) {ρ : Rho} {x : BL} {y : LogE} (l : LogOk P call W ρ x y) {H : AH} {w : World} (hl : Live W ρ H w) (h : bChk P G x H = true) : y.chk w := by
  obtain ⟨_, _, eR, V, hE, hv, hc⟩ := l
  rw [hc]
  unfold bChk at h
  cases hg : x.g with
  | false => simp
  | true =>
    rw [hg] at h
    simp only [cond_true] at h
    simp only [if_true]
    split at h
    · rename_i t a hop
      split at h
      · rename_i v' hv'
        simp only [Option.ob_eq, Option.bind_eq_some_iff] at hv'
        obtain ⟨av, h1, h2⟩ := hv'
        have := beqA_ok h
        subst this
        obtain ⟨A, a1, a2⟩ := aev_ok hE h1
        obtain ⟨V', v1, v2⟩ := bLoad_ok hl hG h2 a1
        rw [hv] at v1
        cases v1
        unfold aOp
        rw [hop]
        simp only [Option.ebind_eq]
        simp only [a2, Option.bind_some, v2]
      · cases h
    · cases h
theorem bChkAll_ok (hG : GlobOk G W) {ρ : Rho} {xs : List BL} {ys : List LogE} (l : LogsOk P call W ρ xs ys) : ∀ {ps : List (Nat × Nat)}, bChkAll P G xs ps = true → chkAll ys ps
  | [], _ => trivial
  | (r, m) :: rest, h => by
    simp only [bChkAll, Bool.and_eq_true] at h
    obtain ⟨h1, h2⟩ := h
    refine ⟨?_, bChkAll_ok hG l h2⟩
    split at h1
    · rename_i x y hx hy
      simp only [Bool.and_eq_true] at h1
      obtain ⟨x', e1, l1⟩ := l.get hx
      obtain ⟨y', e2, l2⟩ := l.get hy
      simp only [e1, e2]
      exact ⟨bChk_ok hG l1 l2.1 h1.1, bChk_ok hG l1 l2.2.1 h1.2⟩
    · cases h1
theorem bGuard_ok {ρ : Rho} {e : AEnv} {eR : Env} (hE : EnvR ρ e eR) {all : List Oper} {o : Oper} {b : Bool} (h : bGuard all o e = some b) : guardV all o eR = some b := by
  unfold bGuard at h
  unfold guardV
  split at h
  · rename_i hg; simp only [hg]; exact h
  · rename_i j want hg
    simp only [hg]
    simp only [Option.ob_eq, Option.bind_eq_some_iff] at h
    obtain ⟨d, h1, h2⟩ := h
    rw [h1, Option.bind_some]
    split at h2
    · rename_i x hx
      obtain ⟨V, v1, v2⟩ := hE d _ hx
      simp only [g, Option.some.injEq] at v1
      subst v1
      rw [v2]
      exact h2
    · cases h2
theorem bFlat_ok (hG : GlobOk G W) (hC : CallB P call W bc) {all : List Oper} : ∀ (l : List Oper) (e : AEnv) (H : AH) (log : List BL) (e' : AEnv) (H' : AH) (log' : List BL), bFlat P G bc all l e H log = some (e', H', log') →
    ∀ (ρ : Rho) (w : World) (eR : Env) (logR : List LogE), Rel W ρ H w → EnvR ρ e eR → LogsOk P call W ρ log logR → ∃ ρ' w' eR' logR', RhoLe ρ ρ' ∧ Rel W ρ' H' w' ∧ EnvR ρ' e' eR' ∧ LogsOk P call W ρ' log' logR' ∧
      ∀ {σ : Type} (k : Env → World → List LogE → Option σ), aFlat P call all l eR w logR k = k eR' w' logR' := by
  intro l
  induction l with
  | nil => intro e H log e' H' log' h ρ w eR logR r hE hL; cases h; exact ⟨ρ, w, eR, logR, RhoLe.refl _, r, hE, hL, fun k => rfl⟩
  | cons o rest ih =>
    intro e H log e' H' log' h ρ w eR logR r hE hL
    simp only [bFlat, Option.ob_eq, Option.bind_eq_some_iff] at h
    obtain ⟨b, h1, ⟨v, H1⟩, h2, h4⟩ := h
    have hgd := bGuard_ok hE h1
    have step : ∃ ρ1 V w1, RhoLe ρ ρ1 ∧ Rel W ρ1 H1 w1 ∧ g ρ1 v = some V ∧ (if b = true then aOp P call o eR w fun v w' => some (v, w') else some (undef, w)) = some (V, w1) := by
      cases b with
      | true =>
        obtain ⟨ρ1, V, w1, l1, r1, v1, n1⟩ := bOp_ok r hG hC hE h2
        exact ⟨ρ1, V, w1, l1, r1, v1, by simp [n1]⟩
      | false =>
        cases h2
        exact ⟨ρ, undef, w, RhoLe.refl _, r, rfl, by simp⟩
    obtain ⟨ρ1, V, w1, l1, r1, v1, n1⟩ := step
    have hL1 : LogsOk P call W ρ1 (log ++ [⟨H, H1, o, e, b, v⟩]) (logR ++ [⟨w, w1, fun W' => if b = true then (aOp P call o eR W' fun v _ => some v) = some V else True⟩]) :=
      (hL.mono l1).append ⟨⟨r.toLive.mono l1, r1.toLive, eR, V, hE.mono l1, v1, fun W' => rfl⟩, trivial⟩
    obtain ⟨ρ2, w2, eR2, logR2, l2, r2, E2, L2, n2⟩ := ih _ _ _ _ _ _ h4 ρ1 w1 _ _ r1 ((hE.mono l1).put v1) hL1
    refine ⟨ρ2, w2, eR2, logR2, l1.trans l2, r2, E2, L2, fun k => ?_⟩
    rw [aFlat, hgd, Option.bind_some, n1, Option.bind_some]
    exact n2 k
theorem bRegion_ok (hG : GlobOk G W) (hC : CallB P call W bc) {rs : List Nat} {nt id : Nat} {ops : Array Oper} {draw : Bool} {x : Ann} {c : Ctx} {e : AEnv} {H : AH} {e' : AEnv} {H' : AH} (h : bRegion P G bc nt ops.toList draw e H = some (e', H'))
    {ρ : Rho} {w : World} {eR : Env} (r : Rel W ρ H w) (hE : EnvR ρ e eR) : ∃ ρ' w' eR', RhoLe ρ ρ' ∧ Rel W ρ' H' w' ∧ EnvR ρ' e' eR' ∧ ∀ (k : Env → World → Option Res), aCode P call rs nt (.region id ops draw) x c eR w k = k eR' w' := by
  unfold bRegion at h
  cases hr : regionOk nt ops.toList with
  | false => rw [hr] at h; cases h
  | true =>
    rw [hr] at h
    simp only [cond_true] at h
    cases draw with
    | false =>
      obtain ⟨ρ', w', eR', h1, h2, h3, h4⟩ := bOps_ok hG hC _ _ _ _ _ _ _ _ h ρ w eR r hE
      exact ⟨ρ', w', eR', h1, h2, h3, fun k => by simp only [aCode, hr, if_true]; exact h4 k⟩
    | true =>
      simp only at h
      cases hd : drawOk P ops.toList with
      | true =>
        rw [hd] at h
        simp only [cond_true] at h
        obtain ⟨ρ', w', eR', h1, h2, h3, h4⟩ := bOps_ok hG hC _ _ _ _ _ _ _ _ h ρ w.drew eR r.drew hE
        exact ⟨ρ', w', eR', h1, h2, h3, fun k => by simp only [aCode, hr, hd, if_true]; exact h4 k⟩
      | false =>
        rw [hd] at h
        simp only [cond_false] at h
        cases hf : flatOk P ops.toList with
        | false => rw [hf] at h; cases h
        | true =>
          rw [hf] at h
          simp only [cond_true, Option.ob_eq, Option.bind_eq_some_iff] at h
          obtain ⟨⟨e1, H1, log⟩, h1, h2⟩ := h
          simp only [flatEnd] at h2
          cases hc : bChkAll P G log (loose P ops.toList) with
          | false => rw [hc] at h2; cases h2
          | true =>
            rw [hc] at h2
            cases h2
            obtain ⟨ρ', w', eR', logR', l1, r1, E1, L1, n1⟩ := bFlat_ok hG hC _ _ _ _ _ _ _ h1 ρ w.drew eR [] r.drew hE trivial
            refine ⟨ρ', w', eR', l1, r1, E1, fun k => ?_⟩
            simp only [aCode, hr, hd, hf, if_true, Bool.false_eq_true, if_false]
            rw [n1]
            unfold chkThen
            rw [if_pos (bChkAll_ok hG L1 hc)]
end

/-! ### code -/
inductive BRes where
  | norm (e : AEnv) (H : AH)
  | exit (id : Nat) (vs : List AV) (H : AH)
  | ret (vs : List AV) (H : AH)
inductive AR where
  | norm (vs : List AV) (H : AH)
  | exit (id : Nat) (vs : List AV) (H : AH)
  | ret (vs : List AV) (H : AH)
noncomputable def loopNext (k : List AV → AH → Option AR) (x : Option AR) : Option AR := match x with
  | some (.norm vs' H') => k vs' H'
  | r => r
noncomputable def bLoop (f : List AV → AH → Option AR) (n : Nat) : List AV → AH → Option AR := Nat.rec (motive := fun _ => List AV → AH → Option AR) (fun _ _ => none) (fun _ rec vs H => loopNext rec (f vs H)) n
theorem bLoop_succ (f : List AV → AH → Option AR) (n : Nat) (vs : List AV) (H : AH) : bLoop f (n + 1) vs H = loopNext (bLoop f n) (f vs H) := rfl
/-- the end of a piece of code, as a list of slots -/
noncomputable def ending (K : List Nat) : BRes → Option AR
  | .norm e H => (agets e K).ob fun vs => some (.norm vs H)
  | .exit id vs H => some (.exit id vs H)
  | .ret vs H => some (.ret vs H)
/-- .. as an environment -/
noncomputable def opening (K : List Nat) : AR → Option BRes
  | .norm vs H => (mkE K vs).ob fun e => some (.norm e H)
  | .exit id vs H => some (.exit id vs H)
  | .ret vs H => some (.ret vs H)
noncomputable def AR.unblock (id : Nat) : AR → AR
  | .exit i vs H => bif Nat.beq i id then .norm vs H else .exit i vs H
  | r => r
section
variable (P : Program) (G : Globs) (bc : BCall) (fuel : Nat) (rs : List Nat) (nt : Nat)
abbrev CodeRec := Ann → Ctx → AEnv → AH → Option BRes
noncomputable def kRegion (ops : Array Oper) (draw : Bool) (e : AEnv) (H : AH) : Option BRes := (bRegion P G bc nt ops.toList draw e H).ob (Prod.rec fun e H => some (.norm e H))
noncomputable def kThen (f : AEnv → AH → Option BRes) (x : Option BRes) : Option BRes := match x with
  | some (.norm e' H') => f e' H'
  | r => r
noncomputable def kSeq (a b : CodeRec) (x : Ann) (c : Ctx) (e : AEnv) (H : AH) : Option BRes := match x with
  | .s x y => kThen (b y c) (a x c e H)
  | _ => none
noncomputable def kTest (t : Operand) (e : AEnv) (f : Bool → Option BRes) : Option BRes := match aev e t with
  | some (.v (.bool t)) => f t
  | _ => none
noncomputable def kCond (t : Operand) (a b : CodeRec) (x : Ann) (c : Ctx) (e : AEnv) (H : AH) : Option BRes := match x with
  | .c x y => kTest t e fun q => bif q then a x c e H else b y c e H
  | .j K x y => kTest t e fun q => ((bif q then a x c e H else b y c e H).ob (ending K)).ob (opening K)
  | _ => none
noncomputable def kBlock (id : Nat) (a : CodeRec) (x : Ann) (c : Ctx) (e : AEnv) (H : AH) : Option BRes := match x with
  | .b K x => ((a x ((id, K) :: c) e H).ob (ending K)).ob fun r => opening K (r.unblock id)
  | _ => none
noncomputable def kRound (K : List Nat) (a : AEnv → AH → Option BRes) (vs : List AV) (H : AH) : Option AR := (mkE K vs).ob fun e => (a e H).ob (ending K)
noncomputable def kOut : AR → Option BRes
  | .norm _ _ => none
  | .exit id vs H => some (.exit id vs H)
  | .ret vs H => some (.ret vs H)
noncomputable def kLoop (a : CodeRec) (x : Ann) (c : Ctx) (e : AEnv) (H : AH) : Option BRes := match x with
  | .l K x => (agets e K).ob fun vs => (bLoop (kRound K (a x c)) fuel vs H).ob kOut
  | _ => none
noncomputable def kExit (id : Nat) (c : Ctx) (e : AEnv) (H : AH) : Option BRes := (Ctx.keep c id).ob fun K => (agets e K).ob fun vs => some (.exit id vs H)
noncomputable def kRet (e : AEnv) (H : AH) : Option BRes := (agets e rs).ob fun vs => some (.ret vs H)
noncomputable def kSkip (e : AEnv) (H : AH) : Option BRes := some (.norm e H)
noncomputable def bCode (c : Code) : CodeRec := Code.rec (motive := fun _ => CodeRec) (fun _ _ => kSkip) (fun _ ops draw _ _ => kRegion P G bc nt ops draw) (fun _ _ a b => kSeq a b) (fun t _ _ a b => kCond t a b) (fun id _ a => kBlock id a) (fun _ a => kLoop fuel a)
  (fun _ _ _ _ _ _ _ _ _ _ => none) (fun id _ c => kExit id c) (fun _ _ _ _ _ _ => none) (fun _ _ _ => kSkip) (fun _ _ _ _ _ => none) (fun _ _ => kRet rs) (fun _ _ _ _ _ => none) c
theorem bCode_seq (a b : Code) : bCode P G bc fuel rs nt (.seq a b) = kSeq (bCode P G bc fuel rs nt a) (bCode P G bc fuel rs nt b) := rfl
theorem bCode_cond (t : Operand) (a b : Code) : bCode P G bc fuel rs nt (.cond t a b) = kCond t (bCode P G bc fuel rs nt a) (bCode P G bc fuel rs nt b) := rfl
theorem bCode_block (id : Nat) (a : Code) : bCode P G bc fuel rs nt (.block id a) = kBlock id (bCode P G bc fuel rs nt a) := rfl
theorem bCode_loop (a : Code) : bCode P G bc fuel rs nt (.loop a) = kLoop fuel (bCode P G bc fuel rs nt a) := rfl
end
section
variable {P : Program} {G : Globs} {bc : BCall} {call : CallF} {W : World}
/-- what a piece of code has come to -/
noncomputable def CodeTo (W : World) (ρ : Rho) (r : BRes) (F : (Env → World → Option Res) → Option Res) : Prop := match r with
  | .norm e' H' => ∃ ρ' w' eR', RhoLe ρ ρ' ∧ Rel W ρ' H' w' ∧ EnvR ρ' e' eR' ∧ ∀ k, F k = k eR' w'
  | .exit id vs H' => ∃ ρ' w' us, RhoLe ρ ρ' ∧ Rel W ρ' H' w' ∧ gs ρ' vs = some us ∧ ∀ k, F k = some (.exit id us w')
  | .ret vs H' => ∃ ρ' w' us, RhoLe ρ ρ' ∧ Rel W ρ' H' w' ∧ gs ρ' vs = some us ∧ ∀ k, F k = some (.ret us w')
noncomputable def ResTo (W : World) (ρ : Rho) (r : AR) (x : Option Res) : Prop := match r with
  | .norm vs H' => ∃ ρ' w' us, RhoLe ρ ρ' ∧ Rel W ρ' H' w' ∧ gs ρ' vs = some us ∧ x = some (.norm us w')
  | .exit id vs H' => ∃ ρ' w' us, RhoLe ρ ρ' ∧ Rel W ρ' H' w' ∧ gs ρ' vs = some us ∧ x = some (.exit id us w')
  | .ret vs H' => ∃ ρ' w' us, RhoLe ρ ρ' ∧ Rel W ρ' H' w' ∧ gs ρ' vs = some us ∧ x = some (.ret us w')
theorem ending_ok {ρ : Rho} {K : List Nat} {r : BRes} {q : AR} {F : (Env → World → Option Res) → Option Res} (h : CodeTo W ρ r F) (hq : ending K r = some q) : ResTo W ρ q (F fun e w => (gets e K).ebind fun vs => some (.norm vs w)) := by
  cases r with
  | norm e H =>
    simp only [ending, Option.ob_eq, Option.bind_eq_some_iff, Option.some.injEq] at hq
    obtain ⟨vs, h1, rfl⟩ := hq
    obtain ⟨ρ', w', eR', l, r', E, n⟩ := h
    obtain ⟨us, h2, h3⟩ := agets_ok E h1
    exact ⟨ρ', w', us, l, r', h2, by rw [n, h3]⟩
  | exit id vs H =>
    cases hq
    obtain ⟨ρ', w', us, l, r', E, n⟩ := h
    exact ⟨ρ', w', us, l, r', E, n _⟩
  | ret vs H =>
    cases hq
    obtain ⟨ρ', w', us, l, r', E, n⟩ := h
    exact ⟨ρ', w', us, l, r', E, n _⟩
theorem opening_ok {ρ : Rho} {K : List Nat} {r : AR} {q : BRes} {x : Option Res} (h : ResTo W ρ r x) (hq : opening K r = some q) : CodeTo W ρ q fun k => x.bind fun r => r.cont fun vs w => k (ofList 0 K vs) w := by
  cases r with
  | norm vs H =>
    simp only [opening, Option.ob_eq, Option.bind_eq_some_iff, Option.some.injEq] at hq
    obtain ⟨e, h1, rfl⟩ := hq
    obtain ⟨ρ', w', us, l, r', E, rfl⟩ := h
    exact ⟨ρ', w', _, l, r', mkE_ok (pre := []) h1 E, fun k => rfl⟩
  | exit id vs H =>
    cases hq
    obtain ⟨ρ', w', us, l, r', E, rfl⟩ := h
    exact ⟨ρ', w', us, l, r', E, fun k => rfl⟩
  | ret vs H =>
    cases hq
    obtain ⟨ρ', w', us, l, r', E, rfl⟩ := h
    exact ⟨ρ', w', us, l, r', E, fun k => rfl⟩
theorem unblock_ok {ρ : Rho} {id : Nat} {r : AR} {x : Option Res} (h : ResTo W ρ r x) : ResTo W ρ (r.unblock id) (x.bind fun r => some (r.unblock id)) := by
  cases r with
  | norm vs H => obtain ⟨ρ', w', us, l, r', E, rfl⟩ := h; exact ⟨ρ', w', us, l, r', E, rfl⟩
  | ret vs H => obtain ⟨ρ', w', us, l, r', E, rfl⟩ := h; exact ⟨ρ', w', us, l, r', E, rfl⟩
  | exit i vs H =>
    obtain ⟨ρ', w', us, l, r', E, rfl⟩ := h
    cases hb : Nat.beq i id with
    | true =>
      have e := Nat.eq_of_beq_eq_true hb
      have e2 : (AR.exit i vs H).unblock id = .norm vs H := by simp only [AR.unblock, hb, cond_true]
      rw [e2]
      exact ⟨ρ', w', us, l, r', E, by simp [Res.unblock, e]⟩
    | false =>
      have e : ¬ i = id := fun e => by rw [e, Nat.beq_refl] at hb; cases hb
      have e2 : (AR.exit i vs H).unblock id = .exit i vs H := by simp only [AR.unblock, hb, cond_false]
      rw [e2]
      exact ⟨ρ', w', us, l, r', E, by simp [Res.unblock, e]⟩
theorem bLoop_ok {f : List AV → AH → Option AR} {F : List Value → World → Option Res} (hf : ∀ vs H r, f vs H = some r → ∀ ρ w us, Rel W ρ H w → gs ρ vs = some us → ResTo W ρ r (F us w)) :
    ∀ (n : Nat) (vs : List AV) (H : AH) (r : AR), bLoop f n vs H = some r → (∀ vs H, r ≠ .norm vs H) → ∀ ρ w us, Rel W ρ H w → gs ρ vs = some us → ResTo W ρ r (iter F us w) := by
  intro n
  induction n with
  | zero => intro vs H r h; cases h
  | succ n ih =>
    intro vs H r h hr ρ w us rel hus
    rw [bLoop_succ] at h
    unfold loopNext at h
    split at h
    · rename_i vs' H' hstep
      obtain ⟨ρ1, w1, us1, l1, r1, g1, e1⟩ := hf _ _ _ hstep ρ w us rel hus
      have := ih _ _ _ h hr ρ1 w1 us1 r1 g1
      have key : iter F us w = iter F us1 w1 ∨ True := .inr trivial
      cases r with
      | norm vs H => exact absurd rfl (hr vs H)
      | exit id vs H =>
        obtain ⟨ρ2, w2, us2, l2, r2, g2, e2⟩ := this
        exact ⟨ρ2, w2, us2, l1.trans l2, r2, g2, iter_of_rounds (.more e1 (rounds_of_iter e2))⟩
      | ret vs H =>
        obtain ⟨ρ2, w2, us2, l2, r2, g2, e2⟩ := this
        exact ⟨ρ2, w2, us2, l1.trans l2, r2, g2, iter_of_rounds (.more e1 (rounds_of_iter e2))⟩
    · rename_i hne
      have := hf _ _ _ h ρ w us rel hus
      cases r with
      | norm vs H => exact absurd rfl (hr vs H)
      | exit id vs H =>
        obtain ⟨ρ2, w2, us2, l2, r2, g2, e2⟩ := this
        exact ⟨ρ2, w2, us2, l2, r2, g2, iter_of_rounds (.exit e2)⟩
      | ret vs H =>
        obtain ⟨ρ2, w2, us2, l2, r2, g2, e2⟩ := this
        exact ⟨ρ2, w2, us2, l2, r2, g2, iter_of_rounds (.ret e2)⟩
theorem CodeTo.weak {ρ ρ' : Rho} (h : RhoLe ρ ρ') {r : BRes} {F : (Env → World → Option Res) → Option Res} (c : CodeTo W ρ' r F) : CodeTo W ρ r F := by
  cases r with
  | norm e H => obtain ⟨ρ1, w1, e1, l, r⟩ := c; exact ⟨ρ1, w1, e1, h.trans l, r⟩
  | exit id vs H => obtain ⟨ρ1, w1, e1, l, r⟩ := c; exact ⟨ρ1, w1, e1, h.trans l, r⟩
  | ret vs H => obtain ⟨ρ1, w1, e1, l, r⟩ := c; exact ⟨ρ1, w1, e1, h.trans l, r⟩
theorem CodeTo.same {ρ : Rho} {r : BRes} {F F' : (Env → World → Option Res) → Option Res} (c : CodeTo W ρ r F) (h : ∀ k, F' k = F k) : CodeTo W ρ r F' := by
  have : F' = F := funext h
  rw [this]; exact c
theorem bCode_ok (hG : GlobOk G W) (hC : CallB P call W bc) {fuel : Nat} {rs : List Nat} {nt : Nat} : ∀ (c : Code) (x : Ann) (ctx : Ctx) (e : AEnv) (H : AH) (r : BRes), bCode P G bc fuel rs nt c x ctx e H = some r →
    ∀ (ρ : Rho) (w : World) (eR : Env), Rel W ρ H w → EnvR ρ e eR → CodeTo W ρ r fun k => aCode P call rs nt c x ctx eR w k := by
  intro c
  induction c with
  | skip => intro x ctx e H r h ρ w eR rel hE; have h' : some (BRes.norm e H) = some r := h; clear h; cases x <;> (cases h'; exact ⟨ρ, w, eR, RhoLe.refl _, rel, hE, fun k => by simp only [aCode]⟩)
  | label l => intro x ctx e H r h ρ w eR rel hE; have h' : some (BRes.norm e H) = some r := h; clear h; cases x <;> (cases h'; exact ⟨ρ, w, eR, RhoLe.refl _, rel, hE, fun k => by simp only [aCode]⟩)
  | region id ops draw =>
    intro x ctx e H r h ρ w eR rel hE
    have h' : ((bRegion P G bc nt ops.toList draw e H).ob (Prod.rec fun e H => some (BRes.norm e H))) = some r := h
    simp only [Option.ob_eq, Option.bind_eq_some_iff] at h'
    obtain ⟨⟨e', H'⟩, h1, h2⟩ := h'
    have h3 : some (BRes.norm e' H') = some r := h2
    cases h3
    exact bRegion_ok hG hC h1 rel hE
  | seq a b iha ihb =>
    intro x ctx e H r h ρ w eR rel hE
    rw [bCode_seq] at h
    cases x with
    | s x y =>
      simp only [kSeq, kThen] at h
      split at h
      · rename_i e1 H1 h1
        obtain ⟨ρ1, w1, eR1, l1, r1, E1, n1⟩ := iha _ _ _ _ _ h1 ρ w eR rel hE
        refine ((ihb _ _ _ _ _ h ρ1 w1 eR1 r1 E1).weak l1).same fun k => ?_
        simp only [aCode]
        exact n1 _
      · rename_i hne
        have := iha _ _ _ _ _ h ρ w eR rel hE
        cases r with
        | norm e1 H1 => exact absurd h (hne e1 H1)
        | exit id vs H1 => obtain ⟨ρ1, w1, us, l1, r1, E1, n1⟩ := this; exact ⟨ρ1, w1, us, l1, r1, E1, fun k => by simp only [aCode]; exact n1 _⟩
        | ret vs H1 => obtain ⟨ρ1, w1, us, l1, r1, E1, n1⟩ := this; exact ⟨ρ1, w1, us, l1, r1, E1, fun k => by simp only [aCode]; exact n1 _⟩
    | _ => cases h
  | cond t a b iha ihb =>
    intro x ctx e H r h ρ w eR rel hE
    rw [bCode_cond] at h
    cases x with
    | c x y =>
      simp only [kCond, kTest] at h
      split at h
      · rename_i q hq
        obtain ⟨T, t1, t2⟩ := aev_ok hE hq
        simp only [g, Option.some.injEq] at t1
        subst t1
        cases q with
        | true => exact (iha _ _ _ _ _ h ρ w eR rel hE).same fun k => by simp only [aCode]; rw [t2]; rfl
        | false => exact (ihb _ _ _ _ _ h ρ w eR rel hE).same fun k => by simp only [aCode]; rw [t2]; rfl
      · cases h
    | j K x y =>
      simp only [kCond, kTest] at h
      split at h
      · rename_i q hq
        obtain ⟨T, t1, t2⟩ := aev_ok hE hq
        simp only [g, Option.some.injEq] at t1
        subst t1
        simp only [Option.ob_eq, Option.bind_eq_some_iff] at h
        obtain ⟨q2, ⟨q1, h1, h2⟩, h3⟩ := h
        cases q with
        | true => exact (opening_ok (ending_ok (iha _ _ _ _ _ h1 ρ w eR rel hE) h2) h3).same fun k => by simp only [aCode]; rw [t2]; rfl
        | false => exact (opening_ok (ending_ok (ihb _ _ _ _ _ h1 ρ w eR rel hE) h2) h3).same fun k => by simp only [aCode]; rw [t2]; rfl
      · cases h
    | _ => cases h
  | block id a iha =>
    intro x ctx e H r h ρ w eR rel hE
    rw [bCode_block] at h
    cases x with
    | b K x =>
      simp only [kBlock, Option.ob_eq, Option.bind_eq_some_iff] at h
      obtain ⟨q2, ⟨q1, h1, h2⟩, h3⟩ := h
      refine (opening_ok (unblock_ok (id := id) (ending_ok (iha _ _ _ _ _ h1 ρ w eR rel hE) h2)) h3).same fun k => ?_
      simp only [aCode, Option.bind_assoc]
      rfl
    | _ => cases h
  | loop a iha =>
    intro x ctx e H r h ρ w eR rel hE
    rw [bCode_loop] at h
    cases x with
    | l K x =>
      simp only [kLoop, Option.ob_eq, Option.bind_eq_some_iff] at h
      obtain ⟨vs, h1, q, h2, h3⟩ := h
      obtain ⟨us, u1, u2⟩ := agets_ok hE h1
      have hne : ∀ vs H, q ≠ .norm vs H := by
        intro vs H e
        subst e
        cases h3
      have key := bLoop_ok (F := fun vs w => aCode P call rs nt a x ctx (ofList 0 K vs) w fun e w => (gets e K).ebind fun vs => some (.norm vs w)) (W := W) (by
        intro vs H r hr ρ w us rel hus
        simp only [kRound, Option.ob_eq, Option.bind_eq_some_iff] at hr
        obtain ⟨e, h4, q, h5, h6⟩ := hr
        exact ending_ok (iha _ _ _ _ _ h5 ρ w _ rel (mkE_ok (pre := []) h4 hus)) h6) fuel vs H q h2 hne ρ w us rel u1
      cases q with
      | norm vs H => exact absurd rfl (hne vs H)
      | exit id vs H =>
        cases h3
        obtain ⟨ρ1, w1, us1, l1, r1, g1, e1⟩ := key
        exact ⟨ρ1, w1, us1, l1, r1, g1, fun k => by simp only [aCode]; rw [u2]; exact e1⟩
      | ret vs H =>
        cases h3
        obtain ⟨ρ1, w1, us1, l1, r1, g1, e1⟩ := key
        exact ⟨ρ1, w1, us1, l1, r1, g1, fun k => by simp only [aCode]; rw [u2]; exact e1⟩
    | _ => cases h
  | exit id =>
    intro x ctx e H r h ρ w eR rel hE
    have h' : ((Ctx.keep ctx id).ob fun K => (agets e K).ob fun vs => some (BRes.exit id vs H)) = some r := h
    simp only [Option.ob_eq, Option.bind_eq_some_iff, Option.some.injEq] at h'
    obtain ⟨K, h1, vs, h2, rfl⟩ := h'
    obtain ⟨us, u1, u2⟩ := agets_ok hE h2
    exact ⟨ρ, w, us, RhoLe.refl _, rel, u1, fun k => by simp only [aCode]; rw [h1, Option.bind_some, u2]⟩
  | ret =>
    intro x ctx e H r h ρ w eR rel hE
    have h' : ((agets e rs).ob fun vs => some (BRes.ret vs H)) = some r := h
    simp only [Option.ob_eq, Option.bind_eq_some_iff, Option.some.injEq] at h'
    obtain ⟨vs, h2, rfl⟩ := h'
    obtain ⟨us, u1, u2⟩ := agets_ok hE h2
    exact ⟨ρ, w, us, RhoLe.refl _, rel, u1, fun k => by simp only [aCode]; rw [u2]⟩
  | _ => intro x ctx e H r h; exact absurd h (by intro h; cases h)
end

/-! ### functions -/
section
variable (P : Program) (G : Globs) (bc : BCall) (fuel : Nat)
noncomputable def isDefer : Code → Bool
  | .region _ ops false => (deferOf ops.toList).isSome
  | _ => false
noncomputable def bBody (rs : List Nat) (nt : Nat) : Code → Ann → AEnv → AH → Option AR
  | .seq a b, .s x y, e, H => bif isDefer a then none else match bCode P G bc fuel rs nt a x [] e H with
    | some (.norm e' H') => bBody rs nt b y e' H'
    | some (.exit id vs H') => some (.exit id vs H')
    | some (.ret vs H') => some (.ret vs H')
    | none => none
  | c, x, e, H => (bCode P G bc fuel rs nt c x [] e H).ob (ending rs)
noncomputable def outA : List AV → AV
  | [v] => v
  | vs => mkTup vs
noncomputable def bLoads (H : AH) : List ResultVar → List AV → Option (List AV)
  | [], _ => some []
  | .tmp _ :: r, v :: vs => (bLoads H r vs).ob fun us => some (v :: us)
  | .cell _ t :: r, v :: vs => (bLoad P G H t v).ob fun u => (bLoads H r vs).ob fun us => some (u :: us)
  | _ :: _, [] => none
noncomputable def bFun (fn : Func) (ann : Ann) (as : List AV) (H : AH) : Option (AV × AH) := match fn.body with
  | some c => (mkE (List.range as.length) as).ob fun e => match tmpsOf fn.results.toList with
    | some rs => match bBody P G bc fuel rs fn.ntmps c ann e H with
      | some (.norm vs H') | some (.ret vs H') => some (outA vs, H')
      | _ => none
    | none => match bBody P G bc fuel (slotsOf fn.results.toList) fn.ntmps c ann e H with
      | some (.norm vs H') | some (.ret vs H') => (bLoads P G H' fn.results.toList vs).ob fun us => some (outA us, H')
      | _ => none
  | none => none
end
noncomputable def bRun (P : Program) (G : Globs) (fuel : Nat) (ann : FuncId → Ann) (isPrim : FuncId → Bool) : Nat → BCall
  | 0, _, _, _ => none
  | n + 1, f, as, H => match P.funcs[f]? with
    | some fn => bif callable P f && !isPrim f then bFun P G (bRun P G fuel ann isPrim n) fuel fn (ann f) as H else none
    | none => none
section
variable {P : Program} {G : Globs} {bc : BCall} {call : CallF} {W : World}
theorem aBody_seq {dfr : CallF} {rs : List Nat} {nt : Nat} {a b : Code} {x y : Ann} {e : Env} {w : World} (h : isDefer a = false) : aBody P call dfr rs nt (.seq a b) (.s x y) e w = aCode P call rs nt a x [] e w fun e w => aBody P call dfr rs nt b y e w := by
  cases a with
  | region id ops draw =>
    cases draw with
    | true => rfl
    | false =>
      have hn : deferOf ops.toList = none := by
        have h' : (deferOf ops.toList).isSome = false := h
        cases hd : deferOf ops.toList with
        | none => rfl
        | some p => rw [hd] at h'; cases h'
      conv => lhs; unfold aBody
      dsimp only
      rw [hn]
  | _ => rfl
theorem outA_ok {ρ : Rho} {vs : List AV} {us : List Value} (h : gs ρ vs = some us) : g ρ (outA vs) = some (outcome us) := by
  unfold outA
  split
  · rename_i v
    obtain ⟨V, h1, rfl⟩ := gs_one h
    exact h1
  · rename_i hne
    have : outcome us = .tuple us.toArray := by
      have hl := gs_length h
      unfold outcome
      split
      · rename_i u
        cases vs with
        | nil => simp at hl
        | cons a r =>
          cases r with
          | nil => exact absurd rfl (hne a)
          | cons b r => simp at hl
      · rfl
    rw [this]
    exact g_mkTup h
theorem bBody_ok (hG : GlobOk G W) (hC : CallB P call W bc) {dfr : CallF} {fuel : Nat} {rs : List Nat} {nt : Nat} : ∀ (c : Code) (x : Ann) (e : AEnv) (H : AH) (r : AR), bBody P G bc fuel rs nt c x e H = some r →
    ∀ (ρ : Rho) (w : World) (eR : Env), Rel W ρ H w → EnvR ρ e eR → ResTo W ρ r (aBody P call dfr rs nt c x eR w) := by
  intro c
  have base : ∀ (c : Code) (x : Ann) (e : AEnv) (H : AH) (r : AR), (bCode P G bc fuel rs nt c x [] e H).ob (ending rs) = some r → ∀ (ρ : Rho) (w : World) (eR : Env), Rel W ρ H w → EnvR ρ e eR →
      ResTo W ρ r (aCode P call rs nt c x [] eR w fun e w => (gets e rs).ebind fun vs => some (.norm vs w)) := by
    intro c x e H r h ρ w eR rel hE
    simp only [Option.ob_eq, Option.bind_eq_some_iff] at h
    obtain ⟨q, h1, h2⟩ := h
    exact ending_ok (bCode_ok hG hC _ _ _ _ _ _ h1 ρ w eR rel hE) h2
  induction c with
  | seq a b iha ihb =>
    intro x e H r h ρ w eR rel hE
    cases x with
    | s x y =>
      simp only [bBody] at h
      cases hd : isDefer a with
      | true => rw [hd] at h; cases h
      | false =>
        rw [hd] at h
        simp only [cond_false] at h
        rw [aBody_seq hd]
        split at h
        · rename_i e1 H1 h1
          obtain ⟨ρ1, w1, eR1, l1, r1, E1, n1⟩ := bCode_ok hG hC _ _ _ _ _ _ h1 ρ w eR rel hE
          have := ihb _ _ _ _ h ρ1 w1 eR1 r1 E1
          have n1' : (aCode P call rs nt a x [] eR w fun e w => aBody P call dfr rs nt b y e w) = aBody P call dfr rs nt b y eR1 w1 := n1 _
          rw [n1']
          cases r with
          | norm vs H => obtain ⟨a1, a2, a3, a4, a5⟩ := this; exact ⟨a1, a2, a3, l1.trans a4, a5⟩
          | exit id vs H => obtain ⟨a1, a2, a3, a4, a5⟩ := this; exact ⟨a1, a2, a3, l1.trans a4, a5⟩
          | ret vs H => obtain ⟨a1, a2, a3, a4, a5⟩ := this; exact ⟨a1, a2, a3, l1.trans a4, a5⟩
        · rename_i id vs H1 h1
          cases h
          obtain ⟨ρ1, w1, us, l1, r1, E1, n1⟩ := bCode_ok hG hC _ _ _ _ _ _ h1 ρ w eR rel hE
          exact ⟨ρ1, w1, us, l1, r1, E1, n1 _⟩
        · rename_i vs H1 h1
          cases h
          obtain ⟨ρ1, w1, us, l1, r1, E1, n1⟩ := bCode_ok hG hC _ _ _ _ _ _ h1 ρ w eR rel hE
          exact ⟨ρ1, w1, us, l1, r1, E1, n1 _⟩
        · cases h
    | _ => exact base _ _ _ _ _ h ρ w eR rel hE
  | _ => intro x e H r h ρ w eR rel hE; exact base _ _ _ _ _ (by simpa only [bBody] using h) ρ w eR rel hE
theorem bLoads_ok (hG : GlobOk G W) {ρ : Rho} {H : AH} {w : World} (r : Live W ρ H w) : ∀ {vars : List ResultVar} {vs us : List AV} {Vs : List Value}, bLoads P G H vars vs = some us → gs ρ vs = some Vs → ∃ Us, gs ρ us = some Us ∧ loadsOf P vars Vs w = some Us
  | [], vs, us, Vs, h, hv => by cases h; exact ⟨[], rfl, by cases Vs <;> rfl⟩
  | .tmp t :: rest, v :: vs, us, Vs, h, hv => by
    simp only [bLoads, Option.ob_eq, Option.bind_eq_some_iff, Option.some.injEq] at h
    obtain ⟨us', h1, rfl⟩ := h
    obtain ⟨x, xs, h2, h3, rfl⟩ := gs_cons.mp hv
    obtain ⟨Us, h4, h5⟩ := bLoads_ok hG r h1 h3
    exact ⟨x :: Us, gs_cons.mpr ⟨_, _, h2, h4, rfl⟩, by simp only [loadsOf, h5]; rfl⟩
  | .cell s t :: rest, v :: vs, us, Vs, h, hv => by
    simp only [bLoads, Option.ob_eq, Option.bind_eq_some_iff, Option.some.injEq] at h
    obtain ⟨u, h0, us', h1, rfl⟩ := h
    obtain ⟨x, xs, h2, h3, rfl⟩ := gs_cons.mp hv
    obtain ⟨Us, h4, h5⟩ := bLoads_ok hG r h1 h3
    obtain ⟨U, u1, u2⟩ := bLoad_ok r hG h0 h2
    have hx : ∃ a, x = .pointer (some a) := by
      cases x with
      | pointer a =>
        cases a with
        | none => exact absurd u2 (by unfold Instr.loadAt; simp [rrun_bind, Instr.sureAddr, stuck, rrun])
        | some a => exact ⟨a, rfl⟩
      | _ => exact absurd u2 (by unfold Instr.loadAt; simp [rrun_bind, Instr.sureAddr, stuck, rrun])
    obtain ⟨a, rfl⟩ := hx
    exact ⟨U :: Us, gs_cons.mpr ⟨_, _, u1, h4, rfl⟩, by simp only [loadsOf, u2, h5]; rfl⟩
  | .tmp _ :: _, [], us, Vs, h, hv => by cases h
  | .cell _ _ :: _, [], us, Vs, h, hv => by cases h
theorem args_ok {ρ : Rho} {as : List AV} {vs : List Value} {e : AEnv} (h : mkE (List.range as.length) as = some e) (hv : gs ρ as = some vs) : EnvR ρ e (ofArgs vs.toArray) := by
  have hl := gs_length hv
  have key := mkE_ok (pre := []) h hv
  intro t a ht
  obtain ⟨V, v1, v2⟩ := key t a ht
  refine ⟨V, v1, ?_⟩
  have gen : ∀ (m i : Nat) (us : List Value) (t : Nat) (V : Value), i + m ≤ us.length → ofList i (List.range' i m) us t = some V → us[t]? = some V := by
    intro m
    induction m with
    | zero => intro i us t V _ h; simp [ofList, Env.nil] at h
    | succ m ih =>
      intro i us t V hm h
      simp only [List.range'_succ, ofList] at h
      rw [set_eq] at h
      split at h
      · rename_i e1
        subst e1
        cases h
        have nthE : ∀ (us : List Value) (t : Nat), t < us.length → us[t]? = some (nth us t) := by
          intro us
          induction us with
          | nil => intro t h; simp at h
          | cons u us ih => intro t h; cases t with | zero => rfl | succ t => simp at h; simpa using ih t h
        exact nthE us t (by omega)
      · exact ih (i + 1) us t V (by omega) h
  have := gen as.length 0 vs t V (by omega) (by rw [← List.range_eq_range']; simpa using v2)
  simpa [ofArgs] using this
theorem bFun_ok (hG : GlobOk G W) (hC : CallB P call W bc) {dfr : CallF} {fuel : Nat} {fn : Func} {ann : Ann} {as : List AV} {H H' : AH} {v : AV} (h : bFun P G bc fuel fn ann as H = some (v, H')) {ρ : Rho} {w : World} {vs : List Value} (r : Rel W ρ H w) (hv : gs ρ as = some vs) :
    Done W ρ v H' (aFun P call dfr fn ann (ofArgs vs.toArray) w) := by
  unfold bFun at h
  unfold aFun
  cases hb : fn.body with
  | none => rw [hb] at h; cases h
  | some c =>
    rw [hb] at h
    simp only [Option.ob_eq, Option.bind_eq_some_iff] at h
    obtain ⟨e, h1, h2⟩ := h
    have hE := args_ok h1 hv
    cases hr : tmpsOf fn.results.toList with
    | some rs =>
      rw [hr] at h2
      simp only at h2 ⊢
      split at h2
      · rename_i us H1 h3
        cases h2
        obtain ⟨ρ1, w1, Us, l1, r1, g1, e1⟩ := bBody_ok (dfr := dfr) hG hC _ _ _ _ _ h3 ρ w _ r hE
        exact ⟨ρ1, _, w1, l1, r1, outA_ok g1, by rw [e1]; rfl⟩
      · rename_i us H1 h3
        cases h2
        obtain ⟨ρ1, w1, Us, l1, r1, g1, e1⟩ := bBody_ok (dfr := dfr) hG hC _ _ _ _ _ h3 ρ w _ r hE
        exact ⟨ρ1, _, w1, l1, r1, outA_ok g1, by rw [e1]; rfl⟩
      · cases h2
    | none =>
      rw [hr] at h2
      simp only at h2 ⊢
      split at h2
      · rename_i us H1 h3
        simp only [Option.ob_eq, Option.bind_eq_some_iff, Option.some.injEq, Prod.mk.injEq] at h2
        obtain ⟨us', h4, rfl, rfl⟩ := h2
        obtain ⟨ρ1, w1, Us, l1, r1, g1, e1⟩ := bBody_ok (dfr := dfr) hG hC _ _ _ _ _ h3 ρ w _ r hE
        obtain ⟨Us', u1, u2⟩ := bLoads_ok hG r1.toLive h4 g1
        exact ⟨ρ1, _, w1, l1, r1, outA_ok u1, by rw [e1]; simp only [Option.bind_some, Res.doneR, u2]⟩
      · rename_i us H1 h3
        simp only [Option.ob_eq, Option.bind_eq_some_iff, Option.some.injEq, Prod.mk.injEq] at h2
        obtain ⟨us', h4, rfl, rfl⟩ := h2
        obtain ⟨ρ1, w1, Us, l1, r1, g1, e1⟩ := bBody_ok (dfr := dfr) hG hC _ _ _ _ _ h3 ρ w _ r hE
        obtain ⟨Us', u1, u2⟩ := bLoads_ok hG r1.toLive h4 g1
        exact ⟨ρ1, _, w1, l1, r1, outA_ok u1, by rw [e1]; simp only [Option.bind_some, Res.doneR, u2]⟩
      · cases h2
theorem bRun_ok {ann : FuncId → Ann} {prim : Prim} {isPrim : FuncId → Bool} (hp : ∀ f args w, isPrim f = false → prim.call f args w = none) (hG : GlobOk G W) {fuel : Nat} : ∀ n, CallB P (run P ann prim) W (bRun P G fuel ann isPrim n) := by
  intro n
  induction n with
  | zero => intro f as H v H' h; cases h
  | succ n ih =>
    intro f as H v H' h ρ w vs r hv
    unfold bRun at h
    cases hf : P.funcs[f]? with
    | none => rw [hf] at h; cases h
    | some fn =>
      rw [hf] at h
      simp only at h
      cases hc : (callable P f && !isPrim f) with
      | false => rw [hc] at h; cases h
      | true =>
        rw [hc] at h
        simp only [cond_true] at h
        simp only [Bool.and_eq_true, Bool.not_eq_true'] at hc
        obtain ⟨ρ1, V, w1, l1, r1, v1, e1⟩ := bFun_ok (dfr := prim.dfr) hG ih h r hv
        exact ⟨ρ1, V, w1, l1, r1, v1, run_body hf hc.1 (hp _ _ _ hc.2) e1⟩
noncomputable def okTrue (x : Option (AV × AH)) : Bool := match x with
  | some (.v (.bool true), _) => true
  | _ => false
/-- a closed run that answers true -/
theorem closed_true {ann : FuncId → Ann} {prim : Prim} {isPrim : FuncId → Bool} (hp : ∀ f args w, isPrim f = false → prim.call f args w = none) {w : World} (hG : GlobOk G w) {fuel n : Nat} {f : FuncId} (h : okTrue (bRun P G fuel ann isPrim n f [] ⟨0, .leaf⟩) = true) :
    ∃ w', run P ann prim f #[] w = some (.bool true, w') ∧ w.grownBy w' none := by
  unfold okTrue at h
  split at h
  · rename_i H' hr
    have rel : Rel w (fun _ => none) ⟨0, .leaf⟩ w := ⟨⟨grown_refl _ _, fun k o hk => by simp at hk, fun j k oj ok b m m' hj => by simp at hj, fun k o b m hk h => by cases h⟩, fun k _ => rfl⟩
    obtain ⟨ρ', V, w', _, r', v', e'⟩ := bRun_ok hp hG n f [] _ _ _ hr _ w [] rel rfl
    simp only [g, Option.some.injEq] at v'
    subst v'
    exact ⟨w', e', r'.grown⟩
  · cases h
end
end Go.Sh.Ev
