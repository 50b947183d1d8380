/- The layer 'Sh', third part: code, functions, calls. No condition. -/
import Derived.Test.YtkghbcadnbojgaaGreatDoorShSound
import Derived.Test.YtkghbcadnbojgaaGreatDoorShFlat
import Derived.Tactics
import Derived.Laws.Sem
namespace Go.Sh
open Go
set_option linter.unusedVariables false
set_option linter.unusedSimpArgs false

/-! ### steps -/
def wpStep (P : Program) (Q : Exit → Act → World → Prop) (o : Oper) (K : Act → World → Prop) (a : Act) (w : World) : Prop := o.wp P a w K Q ∨ (o.asks P a w ∧ LetsOut Q)
def bothStep (P : Program) (Q : Exit → Act → World → Prop) (o : Oper) (K : Act → World → Prop) (a : Act) (w : World) : Prop :=
  (quietOp P o.op = true → o.still P a w (fun a' => K a' w)) ∧ wpStep P Q o K a w

section
variable {P : Program} {call : CallF}
theorem wpStep_ok (hc : CallOk P call) {Q : Exit → Act → World → Prop} {o : Oper} {e : Env} {w w' : World} {v : Value} (h : ExecTo P call o e w v w') (K : Act → World → Prop) (a : Act) (ha : Agree e a) (hK : K (a.put o.dst v) w') :
    wpStep P Q o K a w := by
  refine .inl ?_
  unfold Oper.wp
  rcases h a ha with h1 | ⟨h1, rfl⟩ | ⟨f, args, h1, hf⟩
  · rw [h1]; exact hK
  · rw [h1]; exact hK
  · rw [h1]
    exact (hc.calls f args w _ hf).mono fun e w'' ⟨he, hw⟩ => by subst he; subst hw; exact hK
theorem steps_wp (hc : CallOk P call) (all : List Oper) (Q : Exit → Act → World → Prop) : Steps1 P call all (wpStep P Q) where
  mono := fun o K K' a w h hh => hh.imp (Oper.wp_mono h) id
  ok := fun o _ e w v w' h _ K a ha hK => wpStep_ok hc h K a ha hK
theorem steps_both (hc : CallOk P call) (all : List Oper) (Q : Exit → Act → World → Prop) : Steps1 P call all (bothStep P Q) where
  mono := fun o K K' a w h hh => ⟨fun q => Oper.still_mono (fun a' => h a' w) (hh.1 q), hh.2.imp (Oper.wp_mono h) id⟩
  ok := fun o _ e w v w' h hq K a ha hK => ⟨fun q => by
    obtain ⟨rfl, h2⟩ := hq q
    unfold Oper.still
    rcases h2 a ha with h1 | ⟨h1, rfl⟩
    · rw [h1]; exact ⟨rfl, hK⟩
    · rw [h1]; exact ⟨rfl, hK⟩, wpStep_ok hc h K a ha hK⟩

theorem wpList_of_wpG {Q : Exit → Act → World → Prop} {ops : Array Oper} : ∀ (l : List Oper) (a : Act) (w : World), wpG (wpStep P Q) ops l (Q .normal) a w → wpList P ops Q l a w := by
  intro l
  induction l with
  | nil => intro a w h; exact h
  | cons o r ih =>
    intro a w h
    simp only [wpG, wpList] at h ⊢
    split
    · rename_i hw; simp only [hw, if_true] at h; exact h.imp (Oper.wp_mono ih) id
    · rename_i hw; simp only [hw] at h; exact ih _ _ h
theorem wpList_of_both {Q : Exit → Act → World → Prop} {ops : Array Oper} : ∀ (l : List Oper) (a : Act) (w : World), wpG (bothStep P Q) ops l (Q .normal) a w → wpList P ops Q l a w := by
  intro l
  induction l with
  | nil => intro a w h; exact h
  | cons o r ih =>
    intro a w h
    simp only [wpG, wpList] at h ⊢
    split
    · rename_i hw; simp only [hw, if_true] at h; exact h.2.imp (Oper.wp_mono ih) id
    · rename_i hw; simp only [hw] at h; exact ih _ _ h
theorem wpStill_of_both {Q : Exit → Act → World → Prop} {ops : Array Oper} {w : World} (m : List Oper) : ∀ (l : List Oper) (a : Act), (∀ o ∈ l, quietOp P o.op = true) → wpG (bothStep P Q) ops (l ++ m) (Q .normal) a w →
    wpStill P ops w (fun a' => wpList P ops Q m a' w) l a := by
  intro l
  induction l with
  | nil => intro a _ h; exact wpList_of_both m a w h
  | cons o r ih =>
    intro a hq h
    simp only [List.cons_append, wpG, wpStill] at h ⊢
    split
    · rename_i hw; simp only [hw, if_true] at h; exact Oper.still_mono (fun a' => ih a' fun o ho => hq o (by simp [ho])) (h.1 (hq o (by simp)))
    · rename_i hw; simp only [hw] at h; exact ih _ (fun o ho => hq o (by simp [ho])) h

/-- a region -/
theorem region_ok (hc : CallOk P call) (hm : P.follows .mixedOrders = true) {nt id : Nat} {ops : Array Oper} {draw : Bool} {rs : List Nat} {x : Ann} {c : Ctx} {e : Env} {w : World} {k : Env → World → Option Res} {r : Res}
    (h : aCode P call rs nt (.region id ops draw) x c e w k = some r) :
    ∀ (Q : Exit → Act → World → Prop) (a : Act), nt ≤ a.tmps.size → Agree e a →
      (∀ e' w', k e' w' = some r → ∀ a', Kept (dsts ops.toList) a a' → Agree e' a' → Q .normal a' w') → (Code.region id ops draw).wp P Q a w := by
  intro Q a hnt ha hQ
  simp only [Option.ebind_eq, aCode] at h
  split at h
  case isFalse => cases h
  rename_i hreg
  have hidx : ∀ m, m < ops.toList.length → ops.toList[0 + m]? = ops.toList[m]? := fun m _ => by rw [Nat.zero_add]
  have hst : StripOk ops.toList [] 0 a := fun j b h => by simp [inStrip] at h
  cases draw with
  | false =>
    simp only at h
    obtain ⟨e', w', h1, h2⟩ := aOps_ok hc hreg (steps_wp hc ops.toList Q) _ 0 _ [] e w k r h hidx
    refine wp_region ?_
    have := wpList_of_wpG _ _ _ (h2 (Q .normal) a hnt ha hst (hQ e' w' h1))
    have e1 := wpOps_eq_wpList (P := P) (Q := Q) (ops := ops) ops.toList 0 (fun j => by simp)
    rw [Array.toArray_toList] at this
    rw [← e1] at this
    simpa [List.range_eq_range'] using this
  | true =>
    simp only at h
    split at h
    case isFalse =>
      split at h
      case isFalse => cases h
      rename_i hflat
      have hF := flat_of hflat
      obtain ⟨logs, e', w', h1, h2⟩ := aFlat_ok hc hreg ops.toList 0 e w.drew [] _ r hidx h
      simp only [List.nil_append] at h1
      unfold chkThen at h1
      split at h1
      case isFalse => cases h1
      rename_i hchk
      obtain ⟨L, a', l1, l2, l3, l4⟩ := h2 a hnt ha
      have ck : ∀ i m, (i, m) ∈ loose P ops.toList → ∃ x y, L[i]? = some x ∧ L[m]? = some y ∧ x.chk y.before ∧ x.chk y.after := by
        intro i m him
        obtain ⟨x, y, c1, c2, c3, c4⟩ := chkAll_mem hchk i m him
        rw [l3, List.getElem?_map, Option.map_eq_some_iff] at c1 c2
        obtain ⟨x', d1, rfl⟩ := c1
        obtain ⟨y', d2, rfl⟩ := c2
        exact ⟨x', y', d1, d2, c3, c4⟩
      refine wp_region_any hm ?_
      have key := any_order hc hF hreg hnt l1 ck (Q := Q) (fun b W b1 b2 => by
        obtain ⟨rfl, f2, f3⟩ := last_same hF hreg hnt l1 b1 b2
        exact hQ e' W h1 b f3 fun t v ht => by rw [f2 t]; exact l2 t v ht)
        ops.toList.length (Array.replicate ops.size false) a w.drew (by simp) ?_ ?_ ?_ ?_
      · rw [Array.toArray_toList] at key
        simpa using key
      · have : ∀ n, n ≤ ops.size → un (Array.replicate ops.size false) n = n := by
          intro n
          induction n with
          | zero => intro _; rfl
          | succ n ih => intro hn; simp only [un]; rw [ih (by omega)]; simp [show n < ops.size by omega]
        simpa using this ops.size (Nat.le_refl _)
      · intro i o hi; exact absurd hi (by rw [getD_replicate_false]; decide)
      · exact ⟨rfl, rfl, fun i o x t hi => absurd hi (by simp only [getD_replicate_false]; decide), fun t _ => rfl⟩
      · exact .inr ⟨fun m hm => absurd hm (by simp only [getD_replicate_false]; decide), rfl⟩
    rename_i hdraw
    obtain ⟨e', w', h1, h2⟩ := aOps_ok hc hreg (steps_both hc ops.toList Q) _ 0 _ [] e w.drew k r h hidx
    have h3 := h2 (Q .normal) a hnt ha hst (hQ e' w' h1)
    unfold drawOk at hdraw
    rw [Bool.or_eq_true] at hdraw
    have hlit : (Code.region id ops true) = Code.region id ops.toList.toArray true := by rw [Array.toArray_toList]
    rw [hlit]
    rcases hdraw with hd | hd
    · rw [Bool.and_eq_true] at hd
      refine wp_region_still_lit hm hd.2 ?_
      have := wpStill_of_both [] ops.toList a (fun o ho => List.all_eq_true.mp hd.1 o ho) (by simpa using h3)
      exact this
    · refine wp_region_still_tail (tailFrom P ops.toList) hm hd ?_
      refine wpStill_of_both (ops.toList.drop (tailFrom P ops.toList)) (ops.toList.take (tailFrom P ops.toList)) a (fun o ho => ?_) (by simpa using h3)
      unfold tailFrom at ho
      have htw : ∀ (l : List Oper), l.take (l.takeWhile fun o => quietOp P o.op).length = l.takeWhile fun o => quietOp P o.op := by
        intro l
        induction l with
        | nil => rfl
        | cons q r ih =>
          by_cases hq : quietOp P q.op = true
          · simp [hq, ih]
          · simp [hq]
      rw [htw] at ho
      have : ∀ (l : List Oper), ∀ o ∈ l.takeWhile (fun o => quietOp P o.op), quietOp P o.op = true := by
        intro l
        induction l with
        | nil => intro o h; simp at h
        | cons q r ih =>
          intro o h
          by_cases hq : quietOp P q.op = true
          · simp only [List.takeWhile_cons, hq, if_true, List.mem_cons] at h
            rcases h with rfl | h
            · exact hq
            · exact ih o h
          · simp [hq] at h
      exact this _ o ho
end

/-! ### loops -/
theorem rounds_of_iter {f : List Value → World → Option Res} {vs : List Value} {w : World} {r : Res} (h : iter f vs w = some r) : Rounds f vs w r := by
  unfold iter at h
  split at h
  · rename_i hr; simp only [Option.some.injEq] at h; rw [← h]; exact Classical.choose_spec hr
  · cases h
theorem Rounds.one {f : List Value → World → Option Res} {vs : List Value} {w : World} {r r' : Res} (h : Rounds f vs w r) (h' : Rounds f vs w r') : r = r' := by
  induction h with
  | more h _ ih =>
    cases h' with
    | more g g' => rw [h] at g; cases g; exact ih g'
    | exit g => rw [h] at g; cases g
    | ret g => rw [h] at g; cases g
  | exit h =>
    cases h' with
    | more g _ => rw [h] at g; cases g
    | exit g => rw [h] at g; cases g; rfl
    | ret g => rw [h] at g; cases g
  | ret h =>
    cases h' with
    | more g _ => rw [h] at g; cases g
    | exit g => rw [h] at g; cases g
    | ret g => rw [h] at g; cases g; rfl
theorem iter_of_rounds {f : List Value → World → Option Res} {vs : List Value} {w : World} {r : Res} (h : Rounds f vs w r) : iter f vs w = some r := by
  unfold iter
  have hr : ∃ r, Rounds f vs w r := ⟨r, h⟩
  rw [dif_pos hr, (Classical.choose_spec hr).one h]
theorem Rounds.mono {f f' : List Value → World → Option Res} (hf : ∀ vs w r, f vs w = some r → f' vs w = some r) {vs : List Value} {w : World} {r : Res} (h : Rounds f vs w r) : Rounds f' vs w r := by
  induction h with
  | more h _ ih => exact .more (hf _ _ _ h) ih
  | exit h => exact .exit (hf _ _ _ h)
  | ret h => exact .ret (hf _ _ _ h)

/-! ### code -/
/-- the slots hold these values -/
def Has (K : List Nat) (vs : List Value) (a : Act) : Prop := vs.length = K.length ∧ ∀ (i t : Nat), K[i]? = some t → a.tmps[t]? = some (nth vs i)
theorem gets_length {e : Env} : ∀ {K : List Nat} {vs : List Value}, gets e K = some vs → vs.length = K.length := by
  intro K
  induction K with
  | nil => intro vs h; simp only [gets, Option.some.injEq] at h; subst h; rfl
  | cons x r ih =>
    intro vs h
    simp only [gets, Option.bind_eq_some_iff, Option.some.injEq] at h
    obtain ⟨v, _, ws, h2, rfl⟩ := h
    simp [ih h2]
theorem Has.of {e : Env} {a : Act} (ha : Agree e a) {K : List Nat} {vs : List Value} (h : gets e K = some vs) : Has K vs a := ⟨gets_length h, fun i t ht => ha.gets h i t ht⟩
theorem Has.agree {K : List Nat} {vs : List Value} {a : Act} (h : Has K vs a) : Agree (ofList 0 K vs) a := agree_ofList fun i t ht => by simpa using h.2 i t ht
/-- a frame that a body leads to from another -/
structure From (nt : Nat) (ds : List Deferred) (a : Act) : Prop where
  size : nt ≤ a.tmps.size
  defers : a.defers = ds

theorem keep_cons {id : Nat} {K : List Nat} {c : Ctx} (i : Nat) : Ctx.keep ((id, K) :: c) i = if id = i then some K else Ctx.keep c i := rfl

theorem aCode_ok {P : Program} {call : CallF} (hc : CallOk P call) (hm : P.follows .mixedOrders = true) {rs : List Nat} {nt : Nat} {ds : List Deferred} :
    ∀ (c : Code) (x : Ann) (ctx : Ctx) (e : Env) (w : World) (k : Env → World → Option Res) (r : Res), aCode P call rs nt c x ctx e w k = some r →
      ∀ (Q : Exit → Act → World → Prop) (a : Act), From nt ds a → Agree e a →
        (∀ e' w', k e' w' = some r → ∀ a', From nt ds a' → Agree e' a' → Q .normal a' w') →
        (∀ id vs w', r = .exit id vs w' → ∀ K, Ctx.keep ctx id = some K → ∀ a', From nt ds a' → Has K vs a' → Q (.exit id) a' w') →
        (∀ vs w', r = .ret vs w' → ∀ a', From nt ds a' → Has rs vs a' → Q .ret a' w') →
        c.wp P Q a w := by
  intro c
  induction c with
  | skip => intro x ctx e w k r h Q a hf ha hk _ _; exact wp_skip (hk e w (by simpa [Option.ebind_eq, aCode] using h) a hf ha)
  | label l => intro x ctx e w k r h Q a hf ha hk _ _; exact wp_label (hk e w (by simpa [Option.ebind_eq, aCode] using h) a hf ha)
  | region id ops draw =>
    intro x ctx e w k r h Q a hf ha hk _ _
    exact region_ok hc hm h Q a hf.size ha fun e' w' h1 a' h2 h3 => hk e' w' h1 a' ⟨by rw [h2.size]; exact hf.size, by rw [h2.defers]; exact hf.defers⟩ h3
  | seq c1 c2 ih1 ih2 =>
    intro x ctx e w k r h Q a hf ha hk hx hr
    cases x <;> simp only [Option.ebind_eq, aCode] at h <;> try (cases h; done)
    rename_i x y
    refine wp_seq (ih1 x ctx e w _ r h _ a hf ha ?_ ?_ ?_)
    · intro e' w' h' a' hf' ha'
      exact ih2 y ctx e' w' k r h' Q a' hf' ha' hk hx hr
    · exact hx
    · exact hr
  | cond t c1 c2 ih1 ih2 =>
    intro x ctx e w k r h Q a hf ha hk hx hr
    cases x <;> simp only [Option.ebind_eq, aCode] at h <;> try (cases h; done)
    · rename_i x y
      simp only [Option.bind_eq_some_iff] at h
      obtain ⟨v, h1, b, h2, h3⟩ := h
      have hv : v = .bool b := by cases v <;> simp [asB] at h2; subst h2; rfl
      subst hv
      cases b with
      | true => exact wp_cond_true (ha.eval h1) (ih1 x ctx e w k r (by simpa using h3) Q a hf ha hk hx hr)
      | false => exact wp_cond_false (ha.eval h1) (ih2 y ctx e w k r (by simpa using h3) Q a hf ha hk hx hr)
    · rename_i K x y
      simp only [Option.bind_eq_some_iff] at h
      obtain ⟨v, h1, b, h2, r1, h3, h4⟩ := h
      have hv : v = .bool b := by cases v <;> simp [asB] at h2; subst h2; rfl
      subst hv
      have hk1 : ∀ e' w', ((gets e' K).bind fun vs => some (Res.norm vs w')) = some r1 → ∀ a', From nt ds a' → Agree e' a' → Q .normal a' w' := by
        intro e' w' h5 a' hf' ha'
        simp only [Option.bind_eq_some_iff, Option.some.injEq] at h5
        obtain ⟨vs, h6, rfl⟩ := h5
        exact hk _ _ h4 a' hf' (agree_gets ha' h6)
      have hx1 : ∀ id vs w', r1 = .exit id vs w' → ∀ K, Ctx.keep ctx id = some K → ∀ a', From nt ds a' → Has K vs a' → Q (.exit id) a' w' := by
        intro id vs w' he
        subst he
        simp only [Res.cont, Option.some.injEq] at h4
        exact hx id vs w' h4.symm
      have hr1 : ∀ vs w', r1 = .ret vs w' → ∀ a', From nt ds a' → Has rs vs a' → Q .ret a' w' := by
        intro vs w' he
        subst he
        simp only [Res.cont, Option.some.injEq] at h4
        exact hr vs w' h4.symm
      cases b with
      | true => exact wp_cond_true (ha.eval h1) (ih1 x ctx e w _ r1 (by simpa using h3) Q a hf ha hk1 hx1 hr1)
      | false => exact wp_cond_false (ha.eval h1) (ih2 y ctx e w _ r1 (by simpa using h3) Q a hf ha hk1 hx1 hr1)
  | block id c1 ih1 =>
    intro x ctx e w k r h Q a hf ha hk hx hr
    cases x <;> simp only [Option.ebind_eq, aCode] at h <;> try (cases h; done)
    rename_i K x
    simp only [Option.bind_eq_some_iff] at h
    obtain ⟨r1, h3, h4⟩ := h
    refine wp_block (ih1 x _ e w _ r1 h3 _ a hf ha ?_ ?_ ?_)
    · intro e' w' h5 a' hf' ha'
      simp only [Option.bind_eq_some_iff, Option.some.injEq] at h5
      obtain ⟨vs, h6, rfl⟩ := h5
      exact hk _ _ h4 a' hf' (agree_gets ha' h6)
    · intro i vs w' he K' hK' a' hf' hh
      subst he
      rw [keep_cons] at hK'
      simp only [Exit.inBlock]
      simp only [Res.unblock] at h4
      by_cases hi : i = id
      · subst hi
        simp only [if_true, Option.some.injEq] at hK' h4 ⊢
        subst hK'
        exact hk _ _ h4 a' hf' hh.agree
      · have hi' : ¬ id = i := fun h => hi h.symm
        simp only [hi, hi', if_false] at hK' h4 ⊢
        simp only [Res.cont, Option.some.injEq] at h4
        exact hx i vs w' h4.symm K' hK' a' hf' hh
    · intro vs w' he
      subst he
      simp only [Res.unblock, Res.cont, Option.some.injEq] at h4
      exact hr vs w' h4.symm
  | loop c1 ih1 =>
    intro x ctx e w k r h Q a hf ha hk hx hr
    cases x <;> simp only [Option.ebind_eq, aCode] at h <;> try (cases h; done)
    rename_i K x
    simp only [Option.bind_eq_some_iff] at h
    obtain ⟨vs0, h1, h2⟩ := h
    have key : ∀ vs w r, Rounds (fun vs w => aCode P call rs nt c1 x ctx (ofList 0 K vs) w fun e w => (gets e K).bind fun vs => some (.norm vs w)) vs w r →
        (∀ id vs w', r = .exit id vs w' → ∀ K, Ctx.keep ctx id = some K → ∀ a', From nt ds a' → Has K vs a' → Q (.exit id) a' w') →
        (∀ vs w', r = .ret vs w' → ∀ a', From nt ds a' → Has rs vs a' → Q .ret a' w') →
        ∃ n, ∀ a, From nt ds a → Agree (ofList 0 K vs) a → Code.rounds P c1 Q n a w := by
      intro vs w r hR
      induction hR with
      | more h _ ih =>
        intro hx hr
        obtain ⟨n, hn⟩ := ih hx hr
        refine ⟨n + 1, fun a hf ha => ?_⟩
        rw [rounds_succ]
        refine ih1 x ctx _ _ _ _ h _ a hf ha ?_ (fun id vs w' he => by cases he) (fun vs w' he => by cases he)
        intro e' w' h5 a' hf' ha'
        simp only [Option.bind_eq_some_iff, Option.some.injEq] at h5
        obtain ⟨vs, h6, h7⟩ := h5
        cases h7
        exact hn a' hf' (agree_gets ha' h6)
      | exit h =>
        intro hx hr
        refine ⟨1, fun a hf ha => ?_⟩
        rw [rounds_succ]
        refine ih1 x ctx _ _ _ _ h _ a hf ha ?_ hx hr
        intro e' w' h5
        simp only [Option.bind_eq_some_iff, Option.some.injEq] at h5
        obtain ⟨vs, h6, h7⟩ := h5
        cases h7
      | ret h =>
        intro hx hr
        refine ⟨1, fun a hf ha => ?_⟩
        rw [rounds_succ]
        refine ih1 x ctx _ _ _ _ h _ a hf ha ?_ hx hr
        intro e' w' h5
        simp only [Option.bind_eq_some_iff, Option.some.injEq] at h5
        obtain ⟨vs, h6, h7⟩ := h5
        cases h7
    obtain ⟨n, hn⟩ := key vs0 w r (rounds_of_iter h2) hx hr
    exact wp_loop_rounds n (hn a hf (agree_gets ha h1))
  | exit id =>
    intro x ctx e w k r h Q a hf ha hk hx hr
    simp only [Option.ebind_eq, aCode, Option.bind_eq_some_iff, Option.some.injEq] at h
    obtain ⟨K, h1, vs, h2, rfl⟩ := h
    exact wp_exit (hx id vs w rfl K h1 a hf (.of ha h2))
  | ret =>
    intro x ctx e w k r h Q a hf ha hk hx hr
    simp only [Option.ebind_eq, aCode, Option.bind_eq_some_iff, Option.some.injEq] at h
    obtain ⟨vs, h2, rfl⟩ := h
    exact wp_ret (hr vs w rfl a hf (.of ha h2))
  | _ => intro x ctx e w k r h; cases x <;> simp [Option.ebind_eq, aCode] at h

/-! ### more calls told: no less is told -/
def Le {α : Type} (x y : Option α) : Prop := ∀ r, x = some r → y = some r
theorem Le.refl {α : Type} (x : Option α) : Le x x := fun _ h => h
theorem Le.bind {α β : Type} {x y : Option α} {f g : α → Option β} (h : Le x y) (hf : ∀ a, Le (f a) (g a)) : Le (x.bind f) (y.bind g) := by
  intro r hr
  simp only [Option.bind_eq_some_iff] at hr ⊢
  obtain ⟨a, h1, h2⟩ := hr
  exact ⟨a, h _ h1, hf _ _ h2⟩
theorem Le.ite {α : Type} {c : Prop} [Decidable c] {x y x' y' : Option α} (h : Le x x') (h' : Le y y') : Le (if c then x else y) (if c then x' else y') := by
  split
  · exact h
  · exact h'
section
variable {P : Program} {call call' : CallF}
theorem callV_mono (hc : ∀ f args w, Le (call f args w) (call' f args w)) (v : Value) (args : List Value) (w : World) : Le (callV call v args w) (callV call' v args w) := by
  unfold callV
  split
  · exact hc _ _ _
  · exact Le.refl _

theorem Le.bif {ρ : Type} {b : Bool} {x x' y y' : Option ρ} (h : Le x x') (h' : Le y y') : Le (bif b then x else y) (bif b then x' else y') := by cases b <;> assumption
theorem aOp_mono (hc : ∀ f args w, Le (call f args w) (call' f args w)) {ρ : Type} {o : Oper} {e : Env} {w : World} {next next' : Value → World → Option ρ} (hn : ∀ v w, Le (next v w) (next' v w)) :
    Le (aOp P call o e w next) (aOp P call' o e w next') := by
  unfold aOp
  simp only [Option.ebind_eq]
  split
  case h_29 =>
    split <;> repeat' first
      | exact hn _ _
      | exact hc _ _ _
      | exact callV_mono hc _ _ _
      | exact Le.refl _
      | refine Le.bif ?_ ?_
      | refine Le.bind ?_ fun _ => ?_
      | refine Le.ite ?_ ?_
  all_goals repeat' first
    | exact hn _ _
    | exact Le.refl _
    | refine Le.bind ?_ fun _ => ?_
    | refine Le.ite ?_ ?_

theorem aOps_mono (hc : ∀ f args w, Le (call f args w) (call' f args w)) {all : List Oper} : ∀ (n : Nat) {ρ : Type} (i : Nat) (ops : List Oper) (strip : List (Nat × Bool)) (e : Env) (w : World) (k k' : Env → World → Option ρ),
    (∀ e w, Le (k e w) (k' e w)) → Le (aOps P call all n i ops strip e w k) (aOps P call' all n i ops strip e w k') := by
  intro n
  induction n with
  | zero => intro ρ i ops strip e w k k' _; simp only [Option.ebind_eq, aOps]; exact Le.refl _
  | succ n ih =>
    intro ρ i ops strip e w k k' hk
    cases ops with
    | nil => simp only [Option.ebind_eq, aOps]; exact hk _ _
    | cons o rest =>
      simp only [Option.ebind_eq, aOps]
      have plain := aOp_mono (P := P) hc (o := o) (e := e) (w := w) (fun v w => ih (i + 1) rest strip (e.put o.dst v) w k k' hk)
      split
      · exact plain
      · refine Le.ite plain ?_
        split
        · split
          · refine Le.ite (Le.bind (Le.refl _) fun _ => Le.bind (Le.refl _) fun _ => Le.bind (Le.ite (ih _ _ _ _ _ _ _ fun _ _ => Le.refl _) (Le.refl _)) fun _ => ih _ _ _ _ _ _ _ hk) (Le.refl _)
          · exact Le.refl _
        · exact Le.refl _

def LogLe : List LogE → List LogE → Prop
  | [], [] => True
  | x :: l, y :: m => (x.before = y.before ∧ x.after = y.after ∧ ∀ W, x.chk W → y.chk W) ∧ LogLe l m
  | _, _ => False
theorem LogLe.refl : ∀ l, LogLe l l
  | [] => trivial
  | x :: l => ⟨⟨rfl, rfl, fun _ h => h⟩, LogLe.refl l⟩
theorem LogLe.append : ∀ {l m l' m' : List LogE}, LogLe l m → LogLe l' m' → LogLe (l ++ l') (m ++ m')
  | [], [], _, _, _, h => h
  | _ :: _, _ :: _, _, _, h, h' => ⟨h.1, h.2.append h'⟩
theorem LogLe.get : ∀ {l m : List LogE}, LogLe l m → ∀ {i : Nat} {x : LogE}, l[i]? = some x → ∃ y, m[i]? = some y ∧ x.before = y.before ∧ x.after = y.after ∧ ∀ W, x.chk W → y.chk W
  | [], [], _, i, x, hx => by simp at hx
  | x :: l, y :: m, h, i, z, hz => by
    cases i with
    | zero => simp at hz; subst hz; exact ⟨y, by simp, h.1⟩
    | succ i => simp at hz; obtain ⟨u, hu⟩ := h.2.get hz; exact ⟨u, by simpa using hu⟩
theorem LogLe.chkAll {l m : List LogE} (h : LogLe l m) : ∀ {ps : List (Nat × Nat)}, Sh.chkAll l ps → Sh.chkAll m ps
  | [], _ => trivial
  | (r, q) :: ps, hp => by
    obtain ⟨h1, h2⟩ := hp
    refine ⟨?_, h.chkAll h2⟩
    split at h1
    · rename_i x y hx hy
      obtain ⟨x', e1, _, _, e4⟩ := h.get hx
      obtain ⟨y', f1, f2, f3, _⟩ := h.get hy
      rw [e1, f1]
      exact ⟨e4 _ (f2 ▸ h1.1), e4 _ (f3 ▸ h1.2)⟩
    · exact h1.elim
theorem chkThen_mono {ρ : Type} {c c' : Prop} (hc : c → c') {x y : Option ρ} (h : Le x y) : Le (chkThen c x) (chkThen c' y) := by
  intro r hr
  unfold chkThen at *
  split at hr
  · rename_i hcc; rw [if_pos (hc hcc)]; exact h r hr
  · cases hr
theorem aFlat_mono (hc : ∀ f args w, Le (call f args w) (call' f args w)) {ρ : Type} {all : List Oper} : ∀ (l : List Oper) (e : Env) (w : World) (log log' : List LogE) (k k' : Env → World → List LogE → Option ρ),
    LogLe log log' → (∀ e w log log', LogLe log log' → Le (k e w log) (k' e w log')) → Le (aFlat P call all l e w log k) (aFlat P call' all l e w log' k') := by
  intro l
  induction l with
  | nil => intro e w log log' k k' hl hk; simp only [Option.ebind_eq, aFlat]; exact hk _ _ _ _ hl
  | cons o r ih =>
    intro e w log log' k k' hl hk
    simp only [Option.ebind_eq, aFlat]
    refine Le.bind (Le.refl _) fun g => ?_
    refine Le.bind (Le.ite (aOp_mono hc fun _ _ => Le.refl _) (Le.refl _)) fun x => ih _ _ _ _ _ _ (hl.append ⟨⟨rfl, rfl, fun W h => ?_⟩, trivial⟩) hk
    have h' : if g = true then (aOp P call o e W fun v _ => some v) = some x.1 else True := h
    show if g = true then (aOp P call' o e W fun v _ => some v) = some x.1 else True
    by_cases hg : g = true
    · rw [if_pos hg] at h' ⊢; exact aOp_mono hc (fun _ _ => Le.refl _) _ h'
    · rw [if_neg hg]; trivial

theorem iter_mono {f f' : List Value → World → Option Res} (hf : ∀ vs w, Le (f vs w) (f' vs w)) (vs : List Value) (w : World) : Le (iter f vs w) (iter f' vs w) :=
  fun _ h => iter_of_rounds ((rounds_of_iter h).mono fun vs w => hf vs w)

theorem cont_mono {r : Res} {k k' : List Value → World → Option Res} (h : ∀ vs w, Le (k vs w) (k' vs w)) : Le (r.cont k) (r.cont k') := by
  cases r with
  | norm vs w => exact h vs w
  | _ => exact Le.refl _

theorem aCode_mono (hc : ∀ f args w, Le (call f args w) (call' f args w)) {rs : List Nat} {nt : Nat} : ∀ (c : Code) (x : Ann) (ctx : Ctx) (e : Env) (w : World) (k k' : Env → World → Option Res),
    (∀ e w, Le (k e w) (k' e w)) → Le (aCode P call rs nt c x ctx e w k) (aCode P call' rs nt c x ctx e w k') := by
  intro c
  induction c with
  | skip => intro x ctx e w k k' hk; simp only [Option.ebind_eq, aCode]; exact hk _ _
  | label l => intro x ctx e w k k' hk; simp only [Option.ebind_eq, aCode]; exact hk _ _
  | region id ops draw =>
    intro x ctx e w k k' hk
    simp only [Option.ebind_eq, aCode]
    refine Le.ite ?_ (Le.refl _)
    cases draw with
    | false => exact aOps_mono hc _ _ _ _ _ _ _ _ hk
    | true => exact Le.ite (aOps_mono hc _ _ _ _ _ _ _ _ hk) (Le.ite (aFlat_mono hc _ _ _ _ _ _ _ trivial fun e w log log' hl => chkThen_mono hl.chkAll (hk _ _)) (Le.refl _))
  | seq a b iha ihb =>
    intro x ctx e w k k' hk
    cases x <;> simp only [Option.ebind_eq, aCode] <;> first | exact Le.refl _ | exact iha _ _ _ _ _ _ fun _ _ => ihb _ _ _ _ _ _ hk
  | cond t a b iha ihb =>
    intro x ctx e w k k' hk
    cases x <;> simp only [Option.ebind_eq, aCode] <;> first
      | exact Le.refl _
      | exact Le.bind (Le.refl _) fun _ => Le.bind (Le.refl _) fun _ => Le.ite (iha _ _ _ _ _ _ hk) (ihb _ _ _ _ _ _ hk)
      | exact Le.bind (Le.refl _) fun _ => Le.bind (Le.refl _) fun _ => Le.bind (Le.ite (iha _ _ _ _ _ _ fun _ _ => Le.refl _) (ihb _ _ _ _ _ _ fun _ _ => Le.refl _)) fun _ => cont_mono fun _ _ => hk _ _
  | block id a iha =>
    intro x ctx e w k k' hk
    cases x <;> simp only [Option.ebind_eq, aCode] <;> first
      | exact Le.refl _
      | exact Le.bind (iha _ _ _ _ _ _ fun _ _ => Le.refl _) fun _ => cont_mono fun _ _ => hk _ _
  | loop a iha =>
    intro x ctx e w k k' hk
    cases x <;> simp only [Option.ebind_eq, aCode] <;> first
      | exact Le.refl _
      | exact Le.bind (Le.refl _) fun _ => iter_mono (fun vs w => iha _ _ _ _ _ _ fun _ _ => Le.refl _) _ _
  | exit id => intro x ctx e w k k' hk; simp only [Option.ebind_eq, aCode]; exact Le.refl _
  | ret => intro x ctx e w k k' hk; simp only [Option.ebind_eq, aCode]; exact Le.refl _
  | _ => intro x ctx e w k k' hk; cases x <;> simp only [Option.ebind_eq, aCode] <;> exact Le.refl _

theorem aBody_mono (hc : ∀ f args w, Le (call f args w) (call' f args w)) {dfr : CallF} {rs : List Nat} {nt : Nat} : ∀ (c : Code) (x : Ann) (e : Env) (w : World),
    Le (aBody P call dfr rs nt c x e w) (aBody P call' dfr rs nt c x e w) := by
  intro c
  induction c with
  | seq a b _ ih =>
    intro x e w
    cases x with
    | s x y =>
      cases a with
      | region id ops draw =>
        simp only [Option.ebind_eq, aBody]
        split
        · split
          · exact aOps_mono hc _ _ _ _ _ _ _ _ fun e w => Le.bind (Le.refl _) fun vs => Le.bind (ih _ _ _) fun _ => Le.refl _
          · exact Le.refl _
        · exact aCode_mono hc _ _ _ _ _ _ _ fun e w => ih _ _ _
      | _ => simp only [Option.ebind_eq, aBody]; exact aCode_mono hc _ _ _ _ _ _ _ fun e w => ih _ _ _
    | _ => simp only [Option.ebind_eq, aBody]; exact aCode_mono hc _ _ _ _ _ _ _ fun _ _ => Le.refl _
  | _ => intro x e w; simp only [Option.ebind_eq, aBody]; exact aCode_mono hc _ _ _ _ _ _ _ fun _ _ => Le.refl _
theorem aFun_mono (hc : ∀ f args w, Le (call f args w) (call' f args w)) {dfr : CallF} (fn : Func) (ann : Ann) (e : Env) (w : World) : Le (aFun P call dfr fn ann e w) (aFun P call' dfr fn ann e w) := by
  unfold aFun
  split
  · split
    · exact Le.bind (aBody_mono hc _ _ _ _) fun _ => Le.refl _
    · exact Le.bind (aBody_mono hc _ _ _ _) fun _ => Le.refl _
  · exact Le.refl _
end

/-! ### calls -/
section
variable {P : Program} {ann : FuncId → Ann} {prim : Prim}
theorem Tells.one {f : FuncId} {args : Array Value} {w : World} {r r' : Value × World} (h : Tells P ann prim f args w r) (h' : Tells P ann prim f args w r') : r = r' := by
  induction h generalizing r' with
  | prim h =>
    cases h' with
    | prim g => rw [h] at g; exact Option.some.inj g
    | body fn call hn _ _ _ _ => rw [h] at hn; cases hn
  | body fn call hn hf hc hcall h ih =>
    cases h' with
    | prim g => rw [hn] at g; cases g
    | body fn' call' hn' hf' hc' hcall' h' =>
      have : fn' = fn := Option.some.inj (hf'.symm.trans hf)
      subst this
      let both : CallF := fun f args w => match call f args w with | some r => some r | none => call' f args w
      have m1 : ∀ f args w, Le (call f args w) (both f args w) := fun f args w r hr => by simp only [both, hr]
      have m2 : ∀ f args w, Le (call' f args w) (both f args w) := fun f args w r hr => by
        simp only [both]
        split
        · rename_i q hq; rw [ih f args w q hq (hcall' f args w r hr)]
        · exact hr
      have e1 := aFun_mono m1 _ _ _ _ _ h
      have e2 := aFun_mono m2 _ _ _ _ _ h'
      rw [e1] at e2
      exact Option.some.inj e2

theorem tells_of_run {f : FuncId} {args : Array Value} {w : World} {r : Value × World} (h : run P ann prim f args w = some r) : Tells P ann prim f args w r := by
  unfold run at h
  split at h
  · rename_i hr; simp only [Option.some.injEq] at h; rw [← h]; exact Classical.choose_spec hr
  · cases h
theorem run_of_tells {f : FuncId} {args : Array Value} {w : World} {r : Value × World} (h : Tells P ann prim f args w r) : run P ann prim f args w = some r := by
  unfold run
  have hr : ∃ r, Tells P ann prim f args w r := ⟨r, h⟩
  rw [dif_pos hr, (Classical.choose_spec hr).one h]
/-- a call, by its body -/
theorem run_body {f : FuncId} {args : Array Value} {w : World} {r : Value × World} {fn : Func} (hf : P.funcs[f]? = some fn) (hc : callable P f = true) (hn : prim.call f args w = none)
    (h : aFun P (run P ann prim) prim.dfr fn (ann f) (ofArgs args) w = some r) : run P ann prim f args w = some r :=
  run_of_tells (.body fn _ hn hf hc (fun _ _ _ _ h => tells_of_run h) h)
theorem run_prim {f : FuncId} {args : Array Value} {w : World} {r : Value × World} (h : prim.call f args w = some r) : run P ann prim f args w = some r := run_of_tells (.prim h)

def readVar (tmps : Array Value) (x : ResultVar) : Sem Value := match x with
  | .tmp t => pure (tmps.getD t undef)
  | .cell a t => do loadVar t (← asAddr (tmps.getD a undef))
theorem results_eq (fn : Func) (tmps : Array Value) : results fn tmps = (do let vs ← fn.results.mapM (readVar tmps); pure (if h : vs.size = 1 then vs[0] else .tuple vs)) := by
  unfold results
  congr 1
theorem run_mapM {rs : List ResultVar} {ts : List Nat} (h : tmpsOf rs = some ts) {tmps : Array Value} {vs : List Value} (hl : vs.length = ts.length) (hv : ∀ (i t : Nat), ts[i]? = some t → tmps[t]? = some (nth vs i)) (w : World) :
    (rs.mapM (readVar tmps)).run P w = .ok vs w := by
  induction rs generalizing ts vs with
  | nil =>
    simp only [tmpsOf, Option.some.injEq] at h
    subst h
    have : vs = [] := List.length_eq_zero_iff.mp (by simpa using hl)
    subst this
    simp
  | cons x r ih =>
    cases x with
    | cell a t => simp [tmpsOf] at h
    | tmp t =>
      simp only [tmpsOf, Option.bind_eq_some_iff, Option.some.injEq] at h
      obtain ⟨l, h1, rfl⟩ := h
      cases vs with
      | nil => simp at hl
      | cons v vs =>
        have h0 := hv 0 t (by simp)
        simp only [nth] at h0
        rw [List.mapM_cons]
        have e1 : (readVar tmps (.tmp t)).run P w = .ok v w := by
          have : tmps.getD t undef = v := by simp [h0]
          simp only [readVar, this]; rfl
        rw [run_ok e1, run_ok (ih h1 (by simpa using hl) fun i t' ht => by have := hv (i + 1) t' (by simpa using ht); simpa [nth] using this)]
        rfl

theorem results_ok {fn : Func} {ts : List Nat} (h : tmpsOf fn.results.toList = some ts) {a : Act} {vs : List Value} (hh : Has ts vs a) (w : World) : (results fn a.tmps).run P w = .ok (outcome vs) w := by
  rw [results_eq]
  have e1 : (fn.results.mapM (readVar a.tmps)).run P w = .ok vs.toArray w := by
    rw [Array.mapM_eq_mapM_toList]
    have := run_mapM (P := P) h hh.1 hh.2 w
    exact run_ok (f := fun l => (pure l.toArray : Sem (Array Value))) this
  rw [run_ok e1]
  cases vs with
  | nil => rfl
  | cons v r => cases r <;> rfl

theorem run_mapR {rs : List ResultVar} {tmps : Array Value} {vs us : List Value} {w : World} (hu : loadsOf P rs vs w = some us) (hv : ∀ (i t : Nat), (slotsOf rs)[i]? = some t → tmps[t]? = some (nth vs i)) :
    (rs.mapM (readVar tmps)).run P w = .ok us w := by
  induction rs generalizing vs us with
  | nil =>
    simp only [loadsOf, Option.some.injEq] at hu
    subst hu
    simp
  | cons x r ih =>
    cases vs with
    | nil => cases x <;> simp [loadsOf] at hu
    | cons v vs =>
      cases x with
      | tmp t =>
        simp only [loadsOf, Option.bind_eq_some_iff, Option.some.injEq] at hu
        obtain ⟨l, h1, rfl⟩ := hu
        have h0 := hv 0 t (by simp [slotsOf])
        simp only [nth] at h0
        rw [List.mapM_cons]
        have e1 : (readVar tmps (.tmp t)).run P w = .ok v w := by
          have : tmps.getD t undef = v := by simp [h0]
          simp only [readVar, this]; rfl
        rw [run_ok e1, run_ok (ih h1 fun i t' ht => by have := hv (i + 1) t' (by simpa [slotsOf] using ht); simpa [nth] using this)]
        rfl
      | cell a t =>
        have h0 := hv 0 a (by simp [slotsOf])
        simp only [nth] at h0
        cases v with
        | pointer p =>
          cases p with
          | none => simp [loadsOf] at hu
          | some p =>
            simp only [loadsOf, Option.bind_eq_some_iff, Option.some.injEq] at hu
            obtain ⟨u, h2, l, h1, rfl⟩ := hu
            rw [List.mapM_cons]
            have e1 : (readVar tmps (.cell a t)).run P w = .ok u w := by
              have hg : tmps.getD a undef = .pointer (some p) := by simp [h0]
              have h3 : rrun P (loadVar t p) w = some u := h2
              have h4 := rrun_run h3
              simp only [readVar, hg]
              exact h4
            rw [run_ok e1, run_ok (ih h1 fun i t' ht => by have := hv (i + 1) t' (by simpa [slotsOf] using ht); simpa [nth] using this)]
            rfl
        | _ => simp [loadsOf] at hu
theorem results_okR {fn : Func} {a : Act} {vs us : List Value} {w : World} (hu : loadsOf P fn.results.toList vs w = some us) (hh : Has (slotsOf fn.results.toList) vs a) : (results fn a.tmps).run P w = .ok (outcome us) w := by
  rw [results_eq]
  have e1 : (fn.results.mapM (readVar a.tmps)).run P w = .ok us.toArray w := by
    rw [Array.mapM_eq_mapM_toList]
    have := run_mapR (P := P) hu hh.2
    exact run_ok (f := fun l => (pure l.toArray : Sem (Array Value))) this
  rw [run_ok e1]
  cases us with
  | nil => rfl
  | cons v r => cases r <;> rfl

/-- what is told of deferred calls holds -/
structure DefOk (P : Program) (dfr : CallF) : Prop where
  enter : ∀ f args w r, dfr f args w = some r → (invoke (.fn (.func f) #[]) args).run P w = .ok (.enter f args) w
  calls : ∀ f args w r, dfr f args w = some r → CallsD P f args .returning w fun e u' w' => e = .returned r.1 ∧ u' = .returning ∧ w' = r.2
structure PrimOk (P : Program) (prim : Prim) : Prop where
  call : CallOk P prim.call
  dfr : DefOk P prim.dfr

theorem deferOf_spec {ops : List Oper} {c : Call} {f : FuncId} (h : deferOf ops = some (c, f)) : ∃ o, ops = ops.dropLast ++ [o] ∧ o.op = .defer c ∧ o.guard = none ∧ o.dst = none ∧ c.callee = .value (.func f) := by
  unfold deferOf at h
  split at h
  · rename_i o ho
    split at h
    · rename_i c' h1 h2 h3
      split at h
      · rename_i f' h4
        obtain ⟨rfl, rfl⟩ := Prod.mk.inj (Option.some.inj h)
        refine ⟨o, ?_, h1, h2, h3, h4⟩
        have hne : ops ≠ [] := by intro e; rw [e] at ho; simp at ho
        have : ops.getLast hne = o := by rw [List.getLast?_eq_some_getLast hne] at ho; exact Option.some.inj ho
        rw [← this, List.dropLast_concat_getLast]
      · cases h
    · cases h
  · cases h

theorem aBody_ok {call dfr : CallF} (hc : CallOk P call) (hd : DefOk P dfr) (hm : P.follows .mixedOrders = true) {fn : Func} {R : Ending → World → Prop} {rs : List Nat} {nt : Nat} :
    ∀ (c : Code) (x : Ann) (e : Env) (w : World) (r : Res), aBody P call dfr rs nt c x e w = some r →
      ∀ (ds : List Deferred), (∀ a' vs w', (r = .norm vs w' ∨ r = .ret vs w') → Has rs vs a' → Leaves P fn a'.tmps R ds .returning w') →
      (∀ id vs w', r ≠ .exit id vs w') → ∀ a, From nt ds a → Agree e a → c.wp P (bodyPostD P fn R) a w := by
  intro c
  have plain : ∀ (c : Code) (x : Ann) (e : Env) (w : World) (r : Res), (aCode P call rs nt c x [] e w fun e w => (gets e rs).bind fun vs => some (.norm vs w)) = some r →
      ∀ (ds : List Deferred), (∀ a' vs w', (r = .norm vs w' ∨ r = .ret vs w') → Has rs vs a' → Leaves P fn a'.tmps R ds .returning w') →
      (∀ id vs w', r ≠ .exit id vs w') → ∀ a, From nt ds a → Agree e a → c.wp P (bodyPostD P fn R) a w := by
    intro c x e w r h ds hL hx a hf ha
    refine aCode_ok hc hm c x [] e w _ r h _ a hf ha ?_ ?_ ?_
    · intro e' w' h4 a' hf' ha'
      simp only [Option.bind_eq_some_iff, Option.some.injEq] at h4
      obtain ⟨vs, h5, rfl⟩ := h4
      show Leaves P fn a'.tmps R a'.defers .returning w'
      rw [hf'.defers]
      exact hL a' vs w' (.inl rfl) (.of ha' h5)
    · intro id vs w' he
      exact absurd he (hx id vs w')
    · intro vs w' he a' hf' hh
      show Leaves P fn a'.tmps R a'.defers .returning w'
      rw [hf'.defers]
      exact hL a' vs w' (.inr he) hh
  induction c with
  | seq c1 c2 ih1 ih =>
    intro x e w r h ds hL hx a hf ha
    have step : ∀ x y, (aCode P call rs nt c1 x [] e w fun e w => aBody P call dfr rs nt c2 y e w) = some r → (c1.seq c2).wp P (bodyPostD P fn R) a w := by
      intro x y h
      refine wp_seq (aCode_ok hc hm c1 x [] e w _ r h _ a hf ha ?_ ?_ ?_)
      · intro e' w' h4 a' hf' ha'
        exact ih y e' w' r h4 ds hL hx a' hf' ha'
      · intro id vs w' he
        exact absurd he (hx id vs w')
      · intro vs w' he a' hf' hh
        show Leaves P fn a'.tmps R a'.defers .returning w'
        rw [hf'.defers]
        exact hL a' vs w' (.inr he) hh
    cases x with
    | s x y =>
      cases c1 with
      | region id ops draw =>
        simp only [Option.ebind_eq, aBody] at h
        split at h
        · rename_i c f hdef
          split at h
          case isFalse => cases h
          rename_i hreg
          obtain ⟨o, hops, ho1, ho2, ho3, ho4⟩ := deferOf_spec hdef
          refine wp_seq (wp_region ?_)
          have hidx : ∀ m, m < ops.toList.dropLast.length → ops.toList[0 + m]? = ops.toList.dropLast[m]? := fun m hm' => by
            rw [Nat.zero_add]
            conv => lhs; rw [hops]
            rw [List.getElem?_append_left hm']
          generalize hQ : (Exit.then (c2.wp P (bodyPostD P fn R)) (bodyPostD P fn R)) = Q
          have hst : StripOk ops.toList [] 0 a := fun j b h => by simp [inStrip] at h
          obtain ⟨e', w', h1, h2⟩ := aOps_ok hc hreg (steps_wp hc ops.toList Q) _ 0 _ [] e w _ r h hidx
          simp only [Option.bind_eq_some_iff] at h1
          obtain ⟨vs, hv, r1, hr1, hr2⟩ := h1
          have key : wpG (wpStep P Q) ops.toList.toArray ops.toList (Q .normal) a w := by
            conv => arg 3; rw [hops]
            refine wpG_append _ _ (steps_wp hc ops.toList Q).mono _ _ _ a w ?_
            refine h2 _ a hf.size ha hst fun a' hk ha' => ?_
            have hw : Region.wanted o (yielded ops.toList.toArray a'.tmps) = true := by simp [Region.wanted, ho2]
            unfold wpG
            rw [if_pos hw]
            refine .inl ?_
            have hargs : c.args.map a'.eval = vs.toArray := ha'.evalsA hv
            have ef : a'.eval (.func f) = .func (.func f) #[] #[] := rfl
            have hr : (execOp a'.eval o).run P w' = .ok (.defer ⟨.fn (.func f) #[], vs.toArray⟩) w' := by
              unfold execOp
              simp [ho1, resolve, ho4, Deferred.ofValue, ef, hargs]
            unfold Oper.wp
            rw [hr, Oper.upon_defer, ho3, ← hQ]
            show c2.wp P (bodyPostD P fn R) _ w'
            refine ih y e' w' r1 hr1 (⟨.fn (.func f) #[], vs.toArray⟩ :: ds) ?_ ?_ _ ⟨?_, ?_⟩ ?_
            · intro a'' us w1 hr1' hh
              rcases hr1' with rfl | rfl
              · simp only [Res.after, Option.bind_eq_some_iff, Option.some.injEq] at hr2
                obtain ⟨q, hq, rfl⟩ := hr2
                refine leaves_cons (by simp) (hd.enter _ _ _ _ hq) ((hd.calls _ _ _ _ hq).mono ?_)
                rintro e2 u2 w2 ⟨rfl, rfl, rfl⟩
                exact hL a'' us q.2 (.inl rfl) hh
              · simp only [Res.after, Option.bind_eq_some_iff, Option.some.injEq] at hr2
                obtain ⟨q, hq, rfl⟩ := hr2
                refine leaves_cons (by simp) (hd.enter _ _ _ _ hq) ((hd.calls _ _ _ _ hq).mono ?_)
                rintro e2 u2 w2 ⟨rfl, rfl, rfl⟩
                exact hL a'' us q.2 (.inr rfl) hh
            · intro id' us w1 he
              subst he
              simp [Res.after] at hr2
            · show nt ≤ a'.tmps.size
              rw [hk.size]; exact hf.size
            · show _ :: a'.defers = _
              rw [hk.defers, hf.defers]
            · exact ha'
          have := wpList_of_wpG _ _ _ key
          have e1 := wpOps_eq_wpList (P := P) (Q := Q) (ops := ops) ops.toList 0 (fun j => by simp)
          rw [Array.toArray_toList] at this
          rw [← e1] at this
          simpa [List.range_eq_range'] using this
        · exact step x y h
      | _ => simp only [Option.ebind_eq, aBody] at h; exact step x y h
    | _ => simp only [Option.ebind_eq, aBody] at h; exact plain _ _ e w r h ds hL hx a hf ha
  | _ => intro x e w r h ds hL hx a hf ha; simp only [Option.ebind_eq, aBody] at h; exact plain _ x e w r h ds hL hx a hf ha

theorem calls_of_tells (hm : P.follows .mixedOrders = true) (hp : PrimOk P prim) {f : FuncId} {args : Array Value} {w : World} {r : Value × World} (h : Tells P ann prim f args w r) :
    (callFunc f args).run P w = .ok (.enter f args) w ∧ Calls P f args w fun e w' => e = .returned r.1 ∧ w' = r.2 := by
  induction h with
  | prim h => exact ⟨hp.call.enter _ _ _ _ h, hp.call.calls _ _ _ _ h⟩
  | @body f args w r fn call hn hf hc hcall h ih =>
    have hcall' : CallOk P call := ⟨fun f args w r h => (ih f args w r h).1, fun f args w r h => (ih f args w r h).2⟩
    refine ⟨?_, ?_⟩
    · unfold callable at hc
      rw [hf] at hc
      simp only [Bool.and_eq_true, bne_iff_ne, ne_eq] at hc
      unfold callFunc
      have hpp : (program : Sem Program).run P w = .ok P w := rfl
      rw [run_ok hpp, hf]
      have h1 : (fn.name == "runtime.NumGoroutine") = false := by simpa using hc.2
      have h2 : fn.body.isNone = false := by cases hb : fn.body with | none => simp [hb] at hc | some b => rfl
      simp [h1, h2]
    · unfold aFun at h
      split at h
      · rename_i c hb
        refine calls_of_wp_defers hf hb ?_
        have hargs : Agree (ofArgs args) { tmps := args ++ Array.replicate (fn.ntmps - args.size) undef, defers := [] } := by
          intro t v ht
          simp only [ofArgs] at ht
          have hlt : t < args.size := (Array.getElem?_eq_some_iff.mp ht).1
          rw [Array.getElem?_append_left hlt]; exact ht
        split at h
        case h_2 hts =>
          simp only [Option.bind_eq_some_iff] at h
          obtain ⟨r1, h2, h3⟩ := h
          refine aBody_ok hcall' hp.dfr hm c _ _ w r1 h2 [] ?_ ?_ _ ⟨by simp; omega, rfl⟩ hargs
          · intro a' vs w' he hh
            rcases he with he | he <;>
            · subst he
              simp only [Res.doneR, Option.bind_eq_some_iff, Option.some.injEq] at h3
              obtain ⟨us, hu, rfl⟩ := h3
              exact ⟨_, results_okR hu hh, rfl, rfl⟩
          · intro id vs w' he
            subst he
            simp [Res.doneR] at h3
        rename_i ts h1
        simp only [Option.bind_eq_some_iff] at h
        obtain ⟨r1, h2, h3⟩ := h
        refine aBody_ok hcall' hp.dfr hm c _ _ w r1 h2 [] ?_ ?_ _ ⟨by simp; omega, rfl⟩ hargs
        · intro a' vs w' he hh
          rcases he with he | he <;>
          · subst he
            simp only [Res.done, Option.some.injEq] at h3
            subst h3
            exact ⟨_, results_ok h1 hh w', rfl, rfl⟩
        · intro id vs w' he
          subst he
          simp [Res.done] at h3
      · cases h

/-- THE LAYER IS SOUND. -/
theorem calls_of_run (hm : P.follows .mixedOrders = true) (hp : PrimOk P prim) {f : FuncId} {args : Array Value} {w : World} {r : Value × World} (h : run P ann prim f args w = some r) :
    Calls P f args w fun e w' => e = .returned r.1 ∧ w' = r.2 := (calls_of_tells hm hp (tells_of_run h)).2
def noPrim : Prim := ⟨fun _ _ _ => none, fun _ _ _ => none⟩
theorem noPrim_ok : PrimOk P noPrim := ⟨⟨fun _ _ _ _ h => by simp [noPrim] at h, fun _ _ _ _ h => by simp [noPrim] at h⟩, ⟨fun _ _ _ _ h => by simp [noPrim] at h, fun _ _ _ _ h => by simp [noPrim] at h⟩⟩
end
end Go.Sh
