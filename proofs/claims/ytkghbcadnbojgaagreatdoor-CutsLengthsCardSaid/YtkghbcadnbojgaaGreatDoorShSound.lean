/- The layer 'Sh' is sound: what the interpreter tells, the model's machine does. No condition. -/
import Derived.Test.YtkghbcadnbojgaaGreatDoorShCore
namespace Go.Sh
set_option linter.unusedSimpArgs false
open Go

/-! ### runs -/
theorem run_bind {α β : Type} (P : Program) (s : Sem α) (f : α → Sem β) : ∀ w, (s >>= f).run P w = match s.run P w with
    | .ok a w' => (f a).run P w'
    | .halt h w' => .halt h w' := by
  show ∀ w, (Sem.bind s f).run P w = _
  induction s with
  | pure a => intro w; rfl
  | load m a k ih =>
    intro w
    simp only [Sem.bind, Sem.run]
    split
    · exact ih _ _
    · split
      · exact ih _ _
      · rfl
  | store m a v k ih =>
    intro w
    cases v <;> simp only [Sem.bind, Sem.run] <;> (try rfl) <;> (split <;> (try split) <;> first | rfl | exact ih _)
  | new o k ih => intro w; exact ih _ _
  | shape r k ih => intro w; exact ih _ _
  | freeze a n k ih => intro w; exact ih _
  | frozen a k ih => intro w; exact ih _ _
  | getObj r k ih =>
    intro w
    simp only [Sem.bind, Sem.run]
    split
    · rfl
    · exact ih _ _
    · rfl
  | setObj r o k ih =>
    intro w
    simp only [Sem.bind, Sem.run]
    split
    · rfl
    · exact ih _
    · rfl
  | choose q k ih =>
    intro w
    simp only [Sem.bind, Sem.run]
    split <;> exact ih _ _
  | sys c k ih => intro w; exact ih _ _
  | program k ih => intro w; exact ih _ _
  | mark m k ih => intro w; exact ih _
  | halt h => intro w; rfl

theorem run_ok {α β : Type} {P : Program} {s : Sem α} {f : α → Sem β} {w w' : World} {a : α} (h : s.run P w = .ok a w') : (s >>= f).run P w = (f a).run P w' := by
  rw [run_bind, h]

theorem prun_run {α : Type} {P : Program} {s : Sem α} : ∀ {v : α}, prun P s = some v → ∀ w, s.run P w = .ok v w := by
  induction s with
  | pure a => intro v h w; simp only [prun, Option.some.injEq] at h; subst h; rfl
  | program k ih => intro v h w; exact ih _ h w
  | mark m k ih => intro v h w; exact ih h w
  | _ => intro v h; simp [prun] at h

theorem rrun_run {α : Type} {P : Program} {s : Sem α} : ∀ {v : α} {w}, rrun P s w = some v → s.run P w = .ok v w := by
  induction s with
  | pure a => intro v w h; simp only [rrun, Option.some.injEq] at h; subst h; rfl
  | program k ih => intro v w h; exact ih _ h
  | mark m k ih => intro v w h; exact ih h
  | load m a k ih =>
    intro v w h
    simp only [rrun] at h
    simp only [Sem.run]
    split at h
    · rename_i x hx; rw [hx]; exact ih _ h
    · cases h
  | shape r k ih => intro v w h; exact ih _ h
  | frozen a k ih => intro v w h; exact ih _ h
  | getObj r k ih =>
    intro v w h
    simp only [rrun] at h
    simp only [Sem.run]
    split at h
    · cases h
    · rename_i o ho hx; rw [hx]
      cases o <;> first | exact ih _ h | (rename_i c e f; exact absurd rfl (ho c e f))
    · cases h
  | _ => intro v w h; simp [rrun] at h

theorem erun_run {α : Type} {P : Program} {s : Sem α} {v : α × World} {w : World} (h : erun P s w = some v) : s.run P w = .ok v.1 v.2 := by
  unfold erun at h
  split at h
  · rename_i hr; simp only [Option.some.injEq] at h; subst h; exact hr
  · cases h

/-! ### environments and frames -/
def Agree (e : Env) (a : Act) : Prop := ∀ t v, e t = some v → a.tmps[t]? = some v

theorem Agree.eval {e : Env} {a : Act} (h : Agree e a) {x : Operand} {v : Value} (hx : ev e x = some v) : a.eval x = v := by
  cases x with
  | tmp t => have := h t v hx; simp [Act.eval, this]
  | const c => simpa [ev, Act.eval] using hx
  | global g => simpa [ev, Act.eval] using hx
  | func f => simpa [ev, Act.eval] using hx

theorem Agree.evals {e : Env} {a : Act} (h : Agree e a) : ∀ {l : List Operand} {vs : List Value}, evs e l = some vs → l.map a.eval = vs := by
  intro l
  induction l with
  | nil => intro vs hv; simpa [evs] using hv
  | cons x r ih =>
    intro vs hv
    simp only [evs, Option.bind_eq_some_iff, Option.some.injEq] at hv
    obtain ⟨v, h1, ws, h2, rfl⟩ := hv
    simp [h.eval h1, ih h2]

theorem Agree.evalsA {e : Env} {a : Act} (h : Agree e a) {l : Array Operand} {vs : List Value} (hv : evs e l.toList = some vs) : l.map a.eval = vs.toArray := by
  apply Array.ext'
  rw [Array.toList_map, h.evals hv]

theorem set_eq {e : Env} {d t : Nat} {v : Value} : e.set d v t = if t = d then some v else e t := by
  unfold Env.set
  by_cases h : t = d
  · subst h; simp
  · have : Nat.beq t d = false := by
      cases hb : Nat.beq t d with
      | false => rfl
      | true => exact absurd (Nat.eq_of_beq_eq_true hb) h
    simp [this, h]

theorem Agree.set {e : Env} {a : Act} (h : Agree e a) {d : Nat} {v : Value} (hd : d < a.tmps.size) : Agree (e.set d v) (a.put (some d) v) := by
  intro t u ht
  rw [set_eq] at ht
  simp only [Act.put]
  by_cases htd : t = d
  · subst htd; simp at ht; subst ht; simp [hd]
  · simp only [htd, if_false] at ht
    rw [Array.getElem?_setIfInBounds_ne (fun h' => htd h'.symm)]
    exact h t u ht

theorem Agree.put {e : Env} {a : Act} (h : Agree e a) {d : Option Nat} {v : Value} (hd : ∀ n, d = some n → n < a.tmps.size) : Agree (e.put d v) (a.put d v) := by
  cases d with
  | none => exact h
  | some d => exact h.set (hd d rfl)

theorem Agree.gets {e : Env} {a : Act} (h : Agree e a) : ∀ {K : List Nat} {vs : List Value}, gets e K = some vs → ∀ i t, K[i]? = some t → a.tmps[t]? = some (nth vs i) := by
  intro K
  induction K with
  | nil => intro vs _ i t ht; simp at ht
  | cons x r ih =>
    intro vs hv i t ht
    simp only [Sh.gets, Option.bind_eq_some_iff, Option.some.injEq] at hv
    obtain ⟨v, h1, ws, h2, rfl⟩ := hv
    cases i with
    | zero => simp at ht; subst ht; exact h _ _ h1
    | succ i => simp at ht; exact ih h2 i t ht

theorem agree_ofList {a : Act} {vs : List Value} : ∀ {K : List Nat} {n : Nat}, (∀ i t, K[i]? = some t → a.tmps[t]? = some (nth vs (n + i))) → Agree (ofList n K vs) a := by
  intro K
  induction K with
  | nil => intro n _ t v h; simp [ofList, Env.nil] at h
  | cons x r ih =>
    intro n h t v hv
    simp only [ofList, set_eq] at hv
    split at hv
    · rename_i htx; subst htx; simp at hv; subst hv; simpa using h 0 t (by simp)
    · refine ih (n := n + 1) (fun i t ht => ?_) t v hv
      have := h (i + 1) t (by simpa using ht)
      rwa [show n + 1 + i = n + (i + 1) by omega]

theorem agree_gets {e : Env} {a : Act} (h : Agree e a) {K : List Nat} {vs : List Value} (hv : gets e K = some vs) : Agree (ofList 0 K vs) a :=
  agree_ofList fun i t ht => by simpa using h.gets hv i t ht

/-! ### one operation -/
/-- what a call answers is what the machine comes to -/
structure CallOk (P : Program) (call : CallF) : Prop where
  enter : ∀ f args w r, call f args w = some r → (callFunc f args).run P w = .ok (.enter f args) w
  calls : ∀ f args w r, call f args w = some r → Calls P f args w fun e w' => e = .returned r.1 ∧ w' = r.2

def ExecTo (P : Program) (call : CallF) (o : Oper) (e : Env) (w : World) (v : Value) (w' : World) : Prop :=
  ∀ a, Agree e a → ((execOp a.eval o).run P w = .ok (.value v) w' ∨ ((execOp a.eval o).run P w = .ok .skip w' ∧ v = undef) ∨
    ∃ f args, (execOp a.eval o).run P w = .ok (.enter f args) w ∧ call f args w = some (v, w'))
/-- .. without a call, and the world as it was -/
def ExecQuiet (P : Program) (o : Oper) (e : Env) (w : World) (v : Value) (w' : World) : Prop :=
  w' = w ∧ ∀ a, Agree e a → ((execOp a.eval o).run P w = .ok (.value v) w ∨ ((execOp a.eval o).run P w = .ok .skip w ∧ v = undef))

theorem evs_one {e : Env} {x : Operand} {vs : List Value} (h : evs e [x] = some vs) : ∃ v, ev e x = some v ∧ vs = [v] := by
  simp only [evs, Option.bind_eq_some_iff, Option.some.injEq] at h
  obtain ⟨v, h1, ws, rfl, rfl⟩ := h
  exact ⟨v, h1, rfl⟩

theorem evs_opt {e : Env} {a : Act} (h : Agree e a) {x : Option Operand} {vs : List Value} (hv : evs e x.toList = some vs) : x.map a.eval = vs.head? := by
  cases x with
  | none => simp [evs] at hv; subst hv; rfl
  | some x => obtain ⟨v, h1, rfl⟩ := evs_one (by simpa using hv); simp [h.eval h1]

theorem evs_pairs {e : Env} {a : Act} (h : Agree e a) {ps : Array (Nat × Operand)} {vs : List Value} (hv : evs e (ps.toList.map (·.2)) = some vs) :
    (ps.map fun (i, x) => (i, a.eval x)) = ((ps.toList.map (·.1)).zip vs).toArray := by
  apply Array.ext'
  rw [Array.toList_map]
  have := h.evals hv
  rw [← this]
  simp only [List.map_map]
  induction ps.toList with
  | nil => rfl
  | cons p r ih => simp [ih]

theorem run_v {P : Program} {s : Sem Value} {w w' : World} {v : Value} (h : s.run P w = .ok v w') : (do pure (Next.value (← s)) : Sem Next).run P w = .ok (.value v) w' := by
  rw [run_ok h]; rfl
theorem run_u {P : Program} {s : Sem Unit} {w w' : World} {v : Unit} (h : s.run P w = .ok v w') : (do s; pure Next.skip : Sem Next).run P w = .ok .skip w' := by
  rw [run_ok h]; rfl

theorem bin_run {P : Program} {op : BinOp} {t : TypeId} {x y : Operand} {a b v : Value} (hop : arith op = true) (h : bin op a b = some v) (w : World) :
    (do eqGuard op t x y a b; binOp op t a b : Sem Value).run P w = .ok v w := by
  cases a <;> cases b <;> simp only [bin] at h <;> try (cases h; done)
  rename_i k n k' m
  split at h
  case isFalse => cases h
  rename_i hk; subst hk
  have g : eqGuard op t x y (.int k n) (.int k m) = (pure () : Sem Unit) := by cases op <;> rfl
  rw [g]
  show (binOp op t (.int k n) (.int k m)).run P w = _
  by_cases hm : m = 0
  · subst hm
    cases op <;> simp [arith] at hop <;> simp at h <;> subst h <;> simp [binOp, Op.intArith, Op.intCmp, pure] <;> rfl
  · cases op <;> simp [arith] at hop <;> simp [hm] at h <;> subst h <;> simp [binOp, Op.intArith, Op.intCmp, Op.intDiv, pure, hm] <;> rfl

section
variable {P : Program} {call : CallF}

theorem callV_ok (hc : CallOk P call) {e : Env} {a : Act} (h : Agree e a) {x : Operand} {c : Call} {o : Oper} (hcal : c.callee = .value x) {f : Value} {vs : List Value} {w : World} {r : Value × World}
    (hf : ev e x = some f) (hv : evs e c.args.toList = some vs) (hr : callV call f vs w = some r) :
    ∃ g args, (do let d ← resolve a.eval c o.type; invoke d.target d.args : Sem Next).run P w = .ok (.enter g args) w ∧ call g args w = some r := by
  unfold callV at hr
  split at hr
  · rename_i g first cap
    refine ⟨g, _, ?_, hr⟩
    have h1 := h.eval hf
    have h2 := h.evalsA hv
    have : (resolve a.eval c o.type).run P w = .ok { target := .fn (.func g) cap, args := first ++ vs.toArray } w := by
      unfold resolve; simp only [h2, hcal, h1, Deferred.ofValue]; rfl
    rw [run_ok this]
    exact hc.enter _ _ _ _ hr
  · cases hr

theorem aOp_ok (hc : CallOk P call) {ρ : Type} {o : Oper} {e : Env} {w : World} {next : Value → World → Option ρ} {r : ρ} (h : aOp P call o e w next = some r) :
    ∃ v w', next v w' = some r ∧ ExecTo P call o e w v w' ∧ (quietOp P o.op = true → ExecQuiet P o e w v w') := by
  obtain ⟨dst, op, type, pos, after, guard⟩ := o
  have val : ∀ {v : Value} {w' : World}, next v w' = some r → (∀ a, Agree e a → (execOp a.eval ⟨dst, op, type, pos, after, guard⟩).run P w = .ok (.value v) w') →
      (quietOp P op = true → w' = w) → ∃ v w', next v w' = some r ∧ ExecTo P call ⟨dst, op, type, pos, after, guard⟩ e w v w' ∧ (quietOp P op = true → ExecQuiet P ⟨dst, op, type, pos, after, guard⟩ e w v w') :=
    fun hn hx hq => ⟨_, _, hn, fun a ha => .inl (hx a ha), fun q => ⟨hq q, fun a ha => .inl (by rw [hx a ha, hq q])⟩⟩
  have ski : ∀ {w' : World}, next undef w' = some r → (∀ a, Agree e a → (execOp a.eval ⟨dst, op, type, pos, after, guard⟩).run P w = .ok .skip w') →
      (quietOp P op = false) → ∃ v w', next v w' = some r ∧ ExecTo P call ⟨dst, op, type, pos, after, guard⟩ e w v w' ∧ (quietOp P op = true → ExecQuiet P ⟨dst, op, type, pos, after, guard⟩ e w v w') :=
    fun hn hx hq => ⟨_, _, hn, fun a ha => .inr (.inl ⟨hx a ha, rfl⟩), fun q => by rw [hq] at q; cases q⟩
  have ent : ∀ {v : Value} {w' : World}, next v w' = some r → (∀ a, Agree e a → ∃ f args, (execOp a.eval ⟨dst, op, type, pos, after, guard⟩).run P w = .ok (.enter f args) w ∧ call f args w = some (v, w')) →
      (quietOp P op = false) → ∃ v w', next v w' = some r ∧ ExecTo P call ⟨dst, op, type, pos, after, guard⟩ e w v w' ∧ (quietOp P op = true → ExecQuiet P ⟨dst, op, type, pos, after, guard⟩ e w v w') :=
    fun hn hx hq => ⟨_, _, hn, fun a ha => .inr (.inr (hx a ha)), fun q => by rw [hq] at q; cases q⟩
  unfold aOp at h
  simp only [Option.ebind_eq] at h
  cases op <;> simp only [] at h <;> try (cases h; done)
  case move x =>
    simp only [Option.bind_eq_some_iff] at h
    obtain ⟨v, h1, h2⟩ := h
    exact val h2 (fun a ha => by simp only [execOp, ha.eval h1]; rfl) (fun _ => rfl)
  case assign x =>
    simp only [Option.bind_eq_some_iff] at h
    obtain ⟨v, h1, h2⟩ := h
    exact val h2 (fun a ha => by simp only [execOp, ha.eval h1]; rfl) (fun _ => rfl)
  case pick c x y =>
    simp only [Option.bind_eq_some_iff] at h
    obtain ⟨vc, h1, vx, h2, vy, h3, v, h4, h5⟩ := h
    refine val h5 (fun a ha => ?_) (fun _ => rfl)
    simp only [execOp, ha.eval h1, ha.eval h2, ha.eval h3]
    unfold pickV at h4
    split at h4 <;> cases h4 <;> rfl
  case alloc t =>
    simp only [Option.bind_eq_some_iff] at h
    obtain ⟨v, h1, h2⟩ := h
    exact val h2 (fun a ha => run_v (erun_run h1)) (fun q => by cases q)
  case box t x =>
    simp only [Option.bind_eq_some_iff] at h
    obtain ⟨v, h1, u, h2, h3⟩ := h
    exact val h3 (fun a ha => by simp only [execOp, ha.eval h1]; exact run_v (erun_run h2)) (fun q => by cases q)
  case range t x =>
    simp only [Option.bind_eq_some_iff] at h
    obtain ⟨v, h1, u, h2, h3⟩ := h
    exact val h3 (fun a ha => by simp only [execOp, ha.eval h1]; exact run_v (erun_run h2)) (fun q => by cases q)
  case next it s =>
    simp only [Option.bind_eq_some_iff] at h
    obtain ⟨v, h1, u, h2, h3⟩ := h
    exact val h3 (fun a ha => by simp only [execOp, ha.eval h1]; exact run_v (erun_run h2)) (fun q => by cases q)
  case build t ps =>
    simp only [Option.bind_eq_some_iff] at h
    obtain ⟨v, h1, u, h2, h3⟩ := h
    exact val h3 (fun a ha => by simp only [execOp, evs_pairs ha h1]; exact run_v (prun_run h2 w)) (fun _ => rfl)
  case buildSlice t n ps =>
    simp only [Option.bind_eq_some_iff] at h
    obtain ⟨v, h1, u, h2, h3⟩ := h
    exact val h3 (fun a ha => by simp only [execOp, evs_pairs ha h1]; exact run_v (erun_run h2)) (fun q => by cases q)
  case load t x =>
    simp only [Option.bind_eq_some_iff] at h
    obtain ⟨v, h1, u, h2, h3⟩ := h
    exact val h3 (fun a ha => by simp only [execOp, ha.eval h1]; exact run_v (rrun_run h2)) (fun _ => rfl)
  case store t x y =>
    simp only [Option.bind_eq_some_iff] at h
    obtain ⟨v, h1, u, h2, z, h3, h4⟩ := h
    exact ski h4 (fun a ha => by simp only [execOp, ha.eval h1, ha.eval h2]; exact run_u (erun_run h3)) rfl
  case nilCheck x =>
    simp only [Option.bind_eq_some_iff] at h
    obtain ⟨v, h1, u, h2, h3⟩ := h
    refine val h3 (fun a ha => ?_) (fun _ => rfl)
    simp only [execOp, ha.eval h1]
    unfold nilV at h2
    split at h2
    · cases h2; rfl
    · split at h2
      · rename_i hf
        split at h2
        · rename_i hn
          cases h2
          have := prun_run hn w
          simp [hf, this]
          try rfl
        · cases h2
      · cases h2
    · cases h2
  case binOp op t x y ty =>
    simp only [Option.bind_eq_some_iff] at h
    obtain ⟨vx, h1, vy, h2, h3⟩ := h
    split at h3
    · rename_i hb
      simp only [Bool.and_eq_true] at hb
      simp only [Option.bind_eq_some_iff] at h3
      obtain ⟨v, h4, h5⟩ := h3
      exact val h5 (fun a ha => by simp only [execOp, ha.eval h1, ha.eval h2]; exact run_v (bin_run hb.2 h4 w)) (fun _ => rfl)
    split at h3
    · simp only [Option.bind_eq_some_iff] at h3
      obtain ⟨v, h4, h5⟩ := h3
      exact val h5 (fun a ha => by simp only [execOp, ha.eval h1, ha.eval h2]; exact run_v (prun_run h4 w)) (fun _ => rfl)
    · simp only [Option.bind_eq_some_iff] at h3
      obtain ⟨v, h4, h5⟩ := h3
      exact val h5 (fun a ha => by simp only [execOp, ha.eval h1, ha.eval h2]; exact run_v (rrun_run h4)) (fun _ => rfl)
  case unOp op t x =>
    simp only [Option.bind_eq_some_iff] at h
    obtain ⟨v, h1, u, h2, h3⟩ := h
    exact val h3 (fun a ha => by simp only [execOp, ha.eval h1]; exact run_v (prun_run h2 w)) (fun _ => rfl)
  case convert s d x =>
    simp only [Option.bind_eq_some_iff] at h
    obtain ⟨v, h1, h2⟩ := h
    split at h2
    · simp only [Option.bind_eq_some_iff] at h2
      obtain ⟨u, h3, h4⟩ := h2
      exact val h4 (fun a ha => by simp only [execOp, ha.eval h1]; exact run_v (prun_run h3 w)) (fun _ => rfl)
    rename_i hq1
    split at h2
    · simp only [Option.bind_eq_some_iff] at h2
      obtain ⟨u, h3, h4⟩ := h2
      exact val h4 (fun a ha => by simp only [execOp, ha.eval h1]; exact run_v (rrun_run h3)) (fun _ => rfl)
    · rename_i hq
      simp only [Option.bind_eq_some_iff] at h2
      obtain ⟨u, h3, h4⟩ := h2
      exact val h4 (fun a ha => by simp only [execOp, ha.eval h1]; exact run_v (erun_run h3)) (fun q => by
        simp only [quietOp, Bool.or_eq_true] at q
        rcases q with q | q
        · exact absurd q hq
        · exact absurd q hq1)
  case makeInterface t x =>
    simp only [Option.bind_eq_some_iff] at h
    obtain ⟨v, h1, u, h2, h3⟩ := h
    exact val h3 (fun a ha => by simp only [execOp, ha.eval h1]; exact run_v (prun_run h2 w)) (fun _ => rfl)
  case makeFunc fn first cap =>
    simp only [Option.bind_eq_some_iff] at h
    obtain ⟨v, h1, u, h2, h3⟩ := h
    exact val h3 (fun a ha => by simp only [execOp, ha.evalsA h1, ha.evalsA h2]; rfl) (fun _ => rfl)
  case makeMap t r =>
    simp only [Option.bind_eq_some_iff] at h
    obtain ⟨v, h1, u, h2, h3⟩ := h
    exact val h3 (fun a ha => by simp only [execOp, evs_opt ha h1]; exact run_v (erun_run h2)) (fun q => by cases q)
  case makeSlice t l c =>
    simp only [Option.bind_eq_some_iff] at h
    obtain ⟨v, h1, u, h2, z, h3, h4⟩ := h
    exact val h4 (fun a ha => by simp only [execOp, ha.eval h1, ha.eval h2]; exact run_v (erun_run h3)) (fun q => by cases q)
  case slice t x lo hi mx =>
    simp only [Option.bind_eq_some_iff] at h
    obtain ⟨v, h1, l, h2, hh, h3, m, h4, u, h5, h6⟩ := h
    exact val h6 (fun a ha => by simp only [execOp, ha.eval h1, evs_opt ha h2, evs_opt ha h3, evs_opt ha h4]; exact run_v (prun_run h5 w)) (fun _ => rfl)
  case fieldAddr s x f =>
    simp only [Option.bind_eq_some_iff] at h
    obtain ⟨v, h1, u, h2, h3⟩ := h
    exact val h3 (fun a ha => by simp only [execOp, ha.eval h1]; exact run_v (prun_run h2 w)) (fun _ => rfl)
  case field s x f =>
    simp only [Option.bind_eq_some_iff] at h
    obtain ⟨v, h1, u, h2, h3⟩ := h
    exact val h3 (fun a ha => by simp only [execOp, ha.eval h1]; exact run_v (prun_run h2 w)) (fun _ => rfl)
  case indexAddr t x i =>
    simp only [Option.bind_eq_some_iff] at h
    obtain ⟨v, h1, u, h2, z, h3, h4⟩ := h
    exact val h4 (fun a ha => by simp only [execOp, ha.eval h1, ha.eval h2]; exact run_v (prun_run h3 w)) (fun _ => rfl)
  case index t x i =>
    simp only [Option.bind_eq_some_iff] at h
    obtain ⟨v, h1, u, h2, z, h3, h4⟩ := h
    exact val h4 (fun a ha => by simp only [execOp, ha.eval h1, ha.eval h2]; exact run_v (prun_run h3 w)) (fun _ => rfl)
  case lookup t x i ok =>
    simp only [Option.bind_eq_some_iff] at h
    obtain ⟨v, h1, u, h2, z, h3, h4⟩ := h
    exact val h4 (fun a ha => by simp only [execOp, ha.eval h1, ha.eval h2]; exact run_v (rrun_run h3)) (fun _ => rfl)
  case mapUpdate t m k x =>
    simp only [Option.bind_eq_some_iff] at h
    obtain ⟨v, h1, u, h2, y, h3, z, h4, h5⟩ := h
    exact ski h5 (fun a ha => by simp only [execOp, ha.eval h1, ha.eval h2, ha.eval h3]; exact run_u (erun_run h4)) rfl
  case typeAssert x t u ok =>
    simp only [Option.bind_eq_some_iff] at h
    obtain ⟨v, h1, z, h2, h3⟩ := h
    exact val h3 (fun a ha => by simp only [execOp, ha.eval h1]; exact run_v (prun_run h2 w)) (fun _ => rfl)
  case extract x i =>
    simp only [Option.bind_eq_some_iff] at h
    obtain ⟨v, h1, u, h2, h3⟩ := h
    exact val h3 (fun a ha => by simp only [execOp, ha.eval h1]; exact run_v (prun_run h2 w)) (fun _ => rfl)
  case call c =>
    obtain ⟨callee, cargs, cts⟩ := c
    have blt : ∀ {b : Builtin} {vs : List Value} {s : Sem Value} {v : Value} {w' : World}, evs e cargs.toList = some vs → s.run P w = .ok v w' →
        (∀ cs, builtin b cts type cs vs.toArray = (do pure (Next.value (← s)) : Sem Next)) → ∀ a, Agree e a →
        (execOp a.eval ⟨dst, .call ⟨.builtin b, cargs, cts⟩, type, pos, after, guard⟩).run P w = .ok (.value v) w' := by
      intro b vs s v w' h1 h2 h3 a ha
      simp only [execOp, resolve, ha.evalsA h1]
      show (invoke (Target.builtin b cts type _) vs.toArray).run P w = _
      simp only [invoke, h3]
      exact run_v h2
    cases callee with
    | builtin b =>
      cases b <;> simp only [] at h <;> try (cases h; done)
      all_goals simp only [Option.bind_eq_some_iff] at h
      all_goals obtain ⟨vs, h1, h⟩ := h
      all_goals try split at h
      all_goals try simp only [Option.bind_eq_some_iff] at h
      all_goals obtain ⟨u, h2, h3⟩ := h
      all_goals first
        | exact val h3 (blt h1 (rrun_run h2) fun cs => rfl) (fun _ => rfl)
        | exact val h3 (blt h1 (prun_run h2 w) fun cs => rfl) (fun _ => rfl)
        | exact val h3 (blt h1 (erun_run h2) fun cs => rfl) (fun q => by cases q)
    | invoke rc name =>
      simp only [Option.bind_eq_some_iff] at h
      obtain ⟨v, h1, vs, h2, m, h3, u, h4, h5⟩ := h
      refine ent h5 (fun a ha => ⟨_, _, ?_, h4⟩) rfl
      simp only [execOp, resolve, ha.evalsA h2, ha.eval h1]
      show (invoke (Target.fn (.method name) #[]) (#[v] ++ vs.toArray)).run P w = _
      unfold imethod at h3
      split at h3
      · rename_i t x
        have hargs : (#[Value.iface t x] ++ vs.toArray)[0]? = some (Value.iface t x) := by simp
        have hrest : (#[Value.iface t x] ++ vs.toArray).extract 1 (#[Value.iface t x] ++ vs.toArray).size = vs.toArray := by
          apply Array.ext'; simp
        simp only [invoke, hargs, hrest, callMethod]
        have hp : (program : Sem Program).run P w = .ok P w := rfl
        rw [run_ok hp, run_ok (rrun_run h3)]
        have := hc.enter _ _ _ _ h4
        have e1 : #[m.2] ++ vs.toArray = (m.2 :: vs).toArray := by apply Array.ext'; simp
        simpa [e1] using this
      · cases h3
    | value f =>
      cases f with
      | func f =>
        simp only [Option.bind_eq_some_iff] at h
        obtain ⟨vs, h1, u, h2, h3⟩ := h
        cases hbl : bodyless P f with
        | true =>
          rw [hbl] at h2
          simp only [cond_true] at h2
          refine val h3 (fun a ha => ?_) (fun q => by cases q)
          have h2' := ha.evalsA h1
          have hres : (resolve a.eval ⟨.value (.func f), cargs, cts⟩ type).run P w = .ok { target := .fn (.func f) #[], args := #[] ++ vs.toArray } w := by
            unfold resolve; simp only [h2', Act.eval, Deferred.ofValue]; rfl
          simp only [execOp]
          rw [run_ok hres]
          have e1 : #[] ++ vs.toArray ++ #[] = vs.toArray := by simp
          show (callFunc f (#[] ++ vs.toArray ++ #[])).run P w = _
          rw [e1]
          unfold xrun at h2
          split at h2
          · rename_i v w' hr
            cases h2
            exact hr
          · cases h2
        | false =>
        rw [hbl] at h2
        simp only [cond_false] at h2
        refine ent h3 (fun a ha => ?_) rfl
        have := callV_ok hc ha (x := .func f) (c := ⟨.value (.func f), cargs, cts⟩) (o := ⟨dst, .call ⟨.value (.func f), cargs, cts⟩, type, pos, after, guard⟩) rfl rfl h1 (w := w) (r := u) (by simpa [callV] using h2)
        simpa only [execOp] using this
      | tmp z =>
        simp only [Option.bind_eq_some_iff] at h
        obtain ⟨f, h0, vs, h1, u, h2, h3⟩ := h
        refine ent h3 (fun a ha => ?_) rfl
        have := callV_ok hc ha (x := (.tmp z)) (c := ⟨.value (.tmp z), cargs, cts⟩) (o := ⟨dst, .call ⟨.value (.tmp z), cargs, cts⟩, type, pos, after, guard⟩) rfl h0 h1 (w := w) (r := u) h2
        simpa only [execOp] using this
      | const z =>
        simp only [Option.bind_eq_some_iff] at h
        obtain ⟨f, h0, vs, h1, u, h2, h3⟩ := h
        refine ent h3 (fun a ha => ?_) rfl
        have := callV_ok hc ha (x := (.const z)) (c := ⟨.value (.const z), cargs, cts⟩) (o := ⟨dst, .call ⟨.value (.const z), cargs, cts⟩, type, pos, after, guard⟩) rfl h0 h1 (w := w) (r := u) h2
        simpa only [execOp] using this
      | global z =>
        simp only [Option.bind_eq_some_iff] at h
        obtain ⟨f, h0, vs, h1, u, h2, h3⟩ := h
        refine ent h3 (fun a ha => ?_) rfl
        have := callV_ok hc ha (x := (.global z)) (c := ⟨.value (.global z), cargs, cts⟩) (o := ⟨dst, .call ⟨.value (.global z), cargs, cts⟩, type, pos, after, guard⟩) rfl h0 h1 (w := w) (r := u) h2
        simpa only [execOp] using this
end

/-! ### the operations of a region -/
section
variable (step : Oper → (Act → World → Prop) → Act → World → Prop)
/-- operations one behind the other, by a step of whatever kind -/
def wpG (ops : Array Oper) : List Oper → (Act → World → Prop) → Act → World → Prop
  | [], K, a, w => K a w
  | o :: rest, K, a, w => if Region.wanted o (yielded ops a.tmps) = true then step o (wpG ops rest K) a w else wpG ops rest K (a.put o.dst undef) w
theorem wpG_append (ops : Array Oper) (hmono : ∀ o K K' a w, (∀ a w, K a w → K' a w) → step o K a w → step o K' a w) (l m : List Oper) (K : Act → World → Prop) :
    ∀ a w, wpG step ops l (wpG step ops m K) a w → wpG step ops (l ++ m) K a w := by
  induction l with
  | nil => intro a w h; exact h
  | cons o r ih =>
    intro a w h
    simp only [List.cons_append, wpG] at h ⊢
    split
    · rename_i hw; simp only [hw, if_true] at h; exact hmono _ _ _ _ _ ih h
    · rename_i hw; simp only [hw] at h; exact ih _ _ h
end

def dsts (l : List Oper) : List Nat := l.filterMap (·.dst)
/-- two frames that differ in these slots at most -/
structure Kept (ds : List Nat) (a a' : Act) : Prop where
  size : a'.tmps.size = a.tmps.size
  defers : a'.defers = a.defers
  same : ∀ t, t ∉ ds → a'.tmps[t]? = a.tmps[t]?
theorem Kept.refl (ds : List Nat) (a : Act) : Kept ds a a := ⟨rfl, rfl, fun _ _ => rfl⟩
theorem Kept.trans {d1 d2 ds : List Nat} {a b c : Act} (h1 : Kept d1 a b) (h2 : Kept d2 b c) (s1 : ∀ t ∈ d1, t ∈ ds) (s2 : ∀ t ∈ d2, t ∈ ds) : Kept ds a c :=
  ⟨h2.size.trans h1.size, h2.defers.trans h1.defers, fun t ht => (h2.same t fun h => ht (s2 t h)).trans (h1.same t fun h => ht (s1 t h))⟩
theorem Kept.put (a : Act) (d : Option Nat) (v : Value) {ds : List Nat} (hd : ∀ n, d = some n → n ∈ ds) : Kept ds a (a.put d v) := by
  cases d with
  | none => exact Kept.refl _ _
  | some d => exact ⟨by simp [Act.put], rfl, fun t ht => by
      simp only [Act.put]
      exact Array.getElem?_setIfInBounds_ne fun h => ht (by rw [← h]; exact hd d rfl)⟩

/-- slot d is written by operation j alone -/
def Sole (all : List Oper) (j d : Nat) : Prop := dstOf all j = some d ∧ ∀ n q, all[n]? = some q → n ≠ j → q.dst ≠ some d

theorem regionOk_spec {nt : Nat} {all : List Oper} (h : regionOk nt all = true) {i : Nat} {o : Oper} (ho : all[i]? = some o) :
    (∀ d, o.dst = some d → d < nt) ∧ (∀ j b, o.guard = some (j, b) → j < i ∧ ∃ d, Sole all j d) := by
  unfold regionOk at h
  rw [List.all_eq_true] at h
  have := h (o, i) (by rw [List.mem_zipIdx_iff_getElem?]; exact ho)
  simp only [Bool.and_eq_true] at this
  obtain ⟨h1, h2⟩ := this
  refine ⟨fun d hd => ?_, fun j b hj => ?_⟩
  · rw [hd] at h1; exact Nat.blt_eq.mp h1
  · rw [hj] at h2
    simp only [Bool.and_eq_true] at h2
    obtain ⟨h3, h4⟩ := h2
    refine ⟨Nat.blt_eq.mp h3, ?_⟩
    split at h4
    · rename_i d hd
      refine ⟨d, hd, fun n q hq hn => ?_⟩
      rw [List.all_eq_true] at h4
      have := h4 (q, n) (by rw [List.mem_zipIdx_iff_getElem?]; exact hq)
      simp only [Bool.or_eq_true] at this
      rcases this with h | h
      · exact absurd (Nat.eq_of_beq_eq_true h) hn
      · simpa using h
    · cases h4

theorem yielded_of {all : List Oper} {j d : Nat} (hs : Sole all j d) {tmps : Array Value} : yielded all.toArray tmps j = match tmps[d]? with | some (.bool b) => some b | _ => none := by
  have : (all.toArray[j]?).bind (·.dst) = some d := by simpa [dstOf] using hs.1
  unfold yielded
  rw [this]
  rfl

theorem loDst_le : ∀ (l : List Oper) (n : Nat), loDst l n ≤ n ∧ ∀ d ∈ dsts l, loDst l n ≤ d := by
  intro l
  induction l with
  | nil => intro n; exact ⟨Nat.le_refl _, fun d h => by simp [dsts] at h⟩
  | cons o r ih =>
    intro n
    cases hd : o.dst with
    | none => simp only [loDst, hd]; refine ⟨(ih n).1, fun d h => (ih n).2 d ?_⟩; simpa [dsts, hd] using h
    | some x =>
      simp only [loDst, hd]
      have := (ih (min x n)).1
      refine ⟨by omega, fun d h => ?_⟩
      have h' : d = x ∨ d ∈ dsts r := by simpa [dsts, hd] using h
      rcases h' with rfl | h'
      · omega
      · exact (ih _).2 d h'
theorem hiDst_le : ∀ (l : List Oper) (n : Nat), n ≤ hiDst l n ∧ ∀ d ∈ dsts l, d ≤ hiDst l n := by
  intro l
  induction l with
  | nil => intro n; exact ⟨Nat.le_refl _, fun d h => by simp [dsts] at h⟩
  | cons o r ih =>
    intro n
    cases hd : o.dst with
    | none => simp only [hiDst, hd]; refine ⟨(ih n).1, fun d h => (ih n).2 d ?_⟩; simpa [dsts, hd] using h
    | some x =>
      simp only [hiDst, hd]
      have := (ih (max x n)).1
      refine ⟨by omega, fun d h => ?_⟩
      have h' : d = x ∨ d ∈ dsts r := by simpa [dsts, hd] using h
      rcases h' with rfl | h'
      · omega
      · exact (ih _).2 d h'

theorem drop_eq {lo hi t : Nat} {e : Env} {v : Value} (h : Env.drop lo hi e t = some v) : e t = some v ∧ ¬ (lo ≤ t ∧ t ≤ hi) := by
  unfold Env.drop at h
  cases h1 : Nat.ble lo t <;> cases h2 : Nat.ble t hi <;> simp [h1, h2] at h
  · refine ⟨h, fun ⟨h3, _⟩ => ?_⟩; have := Nat.ble_eq.mpr h3; simp_all
  · refine ⟨h, fun ⟨h3, _⟩ => ?_⟩; have := Nat.ble_eq.mpr h3; simp_all
  · refine ⟨h, fun ⟨_, h3⟩ => ?_⟩; have := Nat.ble_eq.mpr h3; simp_all

/-- guards that are known to hold -/
def StripOk (all : List Oper) (strip : List (Nat × Bool)) (i : Nat) (a : Act) : Prop :=
  ∀ j b, inStrip j b strip = true → j < i ∧ ∃ d, Sole all j d ∧ a.tmps[d]? = some (.bool b)

theorem StripOk.keep {all : List Oper} {strip : List (Nat × Bool)} {i i' : Nat} {a a' : Act} (h : StripOk all strip i a) (hi : i ≤ i')
    {l : List Oper} (hl : ∀ (m : Nat) (o : Oper), l[m]? = some o → ∃ n, i ≤ n ∧ all[n]? = some o) (hk : Kept (dsts l) a a') : StripOk all strip i' a' := by
  intro j b hj
  obtain ⟨h1, d, h2, h3⟩ := h j b hj
  refine ⟨by omega, d, h2, ?_⟩
  rw [hk.same d ?_, h3]
  intro hd
  obtain ⟨o, ho, hod⟩ := List.mem_filterMap.mp hd
  obtain ⟨m, hm⟩ := List.mem_iff_getElem?.mp ho
  obtain ⟨n, hn, hno⟩ := hl m o hm
  exact h2.2 n o hno (by omega) hod

theorem inStrip_cons {j g : Nat} {b c : Bool} {strip : List (Nat × Bool)} (h : inStrip j b ((g, c) :: strip) = true) : (g = j ∧ c = b) ∨ inStrip j b strip = true := by
  simp only [inStrip, Bool.or_eq_true, Bool.and_eq_true, beq_iff_eq] at h
  rcases h with ⟨h1, h2⟩ | h
  · exact .inl ⟨Nat.eq_of_beq_eq_true h1, h2⟩
  · exact .inr h

/-- a group under a guard that does not hold is passed by -/
theorem wpG_skip {step : Oper → (Act → World → Prop) → Act → World → Prop} {nt : Nat} {all : List Oper} (hreg : regionOk nt all = true) {j d i0 : Nat} {want : Bool} (hj : Sole all j d) (hji : j < i0) {w : World} :
    ∀ (grp : List Oper) (i : Nat) (a : Act), (∀ m, m < grp.length → all[i + m]? = grp[m]?) → (∀ o ∈ grp, ∃ g b, o.guard = some (g, b) ∧ ((g = j ∧ b = want) ∨ i0 ≤ g)) → i0 ≤ i → nt ≤ a.tmps.size →
      a.tmps[d]? = some (.bool (!want)) → (∀ g, i0 ≤ g → g < i → ∀ dg, Sole all g dg → a.tmps[dg]? = some undef) →
      ∀ K : Act → World → Prop, (∀ a', Kept (dsts grp) a a' → K a' w) → wpG step all.toArray grp K a w := by
  intro grp
  induction grp with
  | nil => intro i a _ _ _ _ _ _ K h; exact h a (Kept.refl _ _)
  | cons o r ih =>
    intro i a hidx hg hi hnt hb hu K h
    have ho : all[i]? = some o := by simpa using hidx 0 (by simp)
    obtain ⟨hd, hgd⟩ := regionOk_spec hreg ho
    obtain ⟨g, b, hgo, hgj⟩ := hg o (by simp)
    have hnw : Region.wanted o (yielded all.toArray a.tmps) = false := by
      unfold Region.wanted
      simp only [hgo]
      obtain ⟨hlt, dg, hdg⟩ := hgd g b hgo
      rw [yielded_of hdg]
      rcases hgj with ⟨rfl, rfl⟩ | hge
      · have : dg = d := Option.some.inj (hdg.1.symm.trans hj.1)
        subst this
        rw [hb]; cases b <;> rfl
      · rw [hu g hge hlt dg hdg]; rfl
    simp only [wpG, hnw, Bool.false_eq_true, if_false]
    have hput : Kept (dsts [o]) a (a.put o.dst undef) := Kept.put _ _ _ fun n hn => by simp [dsts, hn]
    refine ih (i + 1) _ (fun m hm => ?_) (fun q hq => hg q (by simp [hq])) (by omega) (by rw [hput.size]; exact hnt) ?_ ?_ K ?_
    · have := hidx (m + 1) (by simp; omega)
      rw [show i + 1 + m = i + (m + 1) by omega, this]; simp
    · rw [hput.same d (by
        intro hm
        simp only [dsts, List.filterMap_cons, List.filterMap_nil] at hm
        cases hod : o.dst with
        | none => simp [hod] at hm
        | some x => simp [hod] at hm; subst hm; exact hj.2 i o ho (by omega) hod)]
      exact hb
    · intro g' h1 h2 dg hdg
      by_cases hgi : g' = i
      · subst hgi
        have hod : o.dst = some dg := by have := hdg.1; simp only [dstOf, ho, Option.bind_some] at this; exact this
        rw [hod]
        simp only [Act.put]
        have hlt : dg < a.tmps.size := Nat.lt_of_lt_of_le (hd dg hod) hnt
        simp [hlt]
      · rw [hput.same dg (by
          intro hm
          simp only [dsts, List.filterMap_cons, List.filterMap_nil] at hm
          cases hod : o.dst with
          | none => simp [hod] at hm
          | some x => simp [hod] at hm; subst hm; exact hdg.2 i o ho (by omega) hod)]
        exact hu g' h1 (by omega) dg hdg
    · intro a' ha'
      refine h a' (hput.trans ha' (fun t ht => ?_) (fun t ht => ?_))
      · simp only [dsts, List.filterMap_cons, List.filterMap_nil] at ht ⊢
        cases hod : o.dst with
        | none => simp [hod] at ht
        | some x => simp [hod] at ht ⊢; exact .inl ht
      · simp only [dsts, List.filterMap_cons] at ht ⊢
        cases hod : o.dst with
        | none => simpa [hod] using ht
        | some x => simp; exact .inr (by simpa using ht)

theorem dsts_append (l m : List Oper) : dsts (l ++ m) = dsts l ++ dsts m := by simp [dsts]
theorem dsts_cons_sub (o : Oper) (r : List Oper) : ∀ t ∈ dsts r, t ∈ dsts (o :: r) := by
  intro t ht
  obtain ⟨q, hq, hqd⟩ := List.mem_filterMap.mp ht
  exact List.mem_filterMap.mpr ⟨q, by simp [hq], hqd⟩
theorem dsts_head_sub (o : Oper) (r : List Oper) : ∀ t ∈ dsts [o], t ∈ dsts (o :: r) := by
  intro t ht
  obtain ⟨q, hq, hqd⟩ := List.mem_filterMap.mp ht
  exact List.mem_filterMap.mpr ⟨q, by simp at hq; simp [hq], hqd⟩

theorem grp_guards {i j : Nat} {want : Bool} : ∀ (l : List Oper), ∀ o ∈ l.take (grpLen i j want l), ∃ g b, o.guard = some (g, b) ∧ ((g = j ∧ b = want) ∨ i ≤ g) := by
  intro l
  induction l with
  | nil => intro o h; simp at h
  | cons q r ih =>
    intro o h
    simp only [grpLen] at h
    split at h
    · rename_i g b hg
      split at h
      · rename_i hc
        simp only [List.take_succ_cons, List.mem_cons] at h
        rcases h with rfl | h
        · exact ⟨g, b, hg, hc⟩
        · exact ih o h
      · simp at h
    · simp at h

/-- what a step must bear -/
structure Steps1 (P : Program) (call : CallF) (all : List Oper) (step : Oper → (Act → World → Prop) → Act → World → Prop) : Prop where
  mono : ∀ o K K' a w, (∀ a w, K a w → K' a w) → step o K a w → step o K' a w
  ok : ∀ o ∈ all, ∀ e w v w', ExecTo P call o e w v w' → (quietOp P o.op = true → ExecQuiet P o e w v w') → ∀ K a, Agree e a → K (a.put o.dst v) w' → step o K a w

theorem pick_exec (P : Program) (call : CallF) {p : Oper} {c : Nat} {x y : Operand} (hp : p.op = .pick (.tmp c) x y) {e : Env} {a : Act} (ha : Agree e a) {b : Bool} (hb : a.tmps[c]? = some (.bool b)) {v : Value}
    (hv : ev e (if b then x else y) = some v) (w : World) : ∃ e2, Agree e2 a ∧ ExecTo P call p e2 w v w ∧ (quietOp P p.op = true → ExecQuiet P p e2 w v w) := by
  have ag : Agree (e.set c (.bool b)) a := by
    intro t u ht
    rw [set_eq] at ht
    split at ht
    · rename_i h; subst h; simp at ht; subst ht; exact hb
    · exact ha t u ht
  have run : ∀ a', Agree (e.set c (.bool b)) a' → (execOp a'.eval p).run P w = .ok (.value v) w := by
    intro a' ha'
    have h1 : a'.eval (.tmp c) = .bool b := ha'.eval (by simp [ev, set_eq])
    have h2 : a'.eval (if b then x else y) = v := by
      cases hx : (if b then x else y) with
      | tmp t =>
        rw [hx] at hv
        by_cases htc : t = c
        · subst htc
          have h3 := ha t v hv
          rw [hb] at h3
          simp at h3
          rw [h1, h3]
        · exact ha'.eval (by simpa [ev, set_eq, htc] using hv)
      | const z => rw [hx] at hv; simpa [ev, Act.eval] using hv
      | global z => rw [hx] at hv; simpa [ev, Act.eval] using hv
      | func z => rw [hx] at hv; simpa [ev, Act.eval] using hv
    simp only [execOp, hp, h1]
    cases b
    · simp only [Bool.false_eq_true, if_false] at h2; subst h2; rfl
    · simp only [if_true] at h2; subst h2; rfl
  exact ⟨_, ag, fun a' ha' => .inl (run a' ha'), fun _ => ⟨rfl, fun a' ha' => .inl (run a' ha')⟩⟩

theorem aOps_ok {P : Program} {call : CallF} (hc : CallOk P call) {nt : Nat} {all : List Oper} (hreg : regionOk nt all = true)
    {step : Oper → (Act → World → Prop) → Act → World → Prop} (hs : Steps1 P call all step) :
    ∀ (n : Nat) {ρ : Type} (i : Nat) (ops : List Oper) (strip : List (Nat × Bool)) (e : Env) (w : World) (k : Env → World → Option ρ) (r : ρ),
      aOps P call all n i ops strip e w k = some r → (∀ m, m < ops.length → all[i + m]? = ops[m]?) →
      ∃ e' w', k e' w' = some r ∧ ∀ (K : Act → World → Prop) (a : Act), nt ≤ a.tmps.size → Agree e a → StripOk all strip i a →
        (∀ a', Kept (dsts ops) a a' → Agree e' a' → K a' w') → wpG step all.toArray ops K a w := by
  intro n
  induction n with
  | zero => intro ρ i ops strip e w k r h; simp [Option.ebind_eq, aOps] at h
  | succ n ih =>
    intro ρ i ops strip e w k r h hidx
    cases ops with
    | nil => exact ⟨e, w, by simpa [Option.ebind_eq, aOps] using h, fun K a _ ha _ hK => hK a (Kept.refl _ _) ha⟩
    | cons o rest =>
      have ho : all[i]? = some o := by simpa using hidx 0 (by simp)
      obtain ⟨hd, hgd⟩ := regionOk_spec hreg ho
      have hmem : o ∈ all := List.mem_of_getElem? ho
      -- an operation that is wanted
      have plain : (aOp P call o e w fun v w => aOps P call all n (i + 1) rest strip (e.put o.dst v) w k) = some r →
          (∀ a, StripOk all strip i a → Region.wanted o (yielded all.toArray a.tmps) = true) →
          ∃ e' w', k e' w' = some r ∧ ∀ (K : Act → World → Prop) (a : Act), nt ≤ a.tmps.size → Agree e a → StripOk all strip i a →
            (∀ a', Kept (dsts (o :: rest)) a a' → Agree e' a' → K a' w') → wpG step all.toArray (o :: rest) K a w := by
        intro h hw
        obtain ⟨v, w1, h1, h2, h3⟩ := aOp_ok hc h
        obtain ⟨e', w', h4, h5⟩ := ih (i + 1) rest strip _ w1 k r h1 (fun m hm => by
          have := hidx (m + 1) (by simp; omega)
          rw [show i + 1 + m = i + (m + 1) by omega, this]; simp)
        refine ⟨e', w', h4, fun K a hnt ha hst hK => ?_⟩
        simp only [wpG, hw a hst, if_true]
        have hput : Kept (dsts [o]) a (a.put o.dst v) := Kept.put _ _ _ fun n hn => by simp [dsts, hn]
        refine hs.ok o hmem e w v w1 h2 h3 _ a ha (h5 K _ (by rw [hput.size]; exact hnt) (ha.put fun m hm => Nat.lt_of_lt_of_le (hd m hm) hnt) ?_ ?_)
        · exact hst.keep (l := [o]) (by omega) (fun m q hq => ⟨i, Nat.le_refl _, by
            cases m with
            | zero => simp at hq; subst hq; exact ho
            | succ m => simp at hq⟩) hput
        · intro a' hk' ha'
          exact hK a' (hput.trans hk' (dsts_head_sub o rest) (dsts_cons_sub o rest)) ha'
      simp only [Option.ebind_eq, aOps] at h
      split at h
      · rename_i hg
        exact plain h fun a _ => by simp [Region.wanted, hg]
      · rename_i j want hg
        obtain ⟨hji, d0, hd0⟩ := hgd j want hg
        split at h
        · rename_i hin
          refine plain h fun a hst => ?_
          obtain ⟨_, d, hd1, hd2⟩ := hst j want hin
          unfold Region.wanted
          simp only [hg, yielded_of hd1, hd2]
          simp
        · split at h
          · rename_i p rest' hdrop
            split at h
            · rename_i c x y d pd hpop hdj hpd
              by_cases hcond : c = d ∧ guardIn p strip = true
              · rw [if_pos hcond] at h
                obtain ⟨hcd, hpg⟩ := hcond
                subst hcd
                have hdd : d0 = c := Option.some.inj (hd0.1.symm.trans hdj)
                subst hdd
                simp only [Option.bind_eq_some_iff] at h
                obtain ⟨bv, hbv, b, hb, r1, hr1, hrest⟩ := h
                have hbv' : bv = .bool b := by cases bv <;> simp [asB] at hb; subst hb; rfl
                subst hbv'
                generalize hm : grpLen i j want (o :: rest) = m at *
                generalize hgrp : (o :: rest).take m = grp at *
                have hall : o :: rest = grp ++ p :: rest' := by rw [← hgrp, ← hdrop, List.take_append_drop]
                have hlen : (o :: rest).length = grp.length + 1 + rest'.length := by rw [hall]; simp; omega
                have hml : grp.length = m := by
                  rw [← hgrp, List.length_take]
                  have : ((o :: rest).drop m).length = rest'.length + 1 := by rw [hdrop]; simp
                  rw [List.length_drop] at this
                  omega
                have hgidx : ∀ q, q < grp.length → all[i + q]? = grp[q]? := fun q hq => by
                  rw [hidx q (by omega), hall, List.getElem?_append_left hq]
                have hpidx : all[i + m]? = some p := by
                  rw [hidx m (by omega), hall, List.getElem?_append_right (by omega)]
                  simp [hml]
                have hridx : ∀ q, q < rest'.length → all[i + m + 1 + q]? = rest'[q]? := fun q hq => by
                  rw [show i + m + 1 + q = i + (m + 1 + q) by omega, hidx (m + 1 + q) (by omega), hall, List.getElem?_append_right (by omega)]
                  rw [show m + 1 + q - grp.length = q + 1 by omega]
                  simp
                have hgin : ∀ (q : Nat) (z : Oper), grp[q]? = some z → ∃ n, i ≤ n ∧ all[n]? = some z := fun q z hz => by
                  have hq : q < grp.length := (List.getElem?_eq_some_iff.mp hz).1
                  exact ⟨i + q, by omega, by rw [hgidx q hq, hz]⟩
                have hpmem : p ∈ all := List.mem_of_getElem? hpidx
                obtain ⟨hpd2, _⟩ := regionOk_spec hreg hpidx
                have hpw : ∀ a, StripOk all strip i a → Region.wanted p (yielded all.toArray a.tmps) = true := by
                  intro a hst
                  unfold Region.wanted
                  cases hpgd : p.guard with
                  | none => rfl
                  | some gb =>
                    obtain ⟨g, gb⟩ := gb
                    simp only [guardIn, hpgd] at hpg
                    obtain ⟨_, d2, h1, h2⟩ := hst g gb hpg
                    simp only [yielded_of h1, h2]
                    simp
                have hnotin : ∀ {l : List Oper}, (∀ (q : Nat) (z : Oper), l[q]? = some z → ∃ n, i ≤ n ∧ all[n]? = some z) → d0 ∉ dsts l := by
                  intro l hl hdl
                  obtain ⟨q, hq, hqd⟩ := List.mem_filterMap.mp hdl
                  obtain ⟨z, hz⟩ := List.mem_iff_getElem?.mp hq
                  obtain ⟨n', hn1, hn2⟩ := hl z q hz
                  exact hd0.2 n' q hn2 (by omega) hqd
                -- what stands behind the group
                obtain ⟨e', w', hk, hrec⟩ := ih (i + m + 1) rest' strip _ r1.2 k r hrest hridx
                have after : ∀ (K : Act → World → Prop) (a a1 : Act), nt ≤ a.tmps.size → Agree e a → StripOk all strip i a → Kept (dsts grp) a a1 →
                    (∀ a', Kept (dsts (o :: rest)) a a' → Agree e' a' → K a' w') →
                    (∃ e2, Agree e2 a1 ∧ ExecTo P call p e2 r1.2 r1.1 r1.2 ∧ (quietOp P p.op = true → ExecQuiet P p e2 r1.2 r1.1 r1.2)) →
                    wpG step all.toArray (p :: rest') K a1 r1.2 := by
                  intro K a a1 hnt ha hst hk1 hK ⟨e2, h1, h2, h3⟩
                  have hst1 : StripOk all strip i a1 := hst.keep (Nat.le_refl _) hgin hk1
                  simp only [wpG, hpw a1 hst1, if_true]
                  have hput : Kept (dsts [p]) a1 (a1.put p.dst r1.1) := Kept.put _ _ _ fun n hn => by simp [dsts, hn]
                  refine hs.ok p hpmem e2 r1.2 r1.1 r1.2 h2 h3 _ a1 h1 (hrec K _ (by rw [hput.size, hk1.size]; exact hnt) ?_ ?_ ?_)
                  · rw [hpd]
                    refine Agree.set ?_ (by rw [hk1.size]; exact Nat.lt_of_lt_of_le (hpd2 pd hpd) hnt)
                    intro t u ht
                    obtain ⟨h4, h5⟩ := drop_eq ht
                    rw [hk1.same t fun hin => h5 ⟨(loDst_le grp pd).2 t hin, (hiDst_le grp pd).2 t hin⟩]
                    exact ha t u h4
                  · exact hst1.keep (l := [p]) (by omega) (fun q z hz => ⟨i + m, by omega, by
                      cases q with
                      | zero => simp at hz; subst hz; exact hpidx
                      | succ q => simp at hz⟩) hput
                  · intro a' hk2 ha'
                    refine hK a' ((hk1.trans (ds := dsts (o :: rest)) (hput.trans (ds := dsts (p :: rest')) hk2 (dsts_head_sub p rest') (dsts_cons_sub p rest')) ?_ ?_)) ha'
                    · intro t ht; rw [hall, dsts_append]; simp [ht]
                    · intro t ht; rw [hall, dsts_append]; simp [ht]
                refine ⟨e', w', hk, fun K a hnt ha hst hK => ?_⟩
                rw [hall]
                refine wpG_append step all.toArray hs.mono grp (p :: rest') K a w ?_
                have hbit : a.tmps[d0]? = some (.bool b) := ha d0 _ hbv
                by_cases hbw : b = want
                · rw [if_pos hbw] at hr1
                  subst hbw
                  obtain ⟨e3, w3, h6, h7⟩ := ih i grp ((j, b) :: strip) e w _ r1 hr1 hgidx
                  simp only [Option.bind_eq_some_iff, Option.some.injEq] at h6
                  obtain ⟨v, h8, h9⟩ := h6
                  subst h9
                  refine h7 _ a hnt ha ?_ ?_
                  · intro j' b' hin'
                    rcases inStrip_cons hin' with ⟨rfl, rfl⟩ | hin'
                    · exact ⟨hji, d0, hd0, hbit⟩
                    · exact hst j' b' hin'
                  · intro a1 hk1 ha1
                    refine after K a a1 hnt ha hst hk1 hK (pick_exec P call hpop ha1 (b := b) ?_ h8 _)
                    rw [hk1.same d0 (hnotin hgin)]; exact hbit
                · rw [if_neg hbw] at hr1
                  simp only [Option.bind_eq_some_iff, Option.some.injEq] at hr1
                  obtain ⟨v, h8, h9⟩ := hr1
                  subst h9
                  have hb2 : b = !want := by cases b <;> cases want <;> simp_all
                  refine wpG_skip hreg hd0 hji grp i a hgidx (fun q hq => ?_) (Nat.le_refl _) hnt (by rw [hbit, hb2]) (fun g h1 h2 => by omega) _ ?_
                  · rw [← hgrp, ← hm] at hq
                    exact grp_guards (o :: rest) q hq
                  · intro a1 hk1
                    have hag : Agree (e.drop (loDst grp pd) (hiDst grp pd)) a1 := by
                      intro t u ht
                      obtain ⟨h4, h5⟩ := drop_eq ht
                      rw [hk1.same t fun hin => h5 ⟨(loDst_le grp pd).2 t hin, (hiDst_le grp pd).2 t hin⟩]
                      exact ha t u h4
                    refine after K a a1 hnt ha hst hk1 hK (pick_exec P call hpop hag (b := b) ?_ ?_ _)
                    · rw [hk1.same d0 (hnotin hgin)]; exact hbit
                    · rw [hb2]; cases want <;> simpa using h8
              · rw [if_neg hcond] at h; cases h
            · cases h
          · cases h
end Go.Sh
