/- The layer 'Sh': closed runs: one operation, regions. Conditions: those of each statement. -/
import Derived.Test.YtkghbcadnbojgaaGreatDoorShEv4
namespace Go.Sh.Ev
open Go Go.RowKit
set_option linter.unusedVariables false
set_option linter.unusedSimpArgs false

abbrev BCall := FuncId → List AV → AH → Option (AV × AH)
section
variable (P : Program) (G : Globs) (bc : BCall)
noncomputable def pure1 (H : AH) (x : Option AV) : Option (AV × AH) := match x with | some a => some (a, H) | none => none
noncomputable def bLen (H : AH) (c : Call) (ty : TypeId) (as : List AV) : Option AV := match pl as with
  | some vs => (prun P (Builtin.len_ c.argTypes ty vs.toArray)).ob fun r => some (.v r)
  | none => match c.argTypes.toList, as with
    | [t], [.sl _ _ n _] => match P.underlying t with
      | some (.slice _) => some (.v (.int .i64 (n : Nat)))
      | _ => none
    | [t], [.e0 _ _] => match P.underlying t with
      | some (.slice _) => some (.v (.int .i64 (0 : Nat)))
      | _ => none
    | _, _ => none
noncomputable def bCap (H : AH) (c : Call) (ty : TypeId) (as : List AV) : Option AV := match pl as with
  | some vs => (prun P (Builtin.cap_ c.argTypes ty vs.toArray)).ob fun r => some (.v r)
  | none => match c.argTypes.toList, as with
    | [t], [.sl _ _ _ (.is n)] => match P.underlying t with
      | some (.slice _) => some (.v (.int .i64 (n : Nat)))
      | _ => none
    | _, _ => none
noncomputable def bMethod (a : AV) (name : String) : Option (FuncId × AV) := match a with
  | .v (.iface t x) => (prun P (method (P.types.size + Made.depth) t x name)).ob fun m => some (m.1, .v m.2)
  | .ifc t x => (P.info? t).ob fun i => (i.methods.find? (·.name == name)).ob fun m => bif m.path.isEmpty then (match m.func with
    | some (f, true) => (match P.underlying t with | some (.pointer _) => some (f, x) | _ => none)
    | some (f, false) => (match P.underlying t with | some (.pointer _) => none | some _ => some (f, x) | none => none)
    | none => none) else none
  | _ => none
noncomputable def bCallOp (H : AH) (e : AEnv) (c : Call) (ty : TypeId) : Option (AV × AH) := match c.callee with
  | .builtin .len => (aevs e c.args.toList).ob fun as => pure1 H (bLen P H c ty as)
  | .builtin .cap => (aevs e c.args.toList).ob fun as => pure1 H (bCap P H c ty as)
  | .builtin .min => (aevs e c.args.toList).ob fun as => (pl as).ob fun vs => (prun P (Builtin.min_ c.argTypes ty vs.toArray)).ob fun r => some (.v r, H)
  | .builtin .max => (aevs e c.args.toList).ob fun as => (pl as).ob fun vs => (prun P (Builtin.max_ c.argTypes ty vs.toArray)).ob fun r => some (.v r, H)
  | .builtin .append => (aevs e c.args.toList).ob fun as => match as with | [a, b] => bAppend P G H c.argTypes a b | _ => none
  | .builtin .copy => (aevs e c.args.toList).ob fun as => match as with | [a, b] => bCopy P G H c.argTypes a b | _ => none
  | .builtin _ => none
  | .invoke rc name => (aev e rc).ob fun a => (aevs e c.args.toList).ob fun as => (bMethod P a name).ob fun m => bc m.1 (m.2 :: as) H
  | .value (.func f) => (aevs e c.args.toList).ob fun as => bif bodyless P f then (pl as).ob fun vs => (match prun P (callFunc f vs.toArray) with | some (.value v) => some (.v v, H) | _ => none) else bc f as H
  | .value x => (aev e x).ob fun a => (aevs e c.args.toList).ob fun as => match a with
    | .v (.func (.func f) first cap) => bc f (first.toList.map .v ++ as ++ cap.toList.map .v) H
    | .fn f a l => bc f (a ++ as ++ l) H
    | _ => none
noncomputable def oneOpt (x : Option (List AV)) : Option (Option Value) := match x with
  | some [] => some none
  | some [.v v] => some (some v)
  | _ => none
noncomputable def oMove (e : AEnv) (H : AH) (x : Operand) : Option (AV × AH) := pure1 H (aev e x)
noncomputable def oPick (e : AEnv) (H : AH) (c : Operand) (a : Operand) (b : Operand) : Option (AV × AH) := (aev e c).ob fun c => (aev e a).ob fun a => (aev e b).ob fun b => match c with
    | .v (.bool c) => some (bif c then a else b, H)
    | _ => none
noncomputable def oBinOp (e : AEnv) (H : AH) (op : BinOp) (t : TypeId) (x : Operand) (y : Operand) : Option (AV × AH) := (aev e x).ob fun a => (aev e y).ob fun b => pure1 H (bBin P op t x y a b)
noncomputable def oUnOp (e : AEnv) (H : AH) (op : UnOp) (x : Operand) : Option (AV × AH) := (aev e x).ob fun a => match a with
    | .v p => (prun P (Op.unary op p)).ob fun r => some (.v r, H)
    | _ => none
noncomputable def oConvert (e : AEnv) (H : AH) (s : TypeId) (d : TypeId) (x : Operand) : Option (AV × AH) := (aev e x).ob fun a => match a with
    | .v p => bif convPure P s d || convReads P s d then (match prun P (convert s d p) with | some r => some (.v r, H) | none => bif convPure P s d then none else pure1 H (bText P G H s d a)) else none
    | a => bif convPure P s d then none else bif convReads P s d then pure1 H (bText P G H s d a) else none
noncomputable def oFieldAddr (e : AEnv) (H : AH) (s : TypeId) (x : Operand) (f : Nat) : Option (AV × AH) := (aev e x).ob fun a => pure1 H (bFieldAddr P s a f)
noncomputable def oField (e : AEnv) (H : AH) (t : TypeId) (x : Operand) (f : Nat) : Option (AV × AH) := (aev e x).ob fun a => pure1 H (bField P t a f)
noncomputable def oIndexAddr (e : AEnv) (H : AH) (t : TypeId) (x : Operand) (i : Operand) : Option (AV × AH) := (aev e x).ob fun a => (aev e i).ob fun i => pure1 H (bIndexAddr P t a i)
/-- a byte of a text -/
noncomputable def strIx (s : ByteArray) (i : Nat) : Option AV := (getL s.data.toList i).ob fun b => some (.v (.int .u8 (b.toNat : Nat)))
noncomputable def bIndex (t : TypeId) (p i : Value) : Option AV := match p, i with
  | .string s, .int _ (.ofNat k) => match P.underlying t with
    | some .string => strIx s k
    | _ => none
  | _, _ => (prun P (Instr.index t p i)).ob fun r => some (.v r)
noncomputable def oIndex (e : AEnv) (H : AH) (t : TypeId) (x : Operand) (i : Operand) : Option (AV × AH) := (aev e x).ob fun a => (aev e i).ob fun i => match a, i with
    | .v p, .v i => pure1 H (bIndex P t p i)
    | _, _ => none
noncomputable def oNilCheck (e : AEnv) (H : AH) (x : Operand) : Option (AV × AH) := (aev e x).ob fun a => pure1 H (bNil P a)
noncomputable def oSlice (e : AEnv) (H : AH) (t : TypeId) (x : Operand) (lo : Option Operand) (hi : Option Operand) (mx : Option Operand) : Option (AV × AH) := (aev e x).ob fun a => (oneOpt (aevs e lo.toList)).ob fun lo => (oneOpt (aevs e hi.toList)).ob fun hi => (oneOpt (aevs e mx.toList)).ob fun mx => bSlice P H t a lo hi mx
noncomputable def oExtract (e : AEnv) (H : AH) (x : Operand) (i : Nat) : Option (AV × AH) := (aev e x).ob fun a => pure1 H (bExtract P a i)
noncomputable def oBuild (e : AEnv) (H : AH) (t : TypeId) (ps : Array (Nat × Operand)) : Option (AV × AH) := (aevs e (ps.toList.map (·.2))).ob fun as => pure1 H (bBuild P t (ps.toList.map (·.1)) as)
noncomputable def oMakeInterface (e : AEnv) (H : AH) (t : TypeId) (x : Operand) : Option (AV × AH) := (aev e x).ob fun a => pure1 H (bMakeIface P t a)
noncomputable def oMakeFunc (e : AEnv) (H : AH) (fn : Fn) (first : Array Operand) (cap : Array Operand) : Option (AV × AH) := (aevs e first.toList).ob fun a => (aevs e cap.toList).ob fun b => pure1 H (bMakeFunc fn a b)
noncomputable def oTypeAssert (e : AEnv) (H : AH) (x : Operand) (t : TypeId) (u : TypeId) (ok : Bool) : Option (AV × AH) := (aev e x).ob fun a => pure1 H (bAssert P a t u ok)
noncomputable def oLoad (e : AEnv) (H : AH) (t : TypeId) (x : Operand) : Option (AV × AH) := (aev e x).ob fun a => pure1 H (bLoad P G H t a)
noncomputable def oStore (e : AEnv) (H : AH) (t : TypeId) (x : Operand) (y : Operand) : Option (AV × AH) := (aev e x).ob fun a => (aev e y).ob fun b => (bStore P H t a b).ob fun H' => some (.v undef, H')
noncomputable def oBox (e : AEnv) (H : AH) (t : TypeId) (x : Operand) : Option (AV × AH) := (aev e x).ob fun a => bBox H t a
noncomputable def oBuildSlice (e : AEnv) (H : AH) (t : TypeId) (n : Nat) (ps : Array (Nat × Operand)) : Option (AV × AH) := (aevs e (ps.toList.map (·.2))).ob fun as => bBuildSlice P H t n (ps.toList.map (·.1)) as
noncomputable def oMakeSlice (e : AEnv) (H : AH) (t : TypeId) (l : Operand) (c : Operand) : Option (AV × AH) := (aev e l).ob fun l => (aev e c).ob fun c => bMake P H t l c
noncomputable def oRange (e : AEnv) (H : AH) (t : TypeId) (x : Operand) : Option (AV × AH) := (aev e x).ob fun a => bRange P H t a
noncomputable def oNext (e : AEnv) (H : AH) (it : Operand) (s : Bool) : Option (AV × AH) := (aev e it).ob fun a => bNext H a s
noncomputable def bOp (o : Oper) (e : AEnv) (H : AH) : Option (AV × AH) :=
  match o.op with
  | .move x | .assign x => oMove e H x
  | .pick c a b => oPick e H c a b
  | .binOp op t x y _ => oBinOp P e H op t x y
  | .unOp op _ x => oUnOp P e H op x
  | .convert s d x => oConvert P G e H s d x
  | .fieldAddr s x f => oFieldAddr P e H s x f
  | .field t x f => oField P e H t x f
  | .indexAddr t x i => oIndexAddr P e H t x i
  | .index t x i => oIndex P e H t x i
  | .nilCheck x => oNilCheck P e H x
  | .slice t x lo hi mx => oSlice P e H t x lo hi mx
  | .extract x i => oExtract P e H x i
  | .build t ps => oBuild P e H t ps
  | .makeInterface t x => oMakeInterface P e H t x
  | .makeFunc fn first cap => oMakeFunc e H fn first cap
  | .typeAssert x t u ok => oTypeAssert P e H x t u ok
  | .load t x => oLoad P G e H t x
  | .store t x y => oStore P e H t x y
  | .alloc t => bAlloc P H t
  | .box t x => oBox e H t x
  | .buildSlice t n ps => oBuildSlice P e H t n ps
  | .makeSlice t l c => oMakeSlice P e H t l c
  | .range t x => oRange P e H t x
  | .next it s => oNext e H it s
  | .call c => bCallOp P G bc H e c o.type
  | _ => none
end

/-- what the calls come to -/
def CallB (P : Program) (call : CallF) (W : World) (bc : BCall) : Prop := ∀ f as H v H', bc f as H = some (v, H') → ∀ ρ w vs, Rel W ρ H w → gs ρ as = some vs → Done W ρ v H' (call f vs.toArray w)
section
variable {P : Program} {G : Globs} {bc : BCall} {call : CallF} {W w : World} {ρ : Rho} {H H' : AH} {e : AEnv} {eR : Env}
theorem bIndex_ok {t : TypeId} {p i : Value} {x : AV} (h : bIndex P t p i = some x) : ∃ V, g ρ x = some V ∧ prun P (Instr.index t p i) = some V := by
  unfold bIndex at h
  split at h
  · rename_i s k n
    split at h
    · rename_i hu
      simp only [strIx, Option.ob_eq, Option.bind_eq_some_iff, Option.some.injEq] at h
      obtain ⟨b, h1, rfl⟩ := h
      rw [getL_eq] at h1
      refine ⟨_, rfl, ?_⟩
      have hs : s[n]? = some b := by
        have h2 : s.data[n]? = some b := by simpa using h1
        obtain ⟨h3, h4⟩ := Array.getElem?_eq_some_iff.mp h2
        have h5 : n < s.size := h3
        rw [getElem?_pos s n h5]
        congr 1
      unfold Instr.index
      simp [prun_bind, prun_underlying hu, asIntOf, hs]
    · cases h
  · simp only [Option.ob_eq, Option.bind_eq_some_iff, Option.some.injEq] at h
    obtain ⟨q, h1, rfl⟩ := h
    exact ⟨q, rfl, h1⟩
theorem pure1_some {x : Option AV} {r : AV × AH} (h : pure1 H x = some r) : ∃ a, x = some a ∧ r = (a, H) := by
  unfold pure1 at h
  split at h
  · cases h; exact ⟨_, rfl, rfl⟩
  · cases h
theorem pl_gs {l : List AV} {vs us : List Value} (h : pl l = some vs) (h' : gs ρ l = some us) : us = vs := by
  have := gs_pl (ρ := ρ) h
  rw [h'] at this
  cases this
  rfl
theorem gs_one {a : AV} {vs : List Value} (h : gs ρ [a] = some vs) : ∃ V, g ρ a = some V ∧ vs = [V] := by
  obtain ⟨x, xs, h1, h2, rfl⟩ := gs_cons.mp h
  rw [gs_nil] at h2
  subst h2
  exact ⟨x, h1, rfl⟩
theorem gs_two {a b : AV} {vs : List Value} (h : gs ρ [a, b] = some vs) : ∃ V U, g ρ a = some V ∧ g ρ b = some U ∧ vs = [V, U] := by
  obtain ⟨x, xs, h1, h2, rfl⟩ := gs_cons.mp h
  obtain ⟨y, h3, rfl⟩ := gs_one h2
  exact ⟨x, y, h1, h3, rfl⟩
theorem bLen_ok {c : Call} {ty : TypeId} {as : List AV} {x : AV} (h : bLen P H c ty as = some x) {vs : List Value} (ha : gs ρ as = some vs) : ∃ V, g ρ x = some V ∧ prun P (Builtin.len_ c.argTypes ty vs.toArray) = some V := by
  unfold bLen at h
  split at h
  · rename_i us hu
    rw [pl_gs hu ha]
    simp only [Option.ob_eq, Option.bind_eq_some_iff, Option.some.injEq] at h
    obtain ⟨q, h1, rfl⟩ := h
    exact ⟨q, rfl, h1⟩
  · split at h
    · rename_i t k o n cc hts hnone
      split at h
      · rename_i el hu
        cases h
        obtain ⟨V, h1, rfl⟩ := gs_one ha
        simp only [g] at h1
        split at h1 <;> cases h1
        have e : c.argTypes = #[t] := by apply Array.ext'; simpa using hts
        rw [e]
        exact ⟨_, rfl, len_slice hu ty _ _ _⟩
      · cases h
    · rename_i t k j hts hnone
      split at h
      · rename_i el hu
        cases h
        obtain ⟨V, h1, rfl⟩ := gs_one ha
        simp only [g] at h1
        split at h1 <;> (try (split at h1)) <;> cases h1
        have e : c.argTypes = #[t] := by apply Array.ext'; simpa using hts
        rw [e]
        exact ⟨_, rfl, len_slice hu ty _ _ _⟩
      · cases h
    · cases h
theorem bCap_ok {c : Call} {ty : TypeId} {as : List AV} {x : AV} (h : bCap P H c ty as = some x) {vs : List Value} (ha : gs ρ as = some vs) : ∃ V, g ρ x = some V ∧ prun P (Builtin.cap_ c.argTypes ty vs.toArray) = some V := by
  unfold bCap at h
  split at h
  · rename_i us hu
    rw [pl_gs hu ha]
    simp only [Option.ob_eq, Option.bind_eq_some_iff, Option.some.injEq] at h
    obtain ⟨q, h1, rfl⟩ := h
    exact ⟨q, rfl, h1⟩
  · split at h
    · rename_i t k o n cc hts hnone
      split at h
      · rename_i el hu
        cases h
        obtain ⟨V, h1, rfl⟩ := gs_one ha
        simp only [g] at h1
        split at h1 <;> cases h1
        have e : c.argTypes = #[t] := by apply Array.ext'; simpa using hts
        rw [e]
        refine ⟨_, rfl, ?_⟩
        unfold Builtin.cap_
        simp [prun_bind, prun_underlying hu, goInt, Cap.at]
      · cases h
    · cases h
theorem method_one (n : Nat) {t : TypeId} {i : TypeInfo} {mm : Method} {f : FuncId} {pr : Bool} {name : String} {d : TypeDesc} (X : Value) (h1 : P.info? t = some i) (h2 : i.methods.find? (·.name == name) = some mm) (hp : mm.path.toList = []) (hf : mm.func = some (f, pr))
    (hu : P.underlying t = some d) (hd : (∃ el, d = .pointer el ∧ pr = true) ∨ ((∀ el, d ≠ .pointer el) ∧ pr = false)) : prun P (method (n + 1) t X name) = some (f, X) := by
  have hr : ∀ wr, prun P (receiverAt t (.val X) pr wr) = some X := by
    intro wr
    unfold receiverAt
    simp only [prun_bind, prun_underlying hu, Option.bind_some]
    rcases hd with ⟨el, rfl, rfl⟩ | ⟨hd, rfl⟩
    · rfl
    · cases d <;> first | rfl | exact absurd rfl (hd _)
  unfold method
  simp only [prun_bind, prun_typeInfo h1, Option.bind_some, h2, hp, follow, prun_pure, hf, hr]
theorem bMethod_ok {a : AV} {name : String} {m : FuncId × AV} (h : bMethod P a name = some m) {A : Value} (hA : g ρ a = some A) (w : World) : ∃ X, g ρ m.2 = some X ∧ imethod P A name w = some (m.1, X) := by
  unfold bMethod at h
  split at h
  · simp only [Option.ob_eq, Option.bind_eq_some_iff, Option.some.injEq] at h
    obtain ⟨q, h1, rfl⟩ := h
    simp only [g, Option.some.injEq] at hA
    subst hA
    exact ⟨q.2, rfl, by unfold imethod; exact rrun_of_prun h1 w⟩
  · rename_i t x
    simp only [g] at hA
    split at hA <;> cases hA
    rename_i X hX
    simp only [Option.ob_eq, Option.bind_eq_some_iff] at h
    obtain ⟨i, h1, mm, h2, h3⟩ := h
    cases hp : mm.path.isEmpty with
    | false => rw [hp] at h3; cases h3
    | true =>
      rw [hp] at h3
      simp only [cond_true] at h3
      have hpath : mm.path.toList = [] := by
        have := hp
        simp [Array.isEmpty] at this
        simp [this]
      split at h3
      · rename_i f hf
        split at h3
        · rename_i el hu
          cases h3
          refine ⟨X, hX, rrun_of_prun ?_ w⟩
          have hdp : 0 < Made.depth := by decide
          obtain ⟨n, hn⟩ : ∃ n, P.types.size + Made.depth = n + 1 := ⟨P.types.size + Made.depth - 1, by omega⟩
          rw [hn]
          exact method_one n X h1 h2 hpath hf hu (.inl ⟨el, rfl, rfl⟩)
        · cases h3
      · rename_i f hf
        split at h3
        · cases h3
        · rename_i d hd hu
          cases h3
          refine ⟨X, hX, rrun_of_prun ?_ w⟩
          have hdp : 0 < Made.depth := by decide
          obtain ⟨n, hn⟩ : ∃ n, P.types.size + Made.depth = n + 1 := ⟨P.types.size + Made.depth - 1, by omega⟩
          rw [hn]
          exact method_one n X h1 h2 hpath hf hu (.inr ⟨fun el e => hd el e, rfl⟩)
        · cases h3
      · cases h3
  · cases h

/-- what an operation has come to -/
def OpTo (P : Program) (call : CallF) (W : World) (ρ : Rho) (o : Oper) (eR : Env) (w : World) (v : AV) (H : AH) : Prop :=
  ∃ ρ' V w', RhoLe ρ ρ' ∧ Rel W ρ' H w' ∧ g ρ' v = some V ∧ ∀ {σ : Type} (next : Value → World → Option σ), aOp P call o eR w next = next V w'
theorem oneOpt_ok {x : Option (List AV)} {r : Option Value} (h : oneOpt x = some r) : ∃ as, x = some as ∧ ∀ vs, gs ρ as = some vs → vs.head? = r := by
  unfold oneOpt at h
  split at h
  · cases h
    exact ⟨_, rfl, fun vs hv => by rw [gs_nil] at hv; subst hv; rfl⟩
  · cases h
    exact ⟨_, rfl, fun vs hv => by obtain ⟨V, h1, rfl⟩ := gs_one hv; simp only [g, Option.some.injEq] at h1; subst h1; rfl⟩
  · cases h
theorem optArg {x : Option Operand} {r : Option Value} (hE : EnvR ρ e eR) (h : oneOpt (aevs e x.toList) = some r) : ∃ vs, evs eR x.toList = some vs ∧ vs.head? = r := by
  obtain ⟨as, h1, h2⟩ := oneOpt_ok (ρ := ρ) h
  obtain ⟨vs, h3, h4⟩ := aevs_ok hE h1
  exact ⟨vs, h4, h2 vs h3⟩
theorem bCallOp_ok (r : Rel W ρ H w) (hG : GlobOk G W) (hC : CallB P call W bc) (hE : EnvR ρ e eR) {dst : Option Nat} {c : Call} {ty : TypeId} {pos : String} {after : Array Edge} {gd : Option (Nat × Bool)} {v : AV}
    (h : bCallOp P G bc H e c ty = some (v, H')) : OpTo P call W ρ ⟨dst, .call c, ty, pos, after, gd⟩ eR w v H' := by
  unfold bCallOp at h
  have pureC : ∀ {V : Value}, H' = H → g ρ v = some V → (∀ {σ : Type} (next : Value → World → Option σ), aOp P call ⟨dst, .call c, ty, pos, after, gd⟩ eR w next = next V w) → OpTo P call W ρ ⟨dst, .call c, ty, pos, after, gd⟩ eR w v H' :=
    fun h1 h2 h3 => ⟨ρ, _, w, RhoLe.refl _, h1 ▸ r, h2, h3⟩
  have doneC : ∀ {x : Option (Value × World)}, Done W ρ v H' x → (∀ {σ : Type} (next : Value → World → Option σ), aOp P call ⟨dst, .call c, ty, pos, after, gd⟩ eR w next = x.bind fun r => next r.1 r.2) → OpTo P call W ρ ⟨dst, .call c, ty, pos, after, gd⟩ eR w v H' := by
    rintro x ⟨ρ', V, w', h1, h2, h3, rfl⟩ h4
    exact ⟨ρ', V, w', h1, h2, h3, fun next => by rw [h4]; rfl⟩
  obtain ⟨callee, args, argTypes⟩ := c
  cases callee with
  | builtin b =>
    cases b with
    | len =>
      simp only [Option.ob_eq, Option.bind_eq_some_iff] at h
      obtain ⟨as, h1, h2⟩ := h
      obtain ⟨a, h3, h4⟩ := pure1_some h2
      cases h4
      obtain ⟨vs, h5, h6⟩ := aevs_ok hE h1
      obtain ⟨V, h7, h8⟩ := bLen_ok h3 h5
      refine pureC rfl h7 fun next => ?_
      (simp only [aOp, Option.ebind_eq]; simp only [h6, Option.bind_some])
      split
      · rw [h8]; rfl
      · rw [rrun_of_prun h8]; rfl
    | cap =>
      simp only [Option.ob_eq, Option.bind_eq_some_iff] at h
      obtain ⟨as, h1, h2⟩ := h
      obtain ⟨a, h3, h4⟩ := pure1_some h2
      cases h4
      obtain ⟨vs, h5, h6⟩ := aevs_ok hE h1
      obtain ⟨V, h7, h8⟩ := bCap_ok h3 h5
      refine pureC rfl h7 fun next => ?_
      (simp only [aOp, Option.ebind_eq]; simp only [h6, Option.bind_some])
      split
      · rw [h8]; rfl
      · rw [rrun_of_prun h8]; rfl
    | min =>
      simp only [Option.ob_eq, Option.bind_eq_some_iff, Option.some.injEq, Prod.mk.injEq] at h
      obtain ⟨as, h1, us, h2, q, h3, rfl, rfl⟩ := h
      obtain ⟨vs, h5, h6⟩ := aevs_ok hE h1
      have := pl_gs h2 h5
      subst this
      refine pureC rfl rfl fun next => ?_
      (simp only [aOp, Option.ebind_eq]; simp only [h6, Option.bind_some])
      rw [h3]; rfl
    | max =>
      simp only [Option.ob_eq, Option.bind_eq_some_iff, Option.some.injEq, Prod.mk.injEq] at h
      obtain ⟨as, h1, us, h2, q, h3, rfl, rfl⟩ := h
      obtain ⟨vs, h5, h6⟩ := aevs_ok hE h1
      have := pl_gs h2 h5
      subst this
      refine pureC rfl rfl fun next => ?_
      (simp only [aOp, Option.ebind_eq]; simp only [h6, Option.bind_some])
      rw [h3]; rfl
    | append =>
      simp only [Option.ob_eq, Option.bind_eq_some_iff] at h
      obtain ⟨as, h1, h2⟩ := h
      obtain ⟨vs, h5, h6⟩ := aevs_ok hE h1
      split at h2
      · obtain ⟨A, B, h7, h8, rfl⟩ := gs_two h5
        refine doneC (bAppend_ok (ty := ty) r hG h2 h7 h8) fun next => ?_
        (simp only [aOp, Option.ebind_eq]; simp only [h6, Option.bind_some])
      · cases h2
    | copy =>
      simp only [Option.ob_eq, Option.bind_eq_some_iff] at h
      obtain ⟨as, h1, h2⟩ := h
      obtain ⟨vs, h5, h6⟩ := aevs_ok hE h1
      split at h2
      · obtain ⟨A, B, h7, h8, rfl⟩ := gs_two h5
        refine doneC (bCopy_ok (ty := ty) r hG h2 h7 h8) fun next => ?_
        (simp only [aOp, Option.ebind_eq]; simp only [h6, Option.bind_some])
      · cases h2
    | _ => cases h
  | invoke rc name =>
    simp only [Option.ob_eq, Option.bind_eq_some_iff] at h
    obtain ⟨a, h1, as, h2, m, h3, h4⟩ := h
    obtain ⟨A, a1, a2⟩ := aev_ok hE h1
    obtain ⟨vs, h5, h6⟩ := aevs_ok hE h2
    obtain ⟨X, x1, x2⟩ := bMethod_ok h3 a1 w
    refine doneC (hC _ _ _ _ _ h4 ρ w (X :: vs) r (gs_cons.mpr ⟨_, _, x1, h5, rfl⟩)) fun next => ?_
    (simp only [aOp, Option.ebind_eq]; simp only [a2, h6, Option.bind_some, x2])
  | value x =>
    cases x with
    | func f =>
      simp only [Option.ob_eq, Option.bind_eq_some_iff] at h
      obtain ⟨as, h1, h2⟩ := h
      obtain ⟨vs, h5, h6⟩ := aevs_ok hE h1
      cases hb : bodyless P f with
      | true =>
        rw [hb] at h2
        simp only [cond_true, Option.ob_eq, Option.bind_eq_some_iff] at h2
        obtain ⟨us, h3, h4⟩ := h2
        have := pl_gs h3 h5
        subst this
        split at h4
        · rename_i q hq
          cases h4
          refine pureC rfl rfl fun next => ?_
          (simp only [aOp, Option.ebind_eq]; simp only [h6, Option.bind_some, hb, cond_true, xrun, prun_run hq w])
        · cases h4
      | false =>
        rw [hb] at h2
        simp only [cond_false] at h2
        refine doneC (hC _ _ _ _ _ h2 ρ w vs r h5) fun next => ?_
        (simp only [aOp, Option.ebind_eq]; simp only [h6, Option.bind_some, hb, cond_false])
    | tmp t =>
      simp only [Option.ob_eq, Option.bind_eq_some_iff] at h
      obtain ⟨a, h1, as, h2, h3⟩ := h
      obtain ⟨A, a1, a2⟩ := aev_ok hE h1
      obtain ⟨vs, h5, h6⟩ := aevs_ok hE h2
      split at h3
      · rename_i f first cap
        simp only [g, Option.some.injEq] at a1
        subst a1
        refine doneC (hC _ _ _ _ _ h3 ρ w (first.toList ++ vs ++ cap.toList) r (gs_append (gs_append (gs_map _) h5) (gs_map _))) fun next => ?_
        (simp only [aOp, Option.ebind_eq]; simp only [a2, h6, Option.bind_some, callV])
        congr 2
        apply Array.ext'
        simp
      · rename_i f fa l
        simp only [g] at a1
        split at a1
        case h_2 => cases a1
        rename_i fs hfs
        split at a1 <;> cases a1
        rename_i us hus
        refine doneC (hC _ _ _ _ _ h3 ρ w (fs ++ vs ++ us) r (gs_append (gs_append hfs h5) hus)) fun next => ?_
        (simp only [aOp, Option.ebind_eq]; simp only [a2, h6, Option.bind_some, callV])
        congr 2
        apply Array.ext'
        simp
      · cases h3
    | const q =>
      simp only [Option.ob_eq, Option.bind_eq_some_iff] at h
      obtain ⟨a, h1, as, h2, h3⟩ := h
      obtain ⟨A, a1, a2⟩ := aev_ok hE h1
      obtain ⟨vs, h5, h6⟩ := aevs_ok hE h2
      split at h3
      · rename_i f first cap
        simp only [g, Option.some.injEq] at a1
        subst a1
        refine doneC (hC _ _ _ _ _ h3 ρ w (first.toList ++ vs ++ cap.toList) r (gs_append (gs_append (gs_map _) h5) (gs_map _))) fun next => ?_
        (simp only [aOp, Option.ebind_eq]; simp only [a2, h6, Option.bind_some, callV])
        congr 2
        apply Array.ext'
        simp
      · rename_i f fa l
        simp only [g] at a1
        split at a1
        case h_2 => cases a1
        rename_i fs hfs
        split at a1 <;> cases a1
        rename_i us hus
        refine doneC (hC _ _ _ _ _ h3 ρ w (fs ++ vs ++ us) r (gs_append (gs_append hfs h5) hus)) fun next => ?_
        (simp only [aOp, Option.ebind_eq]; simp only [a2, h6, Option.bind_some, callV])
        congr 2
        apply Array.ext'
        simp
      · cases h3
    | global q =>
      simp only [aev, Option.ob_eq, Option.bind_eq_some_iff] at h
      obtain ⟨a, h1, as, h2, h3⟩ := h
      cases h1
      cases h3
theorem bOp_ok (r : Rel W ρ H w) (hG : GlobOk G W) (hC : CallB P call W bc) (hE : EnvR ρ e eR) {o : Oper} {v : AV} (h : bOp P G bc o e H = some (v, H')) : OpTo P call W ρ o eR w v H' := by
  obtain ⟨dst, op, ty, pos, after, gd⟩ := o
  have pureC : ∀ {V : Value}, H' = H → g ρ v = some V → (∀ {σ : Type} (next : Value → World → Option σ), aOp P call ⟨dst, op, ty, pos, after, gd⟩ eR w next = next V w) → OpTo P call W ρ ⟨dst, op, ty, pos, after, gd⟩ eR w v H' :=
    fun h1 h2 h3 => ⟨ρ, _, w, RhoLe.refl _, h1 ▸ r, h2, h3⟩
  have doneC : ∀ {x : Option (Value × World)}, Done W ρ v H' x → (∀ {σ : Type} (next : Value → World → Option σ), aOp P call ⟨dst, op, ty, pos, after, gd⟩ eR w next = x.bind fun r => next r.1 r.2) → OpTo P call W ρ ⟨dst, op, ty, pos, after, gd⟩ eR w v H' := by
    rintro x ⟨ρ', V, w', h1, h2, h3, rfl⟩ h4
    exact ⟨ρ', V, w', h1, h2, h3, fun next => by rw [h4]; rfl⟩
  unfold bOp at h
  cases op <;> simp only [] at h <;> try (cases h; done)
  case move x =>
    unfold oMove at h
    obtain ⟨a, h1, h2⟩ := pure1_some h
    cases h2
    obtain ⟨A, a1, a2⟩ := aev_ok hE h1
    exact pureC rfl a1 fun next => by (simp only [aOp, Option.ebind_eq]; simp only [a2, Option.bind_some])
  case assign x =>
    unfold oMove at h
    obtain ⟨a, h1, h2⟩ := pure1_some h
    cases h2
    obtain ⟨A, a1, a2⟩ := aev_ok hE h1
    exact pureC rfl a1 fun next => by (simp only [aOp, Option.ebind_eq]; simp only [a2, Option.bind_some])
  case pick c a b =>
    unfold oPick at h
    simp only [Option.ob_eq, Option.bind_eq_some_iff] at h
    obtain ⟨c', h1, a', h2, b', h3, h4⟩ := h
    obtain ⟨C, c1, c2⟩ := aev_ok hE h1
    obtain ⟨A, a1, a2⟩ := aev_ok hE h2
    obtain ⟨B, b1, b2⟩ := aev_ok hE h3
    split at h4
    · rename_i q
      cases h4
      simp only [g, Option.some.injEq] at c1
      subst c1
      cases q with
      | true => exact pureC rfl a1 fun next => by (simp only [aOp, Option.ebind_eq]; simp only [a2, b2, c2, Option.bind_some, pickV])
      | false => exact pureC rfl b1 fun next => by (simp only [aOp, Option.ebind_eq]; simp only [a2, b2, c2, Option.bind_some, pickV])
    · cases h4
  case binOp bop t x y yt =>
    unfold oBinOp at h
    simp only [Option.ob_eq, Option.bind_eq_some_iff] at h
    obtain ⟨a', h1, b', h2, h3⟩ := h
    obtain ⟨q, h4, h5⟩ := pure1_some h3
    cases h5
    obtain ⟨A, a1, a2⟩ := aev_ok hE h1
    obtain ⟨B, b1, b2⟩ := aev_ok hE h2
    obtain ⟨V, v1, v2⟩ := bBin_ok (x := x) (y := y) h4 a1 b1 w
    exact pureC rfl v1 fun next => by (simp only [aOp, Option.ebind_eq]; simp only [a2, b2, Option.bind_some]); exact v2 next
  case unOp uop t x =>
    unfold oUnOp at h
    simp only [Option.ob_eq, Option.bind_eq_some_iff] at h
    obtain ⟨a', h1, h2⟩ := h
    obtain ⟨A, a1, a2⟩ := aev_ok hE h1
    split at h2
    · rename_i p
      simp only [Option.ob_eq, Option.bind_eq_some_iff, Option.some.injEq, Prod.mk.injEq] at h2
      obtain ⟨q, h3, rfl, rfl⟩ := h2
      simp only [g, Option.some.injEq] at a1
      subst a1
      exact pureC rfl rfl fun next => by (simp only [aOp, Option.ebind_eq]; simp only [a2, Option.bind_some, h3])
    · cases h2
  case convert s d x =>
    unfold oConvert at h
    simp only [Option.ob_eq, Option.bind_eq_some_iff] at h
    obtain ⟨a', h1, h2⟩ := h
    obtain ⟨A, a1, a2⟩ := aev_ok hE h1
    have text : ∀ {q : AV}, convPure P s d = false → convReads P s d = true → pure1 H (bText P G H s d q) = some (v, H') → g ρ q = some A → OpTo P call W ρ ⟨dst, .convert s d x, ty, pos, after, gd⟩ eR w v H' := by
      intro q c1 c2 c3 c4
      obtain ⟨q', c5, c6⟩ := pure1_some c3
      cases c6
      obtain ⟨V, v1, v2⟩ := bText_ok r.toLive hG c5 c4
      exact pureC rfl v1 fun next => by (simp only [aOp, Option.ebind_eq]; simp only [a2, Option.bind_some, c1, c2, Bool.false_eq_true, if_false, if_true, v2])
    split at h2
    · rename_i p
      simp only [g, Option.some.injEq] at a1
      subst a1
      cases hcp : convPure P s d with
      | true =>
        simp only [hcp, Bool.true_or, cond_true] at h2
        split at h2
        · rename_i q hq
          cases h2
          exact pureC rfl rfl fun next => by (simp only [aOp, Option.ebind_eq]; simp only [a2, Option.bind_some, hcp, if_true, hq])
        · cases h2
      | false =>
        cases hcr : convReads P s d with
        | false => simp only [hcp, hcr, Bool.or_false, cond_false] at h2; cases h2
        | true =>
          simp only [hcp, hcr, Bool.or_true, cond_true, cond_false] at h2
          split at h2
          · rename_i q hq
            cases h2
            exact pureC rfl rfl fun next => by (simp only [aOp, Option.ebind_eq]; simp only [a2, Option.bind_some, hcp, hcr, Bool.false_eq_true, if_false, if_true, rrun_of_prun hq])
          · exact text hcp hcr h2 rfl
    · cases hcp : convPure P s d with
      | true => rw [hcp] at h2; cases h2
      | false =>
        cases hcr : convReads P s d with
        | false => simp only [hcp, hcr, cond_false] at h2; cases h2
        | true =>
          simp only [hcp, hcr, cond_true, cond_false] at h2
          exact text hcp hcr h2 a1
  case fieldAddr s x f =>
    unfold oFieldAddr at h
    simp only [Option.ob_eq, Option.bind_eq_some_iff] at h
    obtain ⟨a', h1, h2⟩ := h
    obtain ⟨q, h4, h5⟩ := pure1_some h2
    cases h5
    obtain ⟨A, a1, a2⟩ := aev_ok hE h1
    obtain ⟨V, v1, v2⟩ := bFieldAddr_ok h4 a1
    exact pureC rfl v1 fun next => by (simp only [aOp, Option.ebind_eq]; simp only [a2, Option.bind_some, v2])
  case field t x f =>
    unfold oField at h
    simp only [Option.ob_eq, Option.bind_eq_some_iff] at h
    obtain ⟨a', h1, h2⟩ := h
    obtain ⟨q, h4, h5⟩ := pure1_some h2
    cases h5
    obtain ⟨A, a1, a2⟩ := aev_ok hE h1
    obtain ⟨V, v1, v2⟩ := bField_ok h4 a1
    exact pureC rfl v1 fun next => by (simp only [aOp, Option.ebind_eq]; simp only [a2, Option.bind_some, v2])
  case indexAddr t x i =>
    unfold oIndexAddr at h
    simp only [Option.ob_eq, Option.bind_eq_some_iff] at h
    obtain ⟨a', h1, b', h2, h3⟩ := h
    obtain ⟨q, h4, h5⟩ := pure1_some h3
    cases h5
    obtain ⟨A, a1, a2⟩ := aev_ok hE h1
    obtain ⟨B, b1, b2⟩ := aev_ok hE h2
    obtain ⟨V, v1, v2⟩ := bIndexAddr_ok h4 a1 b1
    exact pureC rfl v1 fun next => by (simp only [aOp, Option.ebind_eq]; simp only [a2, b2, Option.bind_some, v2])
  case index t x i =>
    unfold oIndex at h
    simp only [Option.ob_eq, Option.bind_eq_some_iff] at h
    obtain ⟨a', h1, b', h2, h3⟩ := h
    obtain ⟨A, a1, a2⟩ := aev_ok hE h1
    obtain ⟨B, b1, b2⟩ := aev_ok hE h2
    split at h3
    · obtain ⟨q, h4, h5⟩ := pure1_some h3
      cases h5
      simp only [g, Option.some.injEq] at a1 b1
      subst a1; subst b1
      obtain ⟨V, v1, v2⟩ := bIndex_ok (ρ := ρ) h4
      exact pureC rfl v1 fun next => by (simp only [aOp, Option.ebind_eq]; simp only [a2, b2, Option.bind_some, v2])
    · cases h3
  case nilCheck x =>
    unfold oNilCheck at h
    simp only [Option.ob_eq, Option.bind_eq_some_iff] at h
    obtain ⟨a', h1, h2⟩ := h
    obtain ⟨q, h4, h5⟩ := pure1_some h2
    cases h5
    obtain ⟨A, a1, a2⟩ := aev_ok hE h1
    obtain ⟨V, v1, v2⟩ := bNil_ok h4 a1
    exact pureC rfl v1 fun next => by (simp only [aOp, Option.ebind_eq]; simp only [a2, Option.bind_some, v2])
  case slice t x lo hi mx =>
    unfold oSlice at h
    simp only [Option.ob_eq, Option.bind_eq_some_iff] at h
    obtain ⟨a', h1, lo', h2, hi', h3, mx', h4, h6⟩ := h
    obtain ⟨A, a1, a2⟩ := aev_ok hE h1
    obtain ⟨ls, l1, l2⟩ := optArg hE h2
    obtain ⟨hs, m1, m2⟩ := optArg hE h3
    obtain ⟨ms, n1, n2⟩ := optArg hE h4
    obtain ⟨ρ', V, l0, r0, v1, v2⟩ := bSlice_ok r h6 a1
    refine ⟨ρ', V, w, l0, r0, v1, fun next => ?_⟩
    exact by (simp only [aOp, Option.ebind_eq]; simp only [a2, l1, m1, n1, Option.bind_some, l2, m2, n2, v2])
  case extract x i =>
    unfold oExtract at h
    simp only [Option.ob_eq, Option.bind_eq_some_iff] at h
    obtain ⟨a', h1, h2⟩ := h
    obtain ⟨q, h4, h5⟩ := pure1_some h2
    cases h5
    obtain ⟨A, a1, a2⟩ := aev_ok hE h1
    obtain ⟨V, v1, v2⟩ := bExtract_ok (P := P) h4 a1
    exact pureC rfl v1 fun next => by (simp only [aOp, Option.ebind_eq]; simp only [a2, Option.bind_some, v2])
  case build t ps =>
    unfold oBuild at h
    simp only [Option.ob_eq, Option.bind_eq_some_iff] at h
    obtain ⟨as, h1, h2⟩ := h
    obtain ⟨q, h4, h5⟩ := pure1_some h2
    cases h5
    obtain ⟨vs, a1, a2⟩ := aevs_ok hE h1
    obtain ⟨V, v1, v2⟩ := bBuild_ok h4 a1
    exact pureC rfl v1 fun next => by (simp only [aOp, Option.ebind_eq]; simp only [a2, Option.bind_some, v2])
  case makeInterface t x =>
    unfold oMakeInterface at h
    simp only [Option.ob_eq, Option.bind_eq_some_iff] at h
    obtain ⟨a', h1, h2⟩ := h
    obtain ⟨q, h4, h5⟩ := pure1_some h2
    cases h5
    obtain ⟨A, a1, a2⟩ := aev_ok hE h1
    obtain ⟨V, v1, v2⟩ := bMakeIface_ok h4 a1
    exact pureC rfl v1 fun next => by (simp only [aOp, Option.ebind_eq]; simp only [a2, Option.bind_some, v2])
  case makeFunc fn first cap =>
    unfold oMakeFunc at h
    simp only [Option.ob_eq, Option.bind_eq_some_iff] at h
    obtain ⟨as, h1, bs, h2, h3⟩ := h
    obtain ⟨q, h4, h5⟩ := pure1_some h3
    cases h5
    obtain ⟨vs, a1, a2⟩ := aevs_ok hE h1
    obtain ⟨us, b1, b2⟩ := aevs_ok hE h2
    exact pureC rfl (bMakeFunc_ok h4 a1 b1) fun next => by (simp only [aOp, Option.ebind_eq]; simp only [a2, b2, Option.bind_some])
  case typeAssert x t u ok =>
    unfold oTypeAssert at h
    simp only [Option.ob_eq, Option.bind_eq_some_iff] at h
    obtain ⟨a', h1, h2⟩ := h
    obtain ⟨q, h4, h5⟩ := pure1_some h2
    cases h5
    obtain ⟨A, a1, a2⟩ := aev_ok hE h1
    obtain ⟨V, v1, v2⟩ := bAssert_ok h4 a1
    exact pureC rfl v1 fun next => by (simp only [aOp, Option.ebind_eq]; simp only [a2, Option.bind_some, v2])
  case load t x =>
    unfold oLoad at h
    simp only [Option.ob_eq, Option.bind_eq_some_iff] at h
    obtain ⟨a', h1, h2⟩ := h
    obtain ⟨q, h4, h5⟩ := pure1_some h2
    cases h5
    obtain ⟨A, a1, a2⟩ := aev_ok hE h1
    obtain ⟨V, v1, v2⟩ := bLoad_ok r.toLive hG h4 a1
    exact pureC rfl v1 fun next => by (simp only [aOp, Option.ebind_eq]; simp only [a2, Option.bind_some, v2])
  case store t x y =>
    unfold oStore at h
    simp only [Option.ob_eq, Option.bind_eq_some_iff, Option.some.injEq, Prod.mk.injEq] at h
    obtain ⟨a', h1, b', h2, H1, h3, rfl, rfl⟩ := h
    obtain ⟨A, a1, a2⟩ := aev_ok hE h1
    obtain ⟨B, b1, b2⟩ := aev_ok hE h2
    obtain ⟨w', w1, w2⟩ := bStore_ok r h3 a1 b1
    exact ⟨ρ, undef, w', RhoLe.refl _, w1, rfl, fun next => by (simp only [aOp, Option.ebind_eq]; simp only [a2, b2, Option.bind_some, w2])⟩
  case alloc t => exact doneC (bAlloc_ok r h) fun next => by simp only [aOp]
  case box t x =>
    unfold oBox at h
    simp only [Option.ob_eq, Option.bind_eq_some_iff] at h
    obtain ⟨a', h1, h2⟩ := h
    obtain ⟨A, a1, a2⟩ := aev_ok hE h1
    exact doneC (bBox_ok (P := P) r h2 a1) fun next => by (simp only [aOp, Option.ebind_eq]; simp only [a2, Option.bind_some])
  case buildSlice t n ps =>
    unfold oBuildSlice at h
    simp only [Option.ob_eq, Option.bind_eq_some_iff] at h
    obtain ⟨as, h1, h2⟩ := h
    obtain ⟨vs, a1, a2⟩ := aevs_ok hE h1
    exact doneC (bBuildSlice_ok r h2 a1) fun next => by (simp only [aOp, Option.ebind_eq]; simp only [a2, Option.bind_some])
  case makeSlice t l c =>
    unfold oMakeSlice at h
    simp only [Option.ob_eq, Option.bind_eq_some_iff] at h
    obtain ⟨a', h1, b', h2, h3⟩ := h
    obtain ⟨A, a1, a2⟩ := aev_ok hE h1
    obtain ⟨B, b1, b2⟩ := aev_ok hE h2
    exact doneC (bMake_ok r h3 a1 b1) fun next => by (simp only [aOp, Option.ebind_eq]; simp only [a2, b2, Option.bind_some])
  case range t x =>
    unfold oRange at h
    simp only [Option.ob_eq, Option.bind_eq_some_iff] at h
    obtain ⟨a', h1, h2⟩ := h
    obtain ⟨A, a1, a2⟩ := aev_ok hE h1
    exact doneC (bRange_ok r h2 a1) fun next => by (simp only [aOp, Option.ebind_eq]; simp only [a2, Option.bind_some])
  case next it s =>
    unfold oNext at h
    simp only [Option.ob_eq, Option.bind_eq_some_iff] at h
    obtain ⟨a', h1, h2⟩ := h
    obtain ⟨A, a1, a2⟩ := aev_ok hE h1
    exact doneC (bNext_ok (P := P) (ty := ty) r h2 a1) fun next => by (simp only [aOp, Option.ebind_eq]; simp only [a2, Option.bind_some])
  case call c => exact bCallOp_ok r hG hC hE h
end
end Go.Sh.Ev
