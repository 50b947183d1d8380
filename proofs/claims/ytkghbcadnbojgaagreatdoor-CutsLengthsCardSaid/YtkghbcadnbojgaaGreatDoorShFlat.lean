/- The layer 'Sh': a region that draws its order and holds calls or stores: any order does what the text's order does. No condition. -/
import Derived.Test.YtkghbcadnbojgaaGreatDoorShSound
namespace Go.Sh
open Go
set_option linter.unusedVariables false
set_option linter.unusedSimpArgs false

/-! ### ancestors -/
theorem mask_spec {acc : List Nat} {o : Oper} {j : Nat} (h : (ancMask acc o).testBit j = true) : ∃ e ∈ o.after.toList, Region.binds .any e = true ∧ (e.on = j ∨ (acc.getD e.on 0).testBit j = true) := by
  unfold ancMask at h
  have key : ∀ (l : List Edge) (s : Nat), (l.foldl (fun s e => if Region.binds .any e = true then s ||| 2 ^ e.on ||| acc.getD e.on 0 else s) s).testBit j = true →
      s.testBit j = true ∨ ∃ e ∈ l, Region.binds .any e = true ∧ (e.on = j ∨ (acc.getD e.on 0).testBit j = true) := by
    intro l
    induction l with
    | nil => intro s h; exact .inl h
    | cons e r ih =>
      intro s h
      simp only [List.foldl_cons] at h
      rcases ih _ h with h1 | ⟨e', h2, h3⟩
      · split at h1
        · rename_i hb
          simp only [Nat.testBit_or, Bool.or_eq_true, Nat.testBit_two_pow, decide_eq_true_eq] at h1
          rcases h1 with (h1 | h1) | h1
          · exact .inl h1
          · exact .inr ⟨e, by simp, hb, .inl h1⟩
          · exact .inr ⟨e, by simp, hb, .inr h1⟩
        · exact .inl h1
      · exact .inr ⟨e', by simp [h2], h3⟩
  rcases key _ 0 h with h1 | h1
  · simp at h1
  · exact h1

theorem ancsFrom_spec : ∀ (l : List Oper) (acc : List Nat), (∀ i, i < acc.length → (ancsFrom acc l).getD i 0 = acc.getD i 0) ∧
    ∀ (k : Nat) (o : Oper), l[k]? = some o → ∃ pre : List Nat, (ancsFrom acc l).getD (acc.length + k) 0 = ancMask pre o ∧ ∀ i, i < acc.length + k → pre.getD i 0 = (ancsFrom acc l).getD i 0 := by
  intro l
  induction l with
  | nil => intro acc; exact ⟨fun i _ => rfl, fun k o h => by simp at h⟩
  | cons o r ih =>
    intro acc
    have h := ih (acc ++ [ancMask acc o])
    simp only [ancsFrom]
    have hlen : (acc ++ [ancMask acc o]).length = acc.length + 1 := by simp
    refine ⟨fun i hi => ?_, fun k q hk => ?_⟩
    · rw [h.1 i (by omega)]
      simp [List.getD_eq_getElem?_getD, List.getElem?_append_left hi]
    · cases k with
      | zero =>
        simp at hk; subst hk
        refine ⟨acc, ?_, fun i hi => ?_⟩
        · rw [Nat.add_zero, h.1 acc.length (by omega)]
          simp [List.getD_eq_getElem?_getD]
        · rw [h.1 i (by omega)]
          simp [List.getD_eq_getElem?_getD, List.getElem?_append_left (by omega : i < acc.length)]
      | succ k =>
        obtain ⟨pre, h1, h2⟩ := h.2 k q (by simpa using hk)
        rw [hlen] at h1 h2
        exact ⟨pre, by rw [show acc.length + (k + 1) = acc.length + 1 + k by omega]; exact h1, fun i hi => h2 i (by omega)⟩

/-- downward closed -/
def Closed (ops : List Oper) (S : Nat → Prop) : Prop := ∀ i o, S i → ops[i]? = some o → ∀ e ∈ o.after.toList, Region.binds .any e = true → S e.on
def Deps (ops : List Oper) (S : Nat → Prop) (i : Nat) : Prop := ∀ o, ops[i]? = some o → ∀ e ∈ o.after.toList, Region.binds .any e = true → S e.on

theorem anc_in {ops : List Oper} (hback : ∀ (i : Nat) (o : Oper), ops[i]? = some o → ∀ e ∈ o.after.toList, Region.binds .any e = true → e.on < i) {S : Nat → Prop} (hS : Closed ops S) :
    ∀ (i : Nat), i < ops.length → Deps ops S i → ∀ j, ((ancs ops).getD i 0).testBit j = true → S j ∧ j < i := by
  intro i
  induction i using Nat.strongRecOn with
  | _ i ih =>
    intro hi hd j hj
    have ho : ops[i]? = some ops[i] := List.getElem?_eq_getElem hi
    obtain ⟨pre, h1, h2⟩ := (ancsFrom_spec ops []).2 i _ ho
    simp only [List.length_nil, Nat.zero_add] at h1 h2
    unfold ancs at hj
    rw [h1] at hj
    obtain ⟨e, he, hb, hc⟩ := mask_spec hj
    have hlt := hback i _ ho e he hb
    have hin := hd _ ho e he hb
    rcases hc with rfl | hc
    · exact ⟨hin, hlt⟩
    · rw [h2 e.on hlt] at hc
      obtain ⟨h3, h4⟩ := ih e.on hlt (by omega) (fun o' ho' e' he' hb' => hS e.on o' hin ho' e' he' hb') j hc
      exact ⟨h3, by omega⟩

/-! ### the run in the text's order -/
structure Ent where
  act : Act
  v : Value
  before : World
  after : World
  g : Bool
  chk : World → Prop
def Exec3 (P : Program) (call : CallF) (o : Oper) (a : Act) (w : World) (v : Value) (w' : World) : Prop :=
  (execOp a.eval o).run P w = .ok (.value v) w' ∨ ((execOp a.eval o).run P w = .ok .skip w' ∧ v = undef) ∨ ∃ f args, (execOp a.eval o).run P w = .ok (.enter f args) w ∧ call f args w = some (v, w')
structure EntOk (P : Program) (call : CallF) (all : List Oper) (o : Oper) (x : Ent) : Prop where
  want : Region.wanted o (yielded all.toArray x.act.tmps) = x.g
  exec : x.g = true → Exec3 P call o x.act x.before x.v x.after
  none : x.g = false → x.v = undef ∧ x.after = x.before
  quiet : quietOp P o.op = true → x.after = x.before
  pure : x.g = true → pureOp P o.op = true → ∀ W, Exec3 P call o x.act W x.v W
  chk : x.g = true → quietOp P o.op = true → ∀ W, x.chk W → Exec3 P call o x.act W x.v W
def LexRun (P : Program) (call : CallF) (all : List Oper) : List Oper → Act → World → List Ent → Act → World → Prop
  | [], a, w, [], a', w' => a' = a ∧ w' = w
  | o :: rest, a, w, x :: L, a', w' => x.act = a ∧ x.before = w ∧ EntOk P call all o x ∧ LexRun P call all rest (a.put o.dst x.v) x.after L a' w'
  | _, _, _, _, _, _ => False

section
variable {P : Program} {call : CallF}
theorem pure_any {o : Oper} {e : Env} {w : World} {r : Value × World} (hp : pureOp P o.op = true) (h : aOp P call o e w (fun v w => some (v, w)) = some r) :
    ∀ W, aOp P call o e W (fun v w => some (v, w)) = some (r.1, W) := by
  intro W
  obtain ⟨dst, op, type, pos, after, guard⟩ := o
  unfold aOp at h ⊢
  simp only [Option.ebind_eq] at h ⊢
  cases op <;> simp only [] at h ⊢ <;> try (cases h; done)
  case binOp op t x y ty =>
    simp only [pureOp] at hp
    simp only [Option.bind_eq_some_iff] at h ⊢
    obtain ⟨a, h1, b, h2, h3⟩ := h
    refine ⟨a, h1, b, h2, ?_⟩
    by_cases hb : (isIntT P t && arith op) = true
    · rw [if_pos hb] at h3 ⊢
      simp only [Option.bind_eq_some_iff, Option.some.injEq] at h3 ⊢
      obtain ⟨v, h4, h5⟩ := h3
      exact ⟨v, h4, by rw [← h5]⟩
    · rw [if_neg hb] at h3 ⊢
      simp only [hp, if_true, Option.bind_eq_some_iff, Option.some.injEq] at h3 ⊢
      obtain ⟨v, h4, h5⟩ := h3
      exact ⟨v, h4, by rw [← h5]⟩
  case convert s d x =>
    simp only [pureOp] at hp
    simp only [hp, if_true, Option.bind_eq_some_iff, Option.some.injEq] at h ⊢
    obtain ⟨a, h1, v, h2, h3⟩ := h
    exact ⟨a, h1, v, h2, by rw [← h3]⟩
  case call c =>
    obtain ⟨callee, cargs, cts⟩ := c
    cases callee with
    | builtin b =>
      cases b <;> simp [pureOp] at hp
      all_goals try simp only [hp, if_true] at h ⊢
      all_goals
        simp only [Option.bind_eq_some_iff, Option.some.injEq] at h ⊢
        obtain ⟨a, h1, v, h2, h3⟩ := h
        exact ⟨a, h1, v, h2, by rw [← h3]⟩
    | _ => simp [pureOp] at hp
  all_goals first
    | (simp [pureOp] at hp; done)
    | (simp only [Option.bind_eq_some_iff, Option.some.injEq] at h ⊢
       first
       | (obtain ⟨a, h1, h2⟩ := h; exact ⟨a, h1, by rw [← h2]⟩)
       | (obtain ⟨a, h1, b, h2, h3⟩ := h; exact ⟨a, h1, b, h2, by rw [← h3]⟩)
       | (obtain ⟨a, h1, b, h2, c, h3, h4⟩ := h; exact ⟨a, h1, b, h2, c, h3, by rw [← h4]⟩)
       | (obtain ⟨a, h1, b, h2, c, h3, d, h4, h5⟩ := h; exact ⟨a, h1, b, h2, c, h3, d, h4, by rw [← h5]⟩)
       | (obtain ⟨a, h1, b, h2, c, h3, d, h4, f, h5, h6⟩ := h; exact ⟨a, h1, b, h2, c, h3, d, h4, f, h5, by rw [← h6]⟩))

theorem value_of_next {o : Oper} {e : Env} {W : World} {v : Value} (h : (aOp P call o e W fun v _ => some v) = some v) (hc : CallOk P call) (hq : quietOp P o.op = true) {a : Act} (ha : Agree e a) : Exec3 P call o a W v W := by
  obtain ⟨v', w', h1, _, h3⟩ := aOp_ok hc h
  simp only [Option.some.injEq] at h1
  subst h1
  obtain ⟨rfl, h4⟩ := h3 hq
  rcases h4 a ha with h5 | h5
  · exact .inl h5
  · exact .inr (.inl h5)

theorem guardV_spec {nt : Nat} {all : List Oper} (hreg : regionOk nt all = true) {i : Nat} {o : Oper} (ho : all[i]? = some o) {e : Env} {a : Act} (ha : Agree e a) {g : Bool} (h : guardV all o e = some g) :
    Region.wanted o (yielded all.toArray a.tmps) = g := by
  unfold guardV at h
  unfold Region.wanted
  cases hg : o.guard with
  | none => simp only [hg, Option.some.injEq] at h ⊢; exact h
  | some jw =>
    obtain ⟨j, want⟩ := jw
    simp only [hg, Option.ebind_eq, Option.bind_eq_some_iff, Option.some.injEq] at h ⊢
    obtain ⟨d, h1, v, h2, h3⟩ := h
    obtain ⟨_, d', hd⟩ := (regionOk_spec hreg ho).2 j want hg
    have : d' = d := Option.some.inj (hd.1.symm.trans h1)
    subst this
    rw [yielded_of hd, ha d' v h2]
    cases v <;> simp [wantedV] at h3 ⊢ <;> first | exact h3 | (subst h3; rfl)

/-- what the flat run tells -/
theorem aFlat_ok (hc : CallOk P call) {nt : Nat} {all : List Oper} (hreg : regionOk nt all = true) {ρ : Type} : ∀ (l : List Oper) (i : Nat) (e : Env) (w : World) (log : List LogE) (k : Env → World → List LogE → Option ρ) (r : ρ),
    (∀ m, m < l.length → all[i + m]? = l[m]?) → aFlat P call all l e w log k = some r →
    ∃ (logs : List LogE) (e' : Env) (w' : World), k e' w' (log ++ logs) = some r ∧ ∀ a, nt ≤ a.tmps.size → Agree e a → ∃ (L : List Ent) (a' : Act), LexRun P call all l a w L a' w' ∧ Agree e' a' ∧
      logs = L.map (fun x => ⟨x.before, x.after, x.chk⟩) ∧ Kept (dsts l) a a' := by
  intro l
  induction l with
  | nil =>
    intro i e w log k r _ h
    exact ⟨[], e, w, by simpa [Option.ebind_eq, aFlat] using h, fun a _ ha => ⟨[], a, ⟨rfl, rfl⟩, ha, rfl, Kept.refl _ _⟩⟩
  | cons o rest ih =>
    intro i e w log k r hidx h
    have ho : all[i]? = some o := by simpa using hidx 0 (by simp)
    simp only [Option.ebind_eq, aFlat, Option.bind_eq_some_iff] at h
    obtain ⟨g, h1, r1, h2, h3⟩ := h
    obtain ⟨logs, e', w', h4, h5⟩ := ih (i + 1) _ _ _ k r (fun m hm => by
      have := hidx (m + 1) (by simp; omega)
      rw [show i + 1 + m = i + (m + 1) by omega, this]; simp) h3
    refine ⟨⟨w, r1.2, fun W => if g = true then (aOp P call o e W fun v _ => some v) = some r1.1 else True⟩ :: logs, e', w', by rw [List.append_assoc] at h4; exact h4, fun a hnt ha => ?_⟩
    have hput : Kept (dsts [o]) a (a.put o.dst r1.1) := Kept.put _ _ _ fun n hn => by simp [dsts, hn]
    have hd := (regionOk_spec hreg ho).1
    obtain ⟨L, a', h6, h7, h8, h9⟩ := h5 (a.put o.dst r1.1) (by rw [hput.size]; exact hnt) (ha.put fun m hm => Nat.lt_of_lt_of_le (hd m hm) hnt)
    have hw := guardV_spec hreg ho ha h1
    refine ⟨⟨a, r1.1, w, r1.2, g, fun W => if g = true then (aOp P call o e W fun v _ => some v) = some r1.1 else True⟩ :: L, a', ⟨rfl, rfl, ?_, h6⟩, h7, by rw [h8]; rfl, hput.trans h9 (dsts_head_sub o rest) (dsts_cons_sub o rest)⟩
    cases g with
    | false =>
      simp only [Bool.false_eq_true, if_false, Option.some.injEq] at h2
      subst h2
      exact ⟨hw, (fun h => by cases h), fun _ => ⟨rfl, rfl⟩, fun _ => rfl, (fun h => by cases h), (fun h => by cases h)⟩
    | true =>
      simp only [if_true] at h2
      obtain ⟨v, w1, h10, h11, h12⟩ := aOp_ok hc h2
      simp only [Option.some.injEq] at h10
      subst h10
      refine ⟨hw, fun _ => h11 a ha, (fun h => by cases h), fun hq => (h12 hq).1, fun _ hp W => ?_, fun _ hq W hck => ?_⟩
      · have h13 := pure_any hp h2 W
        obtain ⟨v', w1', h14, h15, _⟩ := aOp_ok hc h13
        simp only [Option.some.injEq, Prod.mk.injEq] at h14
        obtain ⟨rfl, rfl⟩ := h14
        exact h15 a ha
      · simp only [if_true] at hck
        exact value_of_next hck hc hq ha
end

/-! ### any order -/
theorem lex_split {P : Program} {call : CallF} {all : List Oper} : ∀ (l : List Oper) (a : Act) (w : World) (L : List Ent) (a' : Act) (w' : World), LexRun P call all l a w L a' w' → L.length = l.length ∧
    ∀ i, i ≤ l.length → ∃ b v, LexRun P call all (l.take i) a w (L.take i) b v ∧ LexRun P call all (l.drop i) b v (L.drop i) a' w' := by
  intro l
  induction l with
  | nil =>
    intro a w L a' w' h
    cases L with
    | nil => exact ⟨rfl, fun i hi => ⟨a, w, by simp [LexRun], by simpa using h⟩⟩
    | cons x L => exact h.elim
  | cons o r ih =>
    intro a w L a' w' h
    cases L with
    | nil => exact h.elim
    | cons x L =>
      obtain ⟨h1, h2, h3, h4⟩ := h
      obtain ⟨h5, h6⟩ := ih _ _ _ _ _ h4
      refine ⟨by simp [h5], fun i hi => ?_⟩
      cases i with
      | zero => exact ⟨a, w, by simp [LexRun], by simpa using ⟨h1, h2, h3, h4⟩⟩
      | succ i =>
        obtain ⟨b, v, h7, h8⟩ := h6 i (by simpa using hi)
        exact ⟨b, v, ⟨h1, h2, h3, h7⟩, by simpa using h8⟩

section
variable (P : Program) (call : CallF) (all : List Oper) (L : List Ent) (a0 : Act) (w0 : World)
structure SlotsAt (T : Nat → Prop) (b : Act) : Prop where
  size : b.tmps.size = a0.tmps.size
  defers : b.defers = a0.defers
  done : ∀ (i : Nat) (o : Oper) (x : Ent) (t : Nat), T i → all[i]? = some o → L[i]? = some x → o.dst = some t → b.tmps[t]? = some x.v
  old : ∀ (t : Nat), (∀ (i : Nat) (o : Oper), T i → all[i]? = some o → o.dst ≠ some t) → b.tmps[t]? = a0.tmps[t]?
def Eff (i : Nat) : Prop := ∃ o, all[i]? = some o ∧ quietOp P o.op = false
def WorldOf (T : Nat → Prop) (W : World) : Prop :=
  (∃ m x, T m ∧ Eff P all m ∧ (∀ m', T m' → Eff P all m' → m' ≤ m) ∧ L[m]? = some x ∧ W = x.after) ∨ ((∀ m, T m → ¬ Eff P all m) ∧ W = w0)
variable {P call all L a0 w0}
theorem WorldOf.same {T T' : Nat → Prop} {W W' : World} (h : WorldOf P all L w0 T W) (h' : WorldOf P all L w0 T' W') (he : ∀ m, Eff P all m → (T m ↔ T' m)) : W = W' := by
  rcases h with ⟨m, x, h1, h2, h3, h4, rfl⟩ | ⟨h1, rfl⟩
  · rcases h' with ⟨m', x', h1', h2', h3', h4', rfl⟩ | ⟨h1', rfl⟩
    · have : m = m' := by
        have a1 := h3 m' ((he m' h2').mpr h1') h2'
        have a2 := h3' m ((he m h2).mp h1) h2
        omega
      subst this
      rw [h4] at h4'
      cases h4'
      rfl
    · exact absurd h2 (h1' m ((he m h2).mp h1))
  · rcases h' with ⟨m', x', h1', h2', h3', h4', rfl⟩ | ⟨h1', rfl⟩
    · exact absurd h2' (h1 m' ((he m' h2').mpr h1'))
    · rfl
theorem WorldOf.quiet {T : Nat → Prop} {W : World} {i : Nat} (h : WorldOf P all L w0 T W) (hi : ¬ Eff P all i) : WorldOf P all L w0 (fun j => T j ∨ j = i) W := by
  rcases h with ⟨m, x, h1, h2, h3, h4, rfl⟩ | ⟨h1, rfl⟩
  · exact .inl ⟨m, x, .inl h1, h2, fun m' hm he => by
      rcases hm with hm | rfl
      · exact h3 m' hm he
      · exact absurd he hi, h4, rfl⟩
  · exact .inr ⟨fun m hm he => by
      rcases hm with hm | rfl
      · exact h1 m hm he
      · exact hi he, rfl⟩
theorem WorldOf.eff {T : Nat → Prop} {i : Nat} {x : Ent} (hi : Eff P all i) (hlt : ∀ m, T m → Eff P all m → m < i) (hx : L[i]? = some x) : WorldOf P all L w0 (fun j => T j ∨ j = i) x.after :=
  .inl ⟨i, x, .inr rfl, hi, fun m hm he => by
    rcases hm with hm | rfl
    · exact Nat.le_of_lt (hlt m hm he)
    · exact Nat.le_refl _, hx, rfl⟩
theorem SlotsAt.put {T : Nat → Prop} {b : Act} {i : Nat} {o : Oper} {x : Ent} {nt : Nat} (h : SlotsAt all L a0 T b) (ho : all[i]? = some o) (hx : L[i]? = some x)
    (hone : ∀ (j : Nat) (q : Oper) (d : Nat), all[j]? = some q → j ≠ i → q.dst = some d → o.dst ≠ some d) (hnt : nt ≤ a0.tmps.size) (hd : ∀ d, o.dst = some d → d < nt) :
    SlotsAt all L a0 (fun j => T j ∨ j = i) (b.put o.dst x.v) := by
  have hk : Kept (dsts [o]) b (b.put o.dst x.v) := Kept.put _ _ _ fun n hn => by simp [dsts, hn]
  have hnot : ∀ t, o.dst ≠ some t → t ∉ dsts [o] := by
    intro t h1 h2
    simp only [dsts, List.filterMap_cons, List.filterMap_nil] at h2
    cases hod : o.dst with
    | none => simp [hod] at h2
    | some z => simp [hod] at h2; subst h2; exact h1 hod
  refine ⟨hk.size.trans h.size, hk.defers.trans h.defers, fun j q y t hj hq hy hqt => ?_, fun t ht => ?_⟩
  · by_cases hji : j = i
    · subst hji
      rw [ho] at hq; cases hq
      rw [hx] at hy; cases hy
      rw [hqt]
      have : t < b.tmps.size := by rw [h.size]; exact Nat.lt_of_lt_of_le (hd t hqt) hnt
      simp [Act.put, this]
    · rw [hk.same t (hnot t (hone j q t hq hji hqt))]
      exact h.done j q y t (hj.resolve_right hji) hq hy hqt
  · rw [hk.same t (hnot t (ht i o (.inr rfl) ho))]
    exact h.old t fun j q hj hq => ht j q (.inl hj) hq

/-- what the check of a region's text gives -/
structure Flat (P : Program) (all : List Oper) : Prop where
  sel : ∀ (j : Nat) (o : Oper) cs b, all[j]? = some o → o.op ≠ .select cs b
  back : ∀ (i : Nat) (o : Oper), all[i]? = some o → ∀ e ∈ o.after.toList, Region.binds .any e = true → e.on < i
  chain : ∀ (i j : Nat), Eff P all i → Eff P all j → i ≠ j → ((ancs all).getD i 0).testBit j = true ∨ ((ancs all).getD j 0).testBit i = true
  one : ∀ (i j : Nat) (o q : Oper) (d : Nat), all[i]? = some o → all[j]? = some q → j ≠ i → q.dst = some d → o.dst ≠ some d
  look : ∀ (i j : Nat) (o q : Oper) (d : Nat), all[i]? = some o → all[j]? = some q → j ≠ i → q.dst = some d → d ∈ looks all o → ((ancs all).getD i 0).testBit j = true ∨ ((ancs all).getD j 0).testBit i = true
theorem flat_of {P : Program} {all : List Oper} (h : flatOk P all = true) : Flat P all := by
  unfold flatOk at h
  simp only [Bool.and_eq_true] at h
  obtain ⟨hs, h⟩ := h
  rw [List.all_eq_true] at h
  have get : ∀ (i : Nat) (o : Oper), all[i]? = some o → (o.after.toList.all fun e => !Region.binds .any e || Nat.blt e.on i) = true ∧ ∀ (j : Nat) (q : Oper), all[j]? = some q →
      ((Nat.beq i j || quietOp P o.op || quietOp P q.op || ((ancs all).getD i 0).testBit j || ((ancs all).getD j 0).testBit i) = true ∧
      (match q.dst with
       | some d => (Nat.beq i j || o.dst != some d) && (!(looks all o).contains d || Nat.beq i j || ((ancs all).getD i 0).testBit j || ((ancs all).getD j 0).testBit i)
       | none => true) = true) := by
    intro i o ho
    have h1 := h (o, i) (by rw [List.mem_zipIdx_iff_getElem?]; exact ho)
    simp only [Bool.and_eq_true] at h1
    refine ⟨h1.1, fun j q hq => ?_⟩
    have h2 := List.all_eq_true.mp h1.2 (q, j) (by rw [List.mem_zipIdx_iff_getElem?]; exact hq)
    simp only [Bool.and_eq_true] at h2
    exact h2
  have nb : ∀ {i j : Nat}, j ≠ i → Nat.beq i j = false := by
    intro i j hij
    cases hb : Nat.beq i j with
    | false => rfl
    | true => exact absurd (Nat.eq_of_beq_eq_true hb).symm hij
  refine ⟨fun j o cs b ho => Region.noSelect_spec hs j o cs b (by simpa using ho), fun i o ho e he hb => ?_, fun i j ⟨o, ho, hoq⟩ ⟨q, hq, hqq⟩ hij => ?_, fun i j o q d ho hq hij hd => ?_, fun i j o q d ho hq hij hd hl => ?_⟩
  · have := List.all_eq_true.mp (get i o ho).1 e he
    simp only [hb, Bool.not_true, Bool.false_or] at this
    exact Nat.blt_eq.mp this
  · have := ((get i o ho).2 j q hq).1
    simpa [nb (Ne.symm hij), hoq, hqq] using this
  · have := ((get i o ho).2 j q hq).2
    simp only [hd, Bool.and_eq_true, nb hij, Bool.false_or, bne_iff_ne, ne_eq] at this
    exact this.1
  · have := ((get i o ho).2 j q hq).2
    simp only [hd, Bool.and_eq_true, nb hij, Bool.false_or] at this
    have h2 := this.2
    have hc : (looks all o).contains d = true := by simpa using hl
    rw [hc] at h2
    simpa only [Bool.not_true, Bool.false_or, Bool.or_eq_true] using h2

end

theorem loose_mem {P : Program} {all : List Oper} {i m : Nat} {o q : Oper} (ho : all[i]? = some o) (hq : all[m]? = some q) (h1 : quietOp P o.op = true) (h2 : pureOp P o.op = false) (h3 : quietOp P q.op = false)
    (h4 : ((ancs all).getD i 0).testBit m = false) (h5 : ((ancs all).getD m 0).testBit i = false) : (i, m) ∈ loose P all := by
  unfold loose
  simp only
  rw [List.mem_flatMap]
  refine ⟨(o, i), by rw [List.mem_zipIdx_iff_getElem?]; exact ho, ?_⟩
  simp only [h1, h2, Bool.not_false, Bool.and_self, if_true]
  rw [List.mem_filterMap]
  refine ⟨(q, m), by rw [List.mem_zipIdx_iff_getElem?]; exact hq, ?_⟩
  have : (quietOp P q.op || ((ancs all).getD i 0).testBit m || ((ancs all).getD m 0).testBit i) = false := by rw [h3, h4, h5]; rfl
  exact if_neg (by rw [this]; decide)
theorem chkAll_mem {log : List LogE} : ∀ {l : List (Nat × Nat)}, chkAll log l → ∀ r m, (r, m) ∈ l → ∃ x y, log[r]? = some x ∧ log[m]? = some y ∧ x.chk y.before ∧ x.chk y.after := by
  intro l
  induction l with
  | nil => intro _ r m h; simp at h
  | cons p rest ih =>
    intro h r m hm
    obtain ⟨h1, h2⟩ := h
    rcases List.mem_cons.mp hm with rfl | hm
    · simp only at h1
      split at h1
      · rename_i x y hx hy; exact ⟨x, y, hx, hy, h1.1, h1.2⟩
      · exact h1.elim
    · exact ih h2 r m hm

section
variable {P : Program} {call : CallF} {all : List Oper} {L : List Ent} {a0 : Act} {w0 : World}
/-- the frame and the world ahead of operation i, in the text's order -/
theorem lex_at (hF : Flat P all) {nt : Nat} (hreg : regionOk nt all = true) (hnt : nt ≤ a0.tmps.size) {a' : Act} {w' : World} (h : LexRun P call all all a0 w0 L a' w') :
    ∀ i, i ≤ all.length → ∃ b v, LexRun P call all (all.drop i) b v (L.drop i) a' w' ∧ SlotsAt all L a0 (fun j => j < i) b ∧ WorldOf P all L w0 (fun j => j < i) v := by
  obtain ⟨hlen, _⟩ := lex_split _ _ _ _ _ _ h
  intro i
  induction i with
  | zero =>
    intro _
    exact ⟨a0, w0, by simpa using h, ⟨rfl, rfl, fun j o x t hj => by omega, fun t _ => rfl⟩, .inr ⟨fun m hm => by omega, rfl⟩⟩
  | succ i ih =>
    intro hi
    obtain ⟨b, v, h1, h2, h3⟩ := ih (by omega)
    have ho : all[i]? = some all[i] := List.getElem?_eq_getElem (by omega)
    have hx : L[i]? = some (L[i]'(by omega)) := List.getElem?_eq_getElem (by omega)
    rw [List.drop_eq_getElem_cons (by omega : i < all.length), List.drop_eq_getElem_cons (by omega : i < L.length)] at h1
    obtain ⟨e1, e2, e3, e4⟩ := h1
    have hT : ∀ j, (j < i ∨ j = i) ↔ j < i + 1 := fun j => by omega
    have hT' : (fun j => j < i ∨ j = i) = (fun j => j < i + 1) := by funext j; exact propext (hT j)
    refine ⟨_, _, e4, ?_, ?_⟩
    · have := h2.put ho hx (fun j q d hq hj hd => hF.one i j _ q d ho hq hj hd) hnt (fun d hd => (regionOk_spec hreg ho).1 d hd)
      rw [hT'] at this
      exact this
    · by_cases he : Eff P all i
      · have := WorldOf.eff (P := P) (all := all) (w0 := w0) (T := fun j => j < i) he (fun m hm _ => hm) hx
        rw [hT'] at this
        exact this
      · have hq : quietOp P all[i].op = true := by
          cases hq : quietOp P all[i].op with
          | true => rfl
          | false => exact absurd ⟨_, ho, hq⟩ he
        have := h3.quiet he
        rw [hT'] at this
        rw [e3.quiet hq, e2]
        exact this

def un (listed : Array Bool) : Nat → Nat
  | 0 => 0
  | n + 1 => un listed n + if listed.getD n true = true then 0 else 1
theorem un_set {listed : Array Bool} {i : Nat} (hi : listed.getD i true = false) : ∀ n, i < n → un (listed.setIfInBounds i true) n + 1 = un listed n := by
  intro n
  induction n with
  | zero => intro h; omega
  | succ n ih =>
    intro h
    simp only [un]
    by_cases hin : i = n
    · subst hin
      have h1 : un (listed.setIfInBounds i true) i = un listed i := by
        have : ∀ k, k ≤ i → un (listed.setIfInBounds i true) k = un listed k := by
          intro k
          induction k with
          | zero => intro _; rfl
          | succ k ihk => intro hk; simp only [un]; rw [ihk (by omega), getD_set_ne true (by omega)]
        exact this i (Nat.le_refl _)
      have h2 : (listed.setIfInBounds i true).getD i true = true := by
        have := getD_set_true (i := i) (j := i) (listed := listed.setIfInBounds i true)
        by_cases hs : i < listed.size <;> simp [hs]
      rw [h1, h2, hi]
      simp
    · rw [getD_set_ne true hin]
      have := ih (by omega)
      omega
theorem un_zero {listed : Array Bool} : ∀ n, un listed n = 0 → ∀ i, i < n → listed.getD i true = true := by
  intro n
  induction n with
  | zero => intro _ i hi; omega
  | succ n ih =>
    intro h i hi
    simp only [un] at h
    split at h
    · rename_i hn
      by_cases hin : i = n
      · subst hin; exact hn
      · exact ih (by omega) i (by omega)
    · omega

theorem exec_wp {P : Program} {call : CallF} (hc : CallOk P call) {Q : Exit → Act → World → Prop} {o : Oper} {a : Act} {w w' : World} {v : Value} (h : Exec3 P call o a w v w') (K : Act → World → Prop) (hK : K (a.put o.dst v) w') : o.wp P a w K Q := by
  unfold Oper.wp
  rcases h with h1 | ⟨h1, rfl⟩ | ⟨f, args, h1, hf⟩
  · rw [h1]; exact hK
  · rw [h1]; exact hK
  · rw [h1]
    exact (hc.calls f args w _ hf).mono fun e w'' ⟨he, hw⟩ => by subst he; subst hw; exact hK

theorem any_order (hc : CallOk P call) (hF : Flat P all) {nt : Nat} (hreg : regionOk nt all = true) (hnt : nt ≤ a0.tmps.size) {a' : Act} {w' : World} (hL : LexRun P call all all a0 w0 L a' w')
    (hchk : ∀ i m, (i, m) ∈ loose P all → ∃ x y, L[i]? = some x ∧ L[m]? = some y ∧ x.chk y.before ∧ x.chk y.after)
    {Q : Exit → Act → World → Prop} (hQ : ∀ b W, SlotsAt all L a0 (fun j => j < all.length) b → WorldOf P all L w0 (fun j => j < all.length) W → Q .normal b W) :
    ∀ (fuel : Nat) (listed : Array Bool) (b : Act) (W : World), listed.size = all.length → un listed all.length = fuel → Closed all (fun j => listed.getD j false = true) →
      SlotsAt all L a0 (fun j => listed.getD j false = true) b → WorldOf P all L w0 (fun j => listed.getD j false = true) W →
      wpAny P .any all.toArray Q fuel listed b W := by
  obtain ⟨hlen, _⟩ := lex_split _ _ _ _ _ _ hL
  have hin : ∀ (listed : Array Bool) j, listed.size = all.length → listed.getD j false = true → j < all.length := by
    intro listed j hs h
    rcases Nat.lt_or_ge j listed.size with h' | h'
    · omega
    · simp [Array.getElem?_eq_none h'] at h
  have hgd : ∀ (listed : Array Bool) j, listed.size = all.length → j < all.length → listed.getD j true = listed.getD j false := by
    intro listed j hs hj
    simp [show j < listed.size by omega]
  -- all are listed, when none is ready
  have hdone : ∀ (listed : Array Bool), listed.size = all.length → Region.ready .any all.toArray listed = [] → ∀ j, j < all.length → listed.getD j false = true := by
    intro listed hs hr j
    induction j using Nat.strongRecOn with
    | _ j ih =>
      intro hj
      cases hl : listed.getD j false with
      | true => rfl
      | false =>
        have ho : all[j]? = some all[j] := List.getElem?_eq_getElem hj
        have : j ∈ Region.ready .any all.toArray listed := mem_ready.mpr ⟨by rw [hgd listed j hs hj]; exact hl, all[j], by simp [hj], fun e he hb => by
          have hlt := hF.back j _ ho e (by simpa using he) hb
          exact ih e.on hlt (by omega)⟩
        rw [hr] at this
        cases this
  have hfin : ∀ (listed : Array Bool) (b : Act) (W : World), listed.size = all.length → (∀ j, j < all.length → listed.getD j false = true) →
      SlotsAt all L a0 (fun j => listed.getD j false = true) b → WorldOf P all L w0 (fun j => listed.getD j false = true) W → Q .normal b W := by
    intro listed b W hs hall h1 h2
    have : (fun j => listed.getD j false = true) = (fun j => j < all.length) := by
      funext j
      exact propext ⟨hin listed j hs, hall j⟩
    rw [this] at h1 h2
    exact hQ b W h1 h2
  intro fuel
  induction fuel with
  | zero =>
    intro listed b W hs hu hcl h1 h2
    have hall : ∀ j, j < all.length → listed.getD j false = true := fun j hj => by rw [← hgd listed j hs hj]; exact un_zero _ hu j hj
    refine ⟨?_, hfin listed b W hs hall h1 h2⟩
    cases hr : Region.ready .any all.toArray listed with
    | nil => rfl
    | cons j r =>
      have hj : j ∈ Region.ready .any all.toArray listed := by rw [hr]; simp
      obtain ⟨h3, o, ho, _⟩ := mem_ready.mp hj
      have hjl : j < all.length := (List.getElem?_eq_some_iff.mp (by simpa using ho)).1
      rw [hgd listed j hs hjl, hall j hjl] at h3
      cases h3
  | succ fuel ih =>
    intro listed b W hs hu hcl h1 h2
    refine ⟨fun hr => hfin listed b W hs (hdone listed hs hr) h1 h2, fun i hi => ?_⟩
    obtain ⟨hun, o, ho', hdep'⟩ := mem_ready.mp hi
    have ho : all[i]? = some o := by simpa using ho'
    have hil : i < all.length := (List.getElem?_eq_some_iff.mp ho).1
    have hdep : Deps all (fun j => listed.getD j false = true) i := fun q hq e he hb => by
      rw [ho] at hq; cases hq
      exact hdep' e (by simpa using he) hb
    have hunF : listed.getD i false = false := by rw [← hgd listed i hs hil]; exact hun
    have hx : L[i]? = some (L[i]'(by omega)) := List.getElem?_eq_getElem (by omega)
    obtain ⟨bi, vi, l1, l2, l3⟩ := lex_at hF hreg hnt hL i (by omega)
    rw [List.drop_eq_getElem_cons hil, List.drop_eq_getElem_cons (by omega : i < L.length)] at l1
    have hoe : all[i] = o := Option.some.inj ((List.getElem?_eq_getElem hil).symm.trans ho)
    rw [hoe] at l1
    obtain ⟨e1, e2, e3, _⟩ := l1
    generalize L[i]'(by omega) = x at hx e1 e2 e3
    subst e1 e2
    have ancIn := anc_in hF.back hcl
    have ancLt : ∀ k j, k < all.length → ((ancs all).getD k 0).testBit j = true → j < k := fun k j hk hb =>
      (anc_in hF.back (S := fun _ => True) (fun _ _ _ _ _ _ _ => trivial) k hk (fun _ _ _ _ _ => trivial) j hb).2
    have notAnc : ∀ m, listed.getD m false = true → ((ancs all).getD m 0).testBit i = false := by
      intro m hm
      cases hb : ((ancs all).getD m 0).testBit i with
      | false => rfl
      | true =>
        have hml := hin listed m hs hm
        have := (ancIn m hml (fun q hq e he hb => hcl m q hm hq e he hb) i hb).1
        rw [hunF] at this
        cases this
    have iAnc : ∀ m, ((ancs all).getD i 0).testBit m = true → listed.getD m false = true := fun m hm => (ancIn i hil hdep m hm).1
    -- the slots that it looks at are as in the text's order
    have same : ∀ t ∈ looks all o, b.tmps[t]? = x.act.tmps[t]? := by
      intro t ht
      by_cases hw : ∃ (j : Nat) (q : Oper), all[j]? = some q ∧ q.dst = some t
      · obtain ⟨j, q, hq, hqt⟩ := hw
        have hjl : j < all.length := (List.getElem?_eq_some_iff.mp hq).1
        have sole : ∀ (k : Nat) (z : Oper), all[k]? = some z → k ≠ j → z.dst ≠ some t := fun k z hz hk => hF.one k j z q t hz hq (Ne.symm hk) hqt
        have none_of : ∀ (T : Nat → Prop) (c : Act), SlotsAt all L a0 T c → ¬ T j → c.tmps[t]? = a0.tmps[t]? := fun T c hc hj => hc.old t fun k z hk hz => by
          by_cases hkj : k = j
          · subst hkj; exact absurd hk hj
          · exact sole k z hz hkj
        have some_of : ∀ (T : Nat → Prop) (c : Act), SlotsAt all L a0 T c → T j → c.tmps[t]? = some (L[j]'(by omega)).v := fun T c hc hj =>
          hc.done j q _ t hj hq (List.getElem?_eq_getElem (by omega)) hqt
        by_cases hji : j = i
        · subst hji
          rw [none_of _ _ h1 (by simp [hunF]), none_of _ _ l2 (by omega)]
        · rcases hF.look i j o q t ho hq hji hqt ht with ha | ha
          · rw [some_of _ _ h1 (iAnc j ha), some_of _ _ l2 (ancLt i j hil ha)]
          · have hij := ancLt j i hjl ha
            rw [none_of _ _ h1 (fun hj => by rw [notAnc j hj] at ha; cases ha), none_of _ _ l2 (by omega)]
      · have no : ∀ (T : Nat → Prop) (c : Act), SlotsAt all L a0 T c → c.tmps[t]? = a0.tmps[t]? := fun T c hc => hc.old t fun k z _ hz hzt => hw ⟨k, z, hz, hzt⟩
        rw [no _ _ h1, no _ _ l2]
    have hex : execOp b.eval o = execOp x.act.eval o := by
      refine execOp_congr o (fun cs bb => hF.sel i o cs bb ho) fun y hy => ?_
      cases y with
      | tmp t =>
        have : t ∈ looks all o := List.mem_append_left _ (List.mem_filterMap.mpr ⟨.tmp t, by simpa using hy, rfl⟩)
        simp only [Act.eval, Array.getD_eq_getD_getElem?, same t this]
      | _ => rfl
    have hwant : Region.wanted o (yielded all.toArray b.tmps) = x.g := by
      rw [← e3.want]
      unfold Region.wanted
      cases hg : o.guard with
      | none => rfl
      | some jw =>
        obtain ⟨j, want⟩ := jw
        obtain ⟨_, d, hd⟩ := (regionOk_spec hreg ho).2 j want hg
        simp only [yielded_of hd]
        have : d ∈ looks all o := List.mem_append_right _ (by simp [hg, hd.1])
        rw [same d this]
    have conv : ∀ {W v W'}, Exec3 P call o x.act W v W' → Exec3 P call o b W v W' := by
      intro W v W' h
      unfold Exec3 at *
      rw [hex]
      exact h
    have hT : (fun j => (listed.setIfInBounds i true).getD j false = true) = (fun j => listed.getD j false = true ∨ j = i) := by
      funext j
      refine propext ⟨fun h => ?_, fun h => ?_⟩
      · by_cases hji : j = i
        · exact .inr hji
        · rw [getD_set_ne false (Ne.symm hji)] at h; exact .inl h
      · rcases h with h | rfl
        · exact getD_set_true h
        · simp [show j < listed.size by omega]
    have hcl' : Closed all (fun j => (listed.setIfInBounds i true).getD j false = true) := by
      rw [hT]
      intro k q hk hq e he hb
      rcases hk with hk | rfl
      · exact .inl (hcl k q hk hq e he hb)
      · exact .inl (hdep q hq e he hb)
    have hslots : SlotsAt all L a0 (fun j => (listed.setIfInBounds i true).getD j false = true) (b.put o.dst x.v) := by
      rw [hT]
      exact h1.put ho hx (fun j q d hq hj hd => hF.one i j o q d ho hq hj hd) hnt (regionOk_spec hreg ho).1
    have next : ∀ W', WorldOf P all L w0 (fun j => listed.getD j false = true ∨ j = i) W' → wpAny P .any all.toArray Q fuel (listed.setIfInBounds i true) (b.put o.dst x.v) W' := by
      intro W' hW'
      refine ih _ _ _ (by simpa using hs) ?_ hcl' hslots (by rw [hT]; exact hW')
      have := un_set hun all.length hil
      omega
    unfold wpOp
    simp only [ho', hwant]
    by_cases he : Eff P all i
    · -- it may change the world: all such ahead of it are done, none behind it
      have hW : W = x.before := by
        refine h2.same l3 fun m hm => ⟨fun h => ?_, fun h => ?_⟩
        · have hmi : m ≠ i := fun h' => by subst h'; rw [hunF] at h; cases h
          rcases hF.chain m i hm he hmi with ha | ha
          · rw [notAnc m h] at ha; cases ha
          · exact ancLt i m hil ha
        · have hmi : m ≠ i := by omega
          have hm' := hm
          obtain ⟨q, hq, _⟩ := hm
          have hml : m < all.length := (List.getElem?_eq_some_iff.mp hq).1
          rcases hF.chain m i hm' he hmi with ha | ha
          · have := ancLt m i hml ha; omega
          · exact iAnc m ha
      subst hW
      have hlt : ∀ m, listed.getD m false = true → Eff P all m → m < i := by
        intro m h hm
        have hmi : m ≠ i := fun h' => by subst h'; rw [hunF] at h; cases h
        rcases hF.chain m i hm he hmi with ha | ha
        · rw [notAnc m h] at ha; cases ha
        · exact ancLt i m hil ha
      have hnext := next x.after (WorldOf.eff he hlt hx)
      cases hg : x.g with
      | true => simp only [if_true]; exact .inl (exec_wp hc (conv (e3.exec hg)) _ hnext)
      | false =>
        simp only [Bool.false_eq_true, if_false]
        obtain ⟨g1, g2⟩ := e3.none hg
        rw [g1, g2] at hnext
        exact hnext
    · have hq : quietOp P o.op = true := by
        cases hq : quietOp P o.op with
        | true => rfl
        | false => exact absurd ⟨o, ho, hq⟩ he
      have hnext := next W (h2.quiet he)
      cases hg : x.g with
      | false =>
        simp only [Bool.false_eq_true, if_false]
        obtain ⟨g1, _⟩ := e3.none hg
        rw [g1] at hnext
        exact hnext
      | true =>
        simp only [if_true]
        refine .inl (exec_wp hc (conv ?_) _ hnext)
        cases hp : pureOp P o.op with
        | true => exact e3.pure hg hp W
        | false =>
          -- it reads
          have ck : ∀ m, Eff P all m → ((ancs all).getD i 0).testBit m = false → ((ancs all).getD m 0).testBit i = false → ∃ y, L[m]? = some y ∧ x.chk y.before ∧ x.chk y.after := by
            intro m ⟨q, hq1, hq2⟩ b1 b2
            obtain ⟨x', y, c1, c2, c3, c4⟩ := hchk i m (loose_mem ho hq1 hq hp hq2 b1 b2)
            rw [hx] at c1; cases c1
            exact ⟨y, c2, c3, c4⟩
          by_cases hbig : ∃ m, listed.getD m false = true ∧ Eff P all m ∧ i < m
          · -- one behind it is done already: the world is what the last of them left
            obtain ⟨m, m1, m2, m3⟩ := hbig
            rcases h2 with ⟨M, y, y1, y2, y3, y4, rfl⟩ | ⟨y1, _⟩
            · have hMi : i < M := Nat.lt_of_lt_of_le m3 (y3 m m1 m2)
              have hMl := hin listed M hs y1
              obtain ⟨y', c1, _, c3⟩ := ck M y2 (by
                cases hb : ((ancs all).getD i 0).testBit M with
                | false => rfl
                | true => have := ancLt i M hil hb; omega) (notAnc M y1)
              rw [y4] at c1; cases c1
              exact e3.chk hg hq _ c3
            · exact absurd m2 (y1 m m1)
          · have hsmall : ∀ m, listed.getD m false = true → Eff P all m → m < i := by
              intro m h hm
              rcases Nat.lt_trichotomy m i with h' | h' | h'
              · exact h'
              · subst h'; rw [hunF] at h; cases h
              · exact absurd ⟨m, h, hm, h'⟩ hbig
            by_cases hall : ∀ m, m < i → Eff P all m → listed.getD m false = true
            · have hW : W = x.before := h2.same l3 fun m hm => ⟨fun h => hsmall m h hm, fun h => hall m h hm⟩
              subst hW
              have := e3.exec hg
              rw [e3.quiet hq] at this
              exact this
            · -- one ahead of it is not done yet: the least of them has still the world of now ahead of it
              have hex2 : ∃ m, m < i ∧ Eff P all m ∧ listed.getD m false = false := by
                refine Classical.byContradiction fun hn => hall fun m hm he => ?_
                cases hl : listed.getD m false with
                | true => rfl
                | false => exact absurd ⟨m, hm, he, hl⟩ hn
              have least : ∃ m, (m < i ∧ Eff P all m ∧ listed.getD m false = false) ∧ ∀ k, k < m → ¬ (k < i ∧ Eff P all k ∧ listed.getD k false = false) := by
                obtain ⟨m, hm⟩ := hex2
                induction m using Nat.strongRecOn with
                | _ m ihm =>
                  by_cases hk : ∃ k, k < m ∧ (k < i ∧ Eff P all k ∧ listed.getD k false = false)
                  · obtain ⟨k, k1, k2⟩ := hk
                    exact ihm k k1 k2
                  · exact ⟨m, hm, fun k k1 k2 => hk ⟨k, k1, k2⟩⟩
              obtain ⟨m, ⟨m1, m2, m3⟩, m4⟩ := least
              have hml : m < all.length := by omega
              obtain ⟨y, c1, c2, _⟩ := ck m m2 (by
                cases hb : ((ancs all).getD i 0).testBit m with
                | false => rfl
                | true => have := iAnc m hb; rw [m3] at this; cases this) (by
                cases hb : ((ancs all).getD m 0).testBit i with
                | false => rfl
                | true => have := ancLt m i hml hb; omega)
              obtain ⟨bm, vm, n1, _, n3⟩ := lex_at hF hreg hnt hL m (by omega)
              rw [List.drop_eq_getElem_cons hml, List.drop_eq_getElem_cons (by omega : m < L.length)] at n1
              obtain ⟨_, n2, _, _⟩ := n1
              have hym : L[m]'(by omega) = y := Option.some.inj ((List.getElem?_eq_getElem (by omega)).symm.trans c1)
              rw [hym] at n2
              have hW : W = y.before := by
                rw [n2]
                refine h2.same n3 fun k hk => ⟨fun h => ?_, fun h => ?_⟩
                · have hkm : k ≠ m := fun h' => by subst h'; rw [m3] at h; cases h
                  rcases hF.chain k m hk m2 hkm with ha | ha
                  · have hkl := hin listed k hs h
                    have := (ancIn k hkl (fun q hq e he hb => hcl k q h hq e he hb) m ha).1
                    rw [m3] at this
                    cases this
                  · exact ancLt m k hml ha
                · cases hl : listed.getD k false with
                  | true => rfl
                  | false => exact absurd ⟨by omega, hk, hl⟩ (m4 k h)
              rw [hW]
              exact e3.chk hg hq _ c2

theorem last_same (hF : Flat P all) {nt : Nat} (hreg : regionOk nt all = true) (hnt : nt ≤ a0.tmps.size) {a' : Act} {w' : World} (hL : LexRun P call all all a0 w0 L a' w') {b : Act} {W : World}
    (h1 : SlotsAt all L a0 (fun j => j < all.length) b) (h2 : WorldOf P all L w0 (fun j => j < all.length) W) : W = w' ∧ (∀ t : Nat, b.tmps[t]? = a'.tmps[t]?) ∧ Kept (dsts all) a0 b := by
  obtain ⟨hlen, _⟩ := lex_split _ _ _ _ _ _ hL
  obtain ⟨c, v, l1, l2, l3⟩ := lex_at hF hreg hnt hL all.length (Nat.le_refl _)
  rw [List.drop_eq_nil_of_le (Nat.le_refl _), List.drop_eq_nil_of_le (by omega)] at l1
  obtain ⟨rfl, rfl⟩ := l1
  refine ⟨h2.same l3 fun _ _ => Iff.rfl, fun t => ?_, h1.size, h1.defers, fun t ht => h1.old t fun i o _ ho hd => ht (List.mem_filterMap.mpr ⟨o, List.mem_of_getElem? ho, hd⟩)⟩
  by_cases hw : ∃ (j : Nat) (q : Oper), all[j]? = some q ∧ q.dst = some t
  · obtain ⟨j, q, hq, hqt⟩ := hw
    have hjl : j < all.length := (List.getElem?_eq_some_iff.mp hq).1
    have hx : L[j]? = some (L[j]'(by omega)) := List.getElem?_eq_getElem (by omega)
    rw [h1.done j q _ t hjl hq hx hqt, l2.done j q _ t hjl hq hx hqt]
  · rw [h1.old t fun k z _ hz hzt => hw ⟨k, z, hz, hzt⟩, l2.old t fun k z _ hz hzt => hw ⟨k, z, hz, hzt⟩]
end
end Go.Sh
