/- The layer 'Sh': closed runs: the operations, on abstract values. Conditions: those of each statement. -/
import Derived.Test.YtkghbcadnbojgaaGreatDoorShEv1
import Derived.Test.YtkghbcadnbojgaaGreatDoorShStr
namespace Go.Sh.Ev
open Go Go.RowKit
set_option linter.unusedVariables false
set_option linter.unusedSimpArgs false

abbrev AEnv := Nat → Option AV
def EnvR (ρ : Rho) (e : AEnv) (eR : Env) : Prop := ∀ t a, e t = some a → ∃ V, g ρ a = some V ∧ eR t = some V
theorem EnvR.mono {ρ ρ' : Rho} (h : RhoLe ρ ρ') {e : AEnv} {eR : Env} (r : EnvR ρ e eR) : EnvR ρ' e eR := fun t a ha => by
  obtain ⟨V, h1, h2⟩ := r t a ha
  exact ⟨V, g_mono h a V h1, h2⟩
noncomputable def aev (e : AEnv) : Operand → Option AV
  | .tmp t => e t
  | .const v => some (.v v)
  | .global g => some (.v (.pointer (some ⟨g, 0, none⟩)))
  | .func f => some (.v (.func (.func f) #[] #[]))
noncomputable def aevs (e : AEnv) : List Operand → Option (List AV)
  | [] => some []
  | x :: r => (aev e x).ob fun a => (aevs e r).ob fun l => some (a :: l)
theorem aev_ok {ρ : Rho} {e : AEnv} {eR : Env} (h : EnvR ρ e eR) {x : Operand} {a : AV} (ha : aev e x = some a) : ∃ V, g ρ a = some V ∧ ev eR x = some V := by
  cases x with
  | tmp t => exact h t a ha
  | const v => simp only [aev, Option.some.injEq] at ha; subst ha; exact ⟨v, rfl, rfl⟩
  | global b => simp only [aev, Option.some.injEq] at ha; subst ha; exact ⟨_, rfl, rfl⟩
  | func f => simp only [aev, Option.some.injEq] at ha; subst ha; exact ⟨_, rfl, rfl⟩
theorem aevs_ok {ρ : Rho} {e : AEnv} {eR : Env} (h : EnvR ρ e eR) : ∀ {l : List Operand} {as : List AV}, aevs e l = some as → ∃ vs, gs ρ as = some vs ∧ evs eR l = some vs
  | [], as, ha => by simp only [aevs, Option.some.injEq] at ha; subst ha; exact ⟨[], rfl, rfl⟩
  | x :: r, as, ha => by
    simp only [aevs, Option.ob_eq, Option.bind_eq_some_iff, Option.some.injEq] at ha
    obtain ⟨a, h1, l, h2, rfl⟩ := ha
    obtain ⟨V, h3, h4⟩ := aev_ok h h1
    obtain ⟨vs, h5, h6⟩ := aevs_ok h h2
    exact ⟨V :: vs, gs_cons.mpr ⟨V, vs, h3, h5, rfl⟩, by simp [evs, h4, h6]⟩

section
variable (P : Program)
/-! ### values that are reckoned -/
noncomputable def eqSpec (t : TypeId) (a b : AV) : Option Bool := match P.underlying t with
  | some (.pointer _) => match a, b with
    | .ptr _ _, .v (.pointer none) => some false
    | .v (.pointer none), .ptr _ _ => some false
    | _, _ => none
  | some (.slice _) => match a, b with
    | .sl _ _ _ _, .v (.slice none _ _) => some false
    | .v (.slice none _ _), .sl _ _ _ _ => some false
    | _, _ => none
  | some (.interface _) => match a, b with
    | .ifc _ _, .v .nilIface => some false
    | .v .nilIface, .ifc _ _ => some false
    | .ifc t _, .v (.iface u _) => bif Nat.beq t u then none else some false
    | .v (.iface u _), .ifc t _ => bif Nat.beq t u then none else some false
    | _, _ => none
  | _ => none
/-- whole numbers of 64 bits that stay small, fast for the kernel -/
noncomputable def fastBin (op : BinOp) (a b : Nat) : Option Value := match op with
  | .add => bif Nat.ble (Nat.add a b) 9223372036854775807 then some (.int .i64 (.ofNat (Nat.add a b))) else none
  | .sub => bif Nat.ble b a && Nat.ble a 9223372036854775807 then some (.int .i64 (.ofNat (Nat.sub a b))) else none
  | .mul => bif Nat.ble (Nat.mul a b) 9223372036854775807 then some (.int .i64 (.ofNat (Nat.mul a b))) else none
  | .eql => some (.bool (Nat.beq a b))
  | .neq => some (.bool (Bool.not (Nat.beq a b)))
  | .lss => some (.bool (Nat.ble (Nat.succ a) b))
  | .leq => some (.bool (Nat.ble a b))
  | .gtr => some (.bool (Nat.ble (Nat.succ b) a))
  | .geq => some (.bool (Nat.ble b a))
  | _ => none
def isI64 : IntKind → Bool
  | .i64 => true
  | _ => false
noncomputable def fastCmp (op : BinOp) (a b : Nat) : Option Value := match op with
  | .eql => some (.bool (Nat.beq a b))
  | .neq => some (.bool (Bool.not (Nat.beq a b)))
  | .lss => some (.bool (Nat.ble (Nat.succ a) b))
  | .leq => some (.bool (Nat.ble a b))
  | .gtr => some (.bool (Nat.ble (Nat.succ b) a))
  | .geq => some (.bool (Nat.ble b a))
  | _ => none
def sameK : IntKind → IntKind → Bool
  | .i8, .i8 | .i16, .i16 | .i32, .i32 | .i64, .i64 | .u8, .u8 | .u16, .u16 | .u32, .u32 | .u64, .u64 => true
  | _, _ => false
/-- the kernel's way to 'bin' -/
noncomputable def kBin (op : BinOp) (p q : Value) : Option Value := match p, q with
  | .int k (.ofNat a), .int k' (.ofNat b) => bif sameK k k' then (match (bif isI64 k then fastBin op a b else fastCmp op a b) with | some v => some v | none => bin op p q) else none
  | _, _ => bin op p q
theorem sameK_ok {k k' : IntKind} (h : sameK k k' = true) : k = k' := by cases k <;> cases k' <;> first | rfl | cases h
theorem fastCmp_ok {op : BinOp} {k : IntKind} {a b : Nat} {v : Value} (h : fastCmp op a b = some v) : bin op (.int k (.ofNat a)) (.int k (.ofNat b)) = some v := by
  unfold fastCmp at h
  cases op <;> simp only [Option.some.injEq] at h <;> try (cases h; done)
  all_goals subst h
  · rw [bin_eql]; congr 2
    by_cases e : a = b
    · subst e; simp
    · have h1 : Nat.beq a b = false := Bool.eq_false_iff.mpr fun h => e (Nat.eq_of_beq_eq_true h)
      have h2 : ¬ (Int.ofNat a = Int.ofNat b) := fun h => e (Int.ofNat.inj h)
      simp [h1]; omega
  · rw [bin_neq]; congr 2
    by_cases e : a = b
    · subst e; simp
    · have h1 : Nat.beq a b = false := Bool.eq_false_iff.mpr fun h => e (Nat.eq_of_beq_eq_true h)
      simp [h1, bne]; omega
  · rw [bin_lss]; congr 2
    by_cases e : a < b
    · have h1 : Nat.ble (Nat.succ a) b = true := Nat.ble_eq.mpr e
      rw [h1]; simp; omega
    · have h1 : Nat.ble (Nat.succ a) b = false := Bool.eq_false_iff.mpr fun h => e (Nat.le_of_ble_eq_true h)
      rw [h1]; simp; omega
  · rw [bin_leq]; congr 2
    by_cases e : a ≤ b
    · have h1 : Nat.ble a b = true := Nat.ble_eq.mpr e
      rw [h1]; simp; omega
    · have h1 : Nat.ble a b = false := Bool.eq_false_iff.mpr fun h => e (Nat.le_of_ble_eq_true h)
      rw [h1]; simp; omega
  · rw [bin_gtr]; congr 2
    by_cases e : b < a
    · have h1 : Nat.ble (Nat.succ b) a = true := Nat.ble_eq.mpr e
      rw [h1]; simp; omega
    · have h1 : Nat.ble (Nat.succ b) a = false := Bool.eq_false_iff.mpr fun h => e (Nat.le_of_ble_eq_true h)
      rw [h1]; simp; omega
  · rw [bin_geq]; congr 2
    by_cases e : b ≤ a
    · have h1 : Nat.ble b a = true := Nat.ble_eq.mpr e
      rw [h1]; simp; omega
    · have h1 : Nat.ble b a = false := Bool.eq_false_iff.mpr fun h => e (Nat.le_of_ble_eq_true h)
      rw [h1]; simp; omega
theorem fastBin_ok {op : BinOp} {a b : Nat} {v : Value} (h : fastBin op a b = some v) : bin op (.int .i64 (.ofNat a)) (.int .i64 (.ofNat b)) = some v := by
  by_cases hc : fastCmp op a b = some v
  · exact fastCmp_ok hc
  · unfold fastBin at h
    unfold fastCmp at hc
    cases op <;> simp only at h hc <;> try (exact absurd h hc)
    all_goals try (cases h; done)
    · cases hb : Nat.ble (Nat.add a b) 9223372036854775807 with
      | false => rw [hb] at h; cases h
      | true =>
        rw [hb] at h
        cases h
        have hle : a + b ≤ 9223372036854775807 := Nat.le_of_ble_eq_true hb
        rw [bin_add, wrap_i64 (by simp; omega) (by simp; omega)]
        rfl
    · cases hb : (Nat.ble b a && Nat.ble a 9223372036854775807) with
      | false => rw [hb] at h; cases h
      | true =>
        rw [hb] at h
        cases h
        simp only [Bool.and_eq_true, Nat.ble_eq] at hb
        rw [bin_sub, wrap_i64 (by simp; omega) (by simp; omega)]
        congr 2
        show (a : Int) - (b : Int) = ((a - b : Nat) : Int)
        omega
    · cases hb : Nat.ble (Nat.mul a b) 9223372036854775807 with
      | false => rw [hb] at h; cases h
      | true =>
        rw [hb] at h
        cases h
        have hle : a * b ≤ 9223372036854775807 := Nat.le_of_ble_eq_true hb
        have e : Int.ofNat a * Int.ofNat b = ((a * b : Nat) : Int) := (Int.natCast_mul a b).symm
        rw [bin_mul, e, wrap_i64 (by omega) (by omega)]
        rfl
theorem kBin_ok {op : BinOp} {p q r : Value} (h : kBin op p q = some r) : bin op p q = some r := by
  unfold kBin at h
  split at h
  · rename_i k a k' b
    cases hk : sameK k k' with
    | false => rw [hk] at h; cases h
    | true =>
      rw [hk] at h
      simp only [cond_true] at h
      have := sameK_ok hk
      subst this
      split at h
      · rename_i v hv
        cases h
        cases hi : isI64 k with
        | true =>
          rw [hi] at hv
          cases k <;> first | exact fastBin_ok hv | cases hi
        | false =>
          rw [hi] at hv
          exact fastCmp_ok hv
      · exact h
  · exact h
noncomputable def bBin (op : BinOp) (t : TypeId) (x y : Operand) (a b : AV) : Option AV :=
  match a, b with
  | .v p, .v q => (bif isIntT P t && arith op then kBin op p q else prun P (do eqGuard op t x y p q; binOp op t p q)).ob fun r => some (.v r)
  | _, _ => match op with
    | .eql => (eqSpec P t a b).ob fun r => some (.v (.bool r))
    | .neq => (eqSpec P t a b).ob fun r => some (.v (.bool (!r)))
    | _ => none
noncomputable def bFieldAddr (s : TypeId) (a : AV) (f : Nat) : Option AV := match a with
  | .v p => (prun P (Instr.fieldAt s p f)).ob fun r => some (.v r)
  | .ptr k o => match P.underlying s with
    | some (.struct fs) => (fs[f]?).ob fun fd => (P.info? fd.type).ob fun i => bif Nat.beq i.size 0 then none else some (.ptr k (o + fd.offset))
    | _ => none
  | _ => none
/-- the part of so many cells -/
noncomputable def bPart (t : TypeId) (l : List AV) (off : Nat) : Option AV := (P.info? t).ob fun i => (P.underlying t).ob fun _ =>
  bif isAggB P t then some (mkAgg ((l.drop off).take i.size)) else l[off]?
noncomputable def bField (t : TypeId) (a : AV) (f : Nat) : Option AV := match a with
  | .v p => (prun P (Instr.field t p f)).ob fun r => some (.v r)
  | .agg l => match P.underlying t with
    | some (.struct fs) => (fs[f]?).ob fun fd => bPart P fd.type l fd.offset
    | _ => none
  | _ => none
noncomputable def bIndexAddr (t : TypeId) (a i : AV) : Option AV := match a, i with
  | .v p, .v i => (prun P (Instr.indexAt t p i)).ob fun r => some (.v r)
  | .sl k o n _, .v (.int _ j) => match P.underlying t with
    | some (.slice e) => (P.info? e).ob fun i => bif Nat.blt j.toNat n then (match j with | .ofNat j => some (.ptr k (o + j * i.size)) | _ => none) else none
    | _ => none
  | .ptr k o, .v (.int _ j) => match P.underlying t with
    | some (.array n e) => (P.info? e).ob fun i => bif Nat.blt j.toNat n then (match j with | .ofNat j => some (.ptr k (o + j * i.size)) | _ => none) else none
    | _ => none
  | _, _ => none
noncomputable def bNil (a : AV) : Option AV := match a with
  | .ptr k o => some (.ptr k o)
  | .v p => (nilV P p).ob fun r => some (.v r)
  | _ => none
noncomputable def bExtract (a : AV) (i : Nat) : Option AV := match a with
  | .v p => (prun P (Instr.extract p i)).ob fun r => some (.v r)
  | .tup l => l[i]?
  | _ => none
noncomputable def fillL (place : Nat → Option (Nat × Nat)) : List AV → List (Nat × AV) → Option (List AV)
  | cells, [] => some cells
  | cells, (i, a) :: rest => match place i with
    | some (off, size) => bif Nat.beq (cellsOfAV a).length size && Nat.ble (off + size) cells.length then fillL place (cells.take off ++ cellsOfAV a ++ cells.drop (off + size)) rest else none
    | none => none
noncomputable def bBuild (t : TypeId) (ns : List Nat) (as : List AV) : Option AV := match pl as with
  | some vs => (prun P (Instr.build t (ns.zip vs).toArray)).ob fun r => some (.v r)
  | none => (P.info? t).ob fun i => i.zero.ob fun z => match P.underlying t with
    | some (.struct fields) => (prun P (fields.mapM fun f => do pure (f.offset, ← sizeOf f.type))).ob fun places => (fillL (places[·]?) (z.cells.toList.map .v) (ns.zip as)).ob fun r => some (mkAgg r)
    | _ => none
noncomputable def bMakeIface (t : TypeId) (a : AV) : Option AV := match a with
  | .v p => (prun P (Instr.makeInterface t p)).ob fun r => some (.v r)
  | a => match P.underlying t with
    | some (.interface _) => none
    | some _ => some (.ifc t a)
    | none => none
noncomputable def bMakeFunc (fn : Fn) (first cap : List AV) : Option AV := match pl first, pl cap with
  | some a, some b => some (.v (.func fn a.toArray b.toArray))
  | _, _ => match fn with
    | .func f => some (.fn f first cap)
    | _ => none
noncomputable def bAssert (a : AV) (xt u : TypeId) (ok : Bool) : Option AV := match a with
  | .v p => (prun P (Instr.typeAssert p xt u ok)).ob fun r => some (.v r)
  | .ifc t x => match P.underlying u with
    | some (.interface want) => (P.info? t).ob fun i => match Instr.missingMethod want i.methods with
      | none => some (bif ok then mkTup [.ifc t x, .v (.bool true)] else .ifc t x)
      | some _ => bif ok then (P.info? u).ob fun i => i.zero.ob fun z => some (.v (.tuple #[z, .bool false])) else none
    | some _ => bif Nat.beq t u then some (bif ok then mkTup [x, .v (.bool true)] else x) else bif ok then (P.info? u).ob fun i => i.zero.ob fun z => some (.v (.tuple #[z, .bool false])) else none
    | none => none
  | _ => none

/-! ### what holds of them -/
variable {P}
theorem bin_plain {op : BinOp} {t : TypeId} {x y : Operand} {p q r : Value} (h : (if (isIntT P t && arith op) = true then bin op p q else prun P (do eqGuard op t x y p q; binOp op t p q)) = some r) (w : World) {σ : Type} (next : Value → World → Option σ) :
    (if (isIntT P t && arith op) = true then (bin op p q).bind fun v => next v w
      else if scalarT P t = true then (prun P (do eqGuard op t x y p q; binOp op t p q)).bind fun v => next v w
      else (rrun P (do eqGuard op t x y p q; binOp op t p q) w).bind fun v => next v w) = next r w := by
  split at h
  · rename_i h1; rw [if_pos h1, h]; rfl
  · rename_i h1
    rw [if_neg h1]
    split
    · rw [h]; rfl
    · rw [rrun_of_prun h w]; rfl
theorem eq_fin {op : BinOp} {t : TypeId} {x y : Operand} {A B r : Value} {w : World} (h1 : isIntT P t = false) (h2 : scalarT P t = false) (h3 : rrun P (do eqGuard op t x y A B; binOp op t A B) w = some r) {σ : Type} (next : Value → World → Option σ) :
    (if (isIntT P t && arith op) = true then (bin op A B).bind fun v => next v w
      else if scalarT P t = true then (prun P (do eqGuard op t x y A B; binOp op t A B)).bind fun v => next v w
      else (rrun P (do eqGuard op t x y A B; binOp op t A B) w).bind fun v => next v w) = next r w := by
  rw [if_neg (by simp [h1]), if_neg (by simp [h2]), h3]
  rfl
section
variable {w : World} {t : TypeId} (d : Nat)
theorem eqi_pn {e : TypeId} (hu : P.underlying t = some (.pointer e)) (a : Addr) : rrun P (Op.equalIn (d + 1) t (.pointer (some a)) (.pointer none)) w = some false := by simp [Op.equalIn, rrun_bind, rrun_of_prun (prun_underlying hu)]
theorem eqi_np {e : TypeId} (hu : P.underlying t = some (.pointer e)) (a : Addr) : rrun P (Op.equalIn (d + 1) t (.pointer none) (.pointer (some a))) w = some false := by simp [Op.equalIn, rrun_bind, rrun_of_prun (prun_underlying hu)]
theorem eqi_sn {e : TypeId} (hu : P.underlying t = some (.slice e)) (a : Addr) (n c n' c' : Nat) : rrun P (Op.equalIn (d + 1) t (.slice (some a) n c) (.slice none n' c')) w = some false := by simp [Op.equalIn, rrun_bind, rrun_of_prun (prun_underlying hu)]
theorem eqi_ns {e : TypeId} (hu : P.underlying t = some (.slice e)) (a : Addr) (n c n' c' : Nat) : rrun P (Op.equalIn (d + 1) t (.slice none n' c') (.slice (some a) n c)) w = some false := by simp [Op.equalIn, rrun_bind, rrun_of_prun (prun_underlying hu)]
theorem eqi_in {ms : Array (String × TypeId)} (hu : P.underlying t = some (.interface ms)) (u : TypeId) (v : Value) : rrun P (Op.equalIn (d + 1) t (.iface u v) .nilIface) w = some false := by simp [Op.equalIn, rrun_bind, rrun_of_prun (prun_underlying hu)]
theorem eqi_ni {ms : Array (String × TypeId)} (hu : P.underlying t = some (.interface ms)) (u : TypeId) (v : Value) : rrun P (Op.equalIn (d + 1) t .nilIface (.iface u v)) w = some false := by simp [Op.equalIn, rrun_bind, rrun_of_prun (prun_underlying hu)]
theorem eqi_ii {ms : Array (String × TypeId)} (hu : P.underlying t = some (.interface ms)) (u u' : TypeId) (v v' : Value) (hne : u ≠ u') : rrun P (Op.equalIn (d + 1) t (.iface u v) (.iface u' v')) w = some false := by simp [Op.equalIn, rrun_bind, rrun_of_prun (prun_underlying hu), hne]
end
theorem eq_run {t : TypeId} {x y : Operand} {A B : Value} {w : World} {r : Bool} (i1 : isIntT P t = false) (i2 : scalarT P t = false) (hE : rrun P (Op.equalIn (9999 + 1) t A B) w = some r)
    (g1 : eqGuard .eql t x y A B = pure ()) (g2 : eqGuard .neq t x y A B = pure ()) (b1 : binOp .eql t A B = (do pure (.bool (← Op.equal t A B)))) (b2 : binOp .neq t A B = (do pure (.bool (!(← Op.equal t A B))))) {σ : Type} (next : Value → World → Option σ) :
    ((if (isIntT P t && arith .eql) = true then (bin .eql A B).bind fun v => next v w
      else if scalarT P t = true then (prun P (do eqGuard .eql t x y A B; binOp .eql t A B)).bind fun v => next v w
      else (rrun P (do eqGuard .eql t x y A B; binOp .eql t A B) w).bind fun v => next v w) = next (.bool r) w) ∧
    ((if (isIntT P t && arith .neq) = true then (bin .neq A B).bind fun v => next v w
      else if scalarT P t = true then (prun P (do eqGuard .neq t x y A B; binOp .neq t A B)).bind fun v => next v w
      else (rrun P (do eqGuard .neq t x y A B; binOp .neq t A B) w).bind fun v => next v w) = next (.bool (!r)) w) := by
  have hE' : rrun P (Op.equal t A B) w = some r := hE
  refine ⟨eq_fin i1 i2 ?_ next, eq_fin i1 i2 ?_ next⟩
  · rw [g1, b1, rrun_bind, rrun_pure, Option.bind_some, rrun_bind, hE']; rfl
  · rw [g2, b2, rrun_bind, rrun_pure, Option.bind_some, rrun_bind, hE']; rfl
theorem eqSpec_ok {t : TypeId} {a b : AV} {r : Bool} (h : eqSpec P t a b = some r) {ρ : Rho} {A B : Value} (hA : g ρ a = some A) (hB : g ρ b = some B) (x y : Operand) (w : World) {σ : Type} (next : Value → World → Option σ) :
    ((if (isIntT P t && arith .eql) = true then (bin .eql A B).bind fun v => next v w
      else if scalarT P t = true then (prun P (do eqGuard .eql t x y A B; binOp .eql t A B)).bind fun v => next v w
      else (rrun P (do eqGuard .eql t x y A B; binOp .eql t A B) w).bind fun v => next v w) = next (.bool r) w) ∧
    ((if (isIntT P t && arith .neq) = true then (bin .neq A B).bind fun v => next v w
      else if scalarT P t = true then (prun P (do eqGuard .neq t x y A B; binOp .neq t A B)).bind fun v => next v w
      else (rrun P (do eqGuard .neq t x y A B; binOp .neq t A B) w).bind fun v => next v w) = next (.bool (!r)) w) := by
  unfold eqSpec at h
  split at h
  · rename_i e hu
    have i1 : isIntT P t = false := by unfold isIntT; rw [hu]
    have i2 : scalarT P t = false := by unfold scalarT; rw [hu]
    split at h
    · cases h
      simp only [g] at hA hB
      split at hA <;> cases hA
      cases hB
      exact eq_run i1 i2 (eqi_pn 9999 hu _) rfl rfl rfl rfl next
    · cases h
      simp only [g] at hA hB
      split at hB <;> cases hB
      cases hA
      exact eq_run i1 i2 (eqi_np 9999 hu _) rfl rfl rfl rfl next
    · cases h
  · rename_i e hu
    have i1 : isIntT P t = false := by unfold isIntT; rw [hu]
    have i2 : scalarT P t = false := by unfold scalarT; rw [hu]
    split at h
    · cases h
      simp only [g] at hA hB
      split at hA <;> cases hA
      cases hB
      exact eq_run i1 i2 (eqi_sn 9999 hu _ _ _ _ _) rfl rfl rfl rfl next
    · cases h
      simp only [g] at hA hB
      split at hB <;> cases hB
      cases hA
      exact eq_run i1 i2 (eqi_ns 9999 hu _ _ _ _ _) rfl rfl rfl rfl next
    · cases h
  · rename_i ms hu
    have i1 : isIntT P t = false := by unfold isIntT; rw [hu]
    have i2 : scalarT P t = false := by unfold scalarT; rw [hu]
    split at h
    · cases h
      simp only [g] at hA hB
      split at hA <;> cases hA
      cases hB
      exact eq_run i1 i2 (eqi_in 9999 hu _ _) rfl rfl rfl rfl next
    · cases h
      simp only [g] at hA hB
      split at hB <;> cases hB
      cases hA
      exact eq_run i1 i2 (eqi_ni 9999 hu _ _) rfl rfl rfl rfl next
    · rename_i t1 _ u1 _ 
      cases hb : Nat.beq t1 u1 with
      | true => rw [hb] at h; cases h
      | false =>
        rw [hb] at h
        cases h
        have hne : t1 ≠ u1 := fun e => by rw [e, Nat.beq_refl] at hb; cases hb
        simp only [g] at hA hB
        split at hA <;> cases hA
        cases hB
        exact eq_run i1 i2 (eqi_ii 9999 hu _ _ _ _ hne) rfl rfl rfl rfl next
    · rename_i u1 _ t1 _
      cases hb : Nat.beq t1 u1 with
      | true => rw [hb] at h; cases h
      | false =>
        rw [hb] at h
        cases h
        have hne : u1 ≠ t1 := fun e => by rw [e, Nat.beq_refl] at hb; cases hb
        simp only [g] at hA hB
        split at hB <;> cases hB
        cases hA
        exact eq_run i1 i2 (eqi_ii 9999 hu _ _ _ _ (fun e => hne e)) rfl rfl rfl rfl next
    · cases h
  · cases h
theorem bBin_ok {op : BinOp} {t : TypeId} {x y : Operand} {a b r : AV} (h : bBin P op t x y a b = some r) {ρ : Rho} {A B : Value} (hA : g ρ a = some A) (hB : g ρ b = some B) (w : World) :
    ∃ V, g ρ r = some V ∧ ∀ {σ : Type} (next : Value → World → Option σ), (if (isIntT P t && arith op) = true then (bin op A B).bind fun v => next v w
      else if scalarT P t = true then (prun P (do eqGuard op t x y A B; binOp op t A B)).bind fun v => next v w
      else (rrun P (do eqGuard op t x y A B; binOp op t A B) w).bind fun v => next v w) = next V w := by
  unfold bBin at h
  split at h
  · simp only [Option.ob_eq, Option.bind_eq_some_iff, Option.some.injEq] at h
    obtain ⟨q, h1, rfl⟩ := h
    simp only [g, Option.some.injEq] at hA hB
    subst hA; subst hB
    refine ⟨q, rfl, fun next => bin_plain ?_ w next⟩
    cases hc : (isIntT P t && arith op) with
    | true => rw [hc] at h1; rw [if_pos rfl]; exact kBin_ok h1
    | false => rw [hc] at h1; rw [if_neg (by simp)]; exact h1
  · split at h
    · simp only [Option.ob_eq, Option.bind_eq_some_iff, Option.some.injEq] at h
      obtain ⟨q, h1, rfl⟩ := h
      exact ⟨.bool q, rfl, fun next => (eqSpec_ok h1 hA hB x y w next).1⟩
    · simp only [Option.ob_eq, Option.bind_eq_some_iff, Option.some.injEq] at h
      obtain ⟨q, h1, rfl⟩ := h
      exact ⟨.bool (!q), rfl, fun next => (eqSpec_ok h1 hA hB x y w next).2⟩
    · cases h
theorem bFieldAddr_ok {s : TypeId} {a r : AV} {f : Nat} (h : bFieldAddr P s a f = some r) {ρ : Rho} {A : Value} (hA : g ρ a = some A) : ∃ V, g ρ r = some V ∧ prun P (Instr.fieldAt s A f) = some V := by
  unfold bFieldAddr at h
  split at h
  · simp only [Option.ob_eq, Option.bind_eq_some_iff, Option.some.injEq] at h
    obtain ⟨q, h1, rfl⟩ := h
    simp only [g, Option.some.injEq] at hA
    subst hA
    exact ⟨q, rfl, h1⟩
  · rename_i k o
    split at h
    · rename_i fs hu
      simp only [Option.ob_eq, Option.bind_eq_some_iff] at h
      obtain ⟨fd, h1, i, h2, h3⟩ := h
      cases hz : Nat.beq i.size 0 with
      | true => rw [hz] at h3; cases h3
      | false =>
        rw [hz] at h3
        cases h3
        have hne : ¬ i.size = 0 := fun e => by rw [e] at hz; cases hz
        simp only [g] at hA
        split at hA <;> cases hA
        rename_i p hp
        refine ⟨.pointer (some ⟨p.1, o + fd.offset, none⟩), by simp [g, hp], ?_⟩
        unfold Instr.fieldAt
        simp [prun_bind, prun_underlying hu, h1, Instr.sureAddr, fieldPlace, prun_sizeOf h2, hne, addL]
    · cases h
  · cases h
theorem bPart_ok {t : TypeId} {l : List AV} {off : Nat} {r : AV} (h : bPart P t l off = some r) {ρ : Rho} {vs : List Value} (hl : gs ρ l = some vs) : ∃ V, g ρ r = some V ∧ prun P (part t vs.toArray off) = some V := by
  unfold bPart at h
  simp only [Option.ob_eq, Option.bind_eq_some_iff] at h
  obtain ⟨i, h1, d, h2, h3⟩ := h
  cases ha : isAggB P t with
  | true =>
    rw [ha] at h3
    cases h3
    refine ⟨_, g_mkAgg (gs_take _ (gs_drop _ hl)), ?_⟩
    have h' : prun P (isAgg t) = some true := by
      unfold isAggB at ha
      rw [h2] at ha
      unfold isAgg
      simp only [prun_bind, prun_underlying h2, Option.bind_some]
      cases d <;> first | rfl | cases ha
    unfold part
    simp [prun_bind, h', prun_sizeOf h1, List.extract_eq_take_drop]
  | false =>
    rw [ha] at h3
    simp only [cond_false] at h3
    obtain ⟨V, h4, h5⟩ := gs_get hl h3
    refine ⟨V, h5, ?_⟩
    have h' : prun P (isAgg t) = some false := by
      unfold isAggB at ha
      rw [h2] at ha
      unfold isAgg
      simp only [prun_bind, prun_underlying h2, Option.bind_some]
      cases d <;> first | rfl | cases ha
    unfold part
    simp [prun_bind, h', h4]
theorem bField_ok {t : TypeId} {a r : AV} {f : Nat} (h : bField P t a f = some r) {ρ : Rho} {A : Value} (hA : g ρ a = some A) : ∃ V, g ρ r = some V ∧ prun P (Instr.field t A f) = some V := by
  unfold bField at h
  split at h
  · simp only [Option.ob_eq, Option.bind_eq_some_iff, Option.some.injEq] at h
    obtain ⟨q, h1, rfl⟩ := h
    simp only [g, Option.some.injEq] at hA
    subst hA
    exact ⟨q, rfl, h1⟩
  · rename_i l
    split at h
    · rename_i fs hu
      simp only [Option.ob_eq, Option.bind_eq_some_iff] at h
      obtain ⟨fd, h1, h2⟩ := h
      simp only [g] at hA
      split at hA <;> cases hA
      rename_i vs hvs
      obtain ⟨V, h3, h4⟩ := bPart_ok h2 hvs
      refine ⟨V, h3, ?_⟩
      unfold Instr.field
      simp [prun_bind, prun_underlying hu, h1, asAgg, h4]
    · cases h
  · cases h
theorem bIndexAddr_ok {t : TypeId} {a i r : AV} (h : bIndexAddr P t a i = some r) {ρ : Rho} {A I : Value} (hA : g ρ a = some A) (hI : g ρ i = some I) : ∃ V, g ρ r = some V ∧ prun P (Instr.indexAt t A I) = some V := by
  unfold bIndexAddr at h
  split at h
  · simp only [Option.ob_eq, Option.bind_eq_some_iff, Option.some.injEq] at h
    obtain ⟨q, h1, rfl⟩ := h
    simp only [g, Option.some.injEq] at hA hI
    subst hA; subst hI
    exact ⟨q, rfl, h1⟩
  · rename_i k o n c kd j
    split at h
    · rename_i e hu
      simp only [Option.ob_eq, Option.bind_eq_some_iff] at h
      obtain ⟨i, h1, h2⟩ := h
      cases hb : Nat.blt j.toNat n with
      | false => rw [hb] at h2; cases h2
      | true =>
        rw [hb] at h2
        simp only [cond_true] at h2
        split at h2
        · rename_i j
          cases h2
          simp only [g] at hA hI
          split at hA <;> cases hA
          cases hI
          rename_i p hp
          have hj : j < n := by simpa [Nat.blt_eq] using hb
          refine ⟨.pointer (some ⟨p.1, o + j * i.size, none⟩), by simp [g, hp], ?_⟩
          have := index_slice (P := P) hu h1 ⟨p.1, o, none⟩ n (c.at p.2) kd (Int.ofNat j) (Int.natCast_nonneg j) (by simpa using hj)
          rw [this, addL]
          rfl
        · cases h2
    · cases h
  · rename_i k o kd j
    split at h
    · rename_i n e hu
      simp only [Option.ob_eq, Option.bind_eq_some_iff] at h
      obtain ⟨i, h1, h2⟩ := h
      cases hb : Nat.blt j.toNat n with
      | false => rw [hb] at h2; cases h2
      | true =>
        rw [hb] at h2
        simp only [cond_true] at h2
        split at h2
        · rename_i j
          cases h2
          simp only [g] at hA hI
          split at hA <;> cases hA
          cases hI
          rename_i p hp
          have hj : j < n := by simpa [Nat.blt_eq] using hb
          refine ⟨.pointer (some ⟨p.1, o + j * i.size, none⟩), by simp [g, hp], ?_⟩
          have h0 : (0 : Int) ≤ Int.ofNat j := Int.natCast_nonneg j
          have h3 : Int.ofNat j < (n : Int) := by simpa using hj
          unfold Instr.indexAt
          simp [prun_bind, prun_underlying hu, asIntOf, h0, h3, hj, prun_sizeOf h1, Instr.sureAddr, addL]
        · cases h2
    · cases h
  · cases h
theorem bNil_ok {a r : AV} (h : bNil P a = some r) {ρ : Rho} {A : Value} (hA : g ρ a = some A) : ∃ V, g ρ r = some V ∧ nilV P A = some V := by
  unfold bNil at h
  split at h
  · cases h
    simp only [g] at hA
    split at hA <;> cases hA
    rename_i p hp
    exact ⟨_, by simp [g, hp], rfl⟩
  · simp only [Option.ob_eq, Option.bind_eq_some_iff, Option.some.injEq] at h
    obtain ⟨q, h1, rfl⟩ := h
    simp only [g, Option.some.injEq] at hA
    subst hA
    exact ⟨q, rfl, h1⟩
  · cases h
theorem bExtract_ok {a r : AV} {i : Nat} (h : bExtract P a i = some r) {ρ : Rho} {A : Value} (hA : g ρ a = some A) : ∃ V, g ρ r = some V ∧ prun P (Instr.extract A i) = some V := by
  unfold bExtract at h
  split at h
  · simp only [Option.ob_eq, Option.bind_eq_some_iff, Option.some.injEq] at h
    obtain ⟨q, h1, rfl⟩ := h
    simp only [g, Option.some.injEq] at hA
    subst hA
    exact ⟨q, rfl, h1⟩
  · simp only [g] at hA
    split at hA <;> cases hA
    rename_i vs hvs
    obtain ⟨V, h1, h2⟩ := gs_get hvs h
    exact ⟨V, h2, by unfold Instr.extract; simp [h1]⟩
  · cases h
end
end Go.Sh.Ev
