/- The layer 'Sh': closed runs: slices, appends, copies, strings. Conditions: those of each statement. -/
import Derived.Test.YtkghbcadnbojgaaGreatDoorShEv3
namespace Go.Sh.Ev
open Go Go.RowKit
set_option linter.unusedVariables false
set_option linter.unusedSimpArgs false

section
variable (P : Program) (G : Globs)
noncomputable def bInt (y : Nat) : Option Value → Nat → Option Nat
  | none, d => some d
  | some (.int _ (.ofNat i)), _ => bif Nat.ble i y then some i else none
  | some _, _ => none
noncomputable def bBounds (n cap : Nat) (lo hi mx : Option Value) : Option (Nat × Nat × Nat) :=
  bif mx.isSome && hi.isNone then none else
  (bInt cap mx cap).ob fun m => (bInt m hi n).ob fun h => (bInt h lo 0).ob fun l => some (l, h, m)
noncomputable def capAt (H : AH) (k : Nat) (s : Nat) : Option Nat := match H.tr.get k with
  | some (.cells l _ (some sz)) => bif Nat.beq sz 0 then none else some (l.length / sz - s)
  | _ => none
noncomputable def bSlice (H : AH) (t : TypeId) (a : AV) (lo hi mx : Option Value) : Option (AV × AH) := match a with
  | .v p => (prun P (Instr.sliceAt t p lo hi mx)).ob fun r => some (.v r, H)
  | .sl k o n c => match P.underlying t with
    | some (.slice e) => (P.info? e).ob fun i => match c with
      | .is c => (bBounds n c lo hi mx).ob fun b => some (.sl k (bif Nat.beq b.2.2 b.1 then o else o + b.1 * i.size) (b.2.1 - b.1) (.is (b.2.2 - b.1)), H)
      | .less s => (capAt H k s).ob fun c0 => (bBounds n c0 lo hi mx).ob fun b => match mx with
        | none => bif Nat.beq b.1 0 then some (.sl k o b.2.1 (.less s), H) else bif Nat.blt b.1 c0 then some (.sl k (o + b.1 * i.size) (b.2.1 - b.1) (.less (s + b.1)), H) else bif Nat.beq b.2.1 b.1 then some (.e0 k H.next, H.name) else none
        | some _ => some (.sl k (bif Nat.beq b.2.2 b.1 then o else o + b.1 * i.size) (b.2.1 - b.1) (.is (b.2.2 - b.1)), H)
    | _ => none
  | .ptr k o => match P.underlying t with
    | some (.array n e) => (P.info? e).ob fun i => (bBounds n n lo hi mx).ob fun b => some (.sl k (bif Nat.beq b.2.2 b.1 then o else o + b.1 * i.size) (b.2.1 - b.1) (.is (b.2.2 - b.1)), H)
    | _ => none
  | _ => none
/-- what is read for an append or a copy: how many elements, their cells -/
noncomputable def srcOf (H : AH) (b : AV) (sz : Nat) : Option (Nat × List AV) := match b with
  | .sl k o m _ => (srcAt G H (.ptr k o) (m * sz)).ob fun l => some (m, l)
  | .v (.slice (some a) m _) => (srcAt G H (.v (.pointer (some a))) (m * sz)).ob fun l => some (m, l)
  | _ => none
noncomputable def isNilSl : AV → Bool
  | .v (.slice none 0 0) => true
  | _ => false
/-- the elements that a slice owns, if it may be appended to -/
noncomputable def ownL (H : AH) (a : AV) (e : TypeId) (sz : Nat) : Option (Option Nat × Nat × List AV) := match a with
  | .v (.slice none 0 0) => some (none, 0, [])
  | .sl k o n c => match H.tr.get k with
    | some (.cells l e' room) => bif Nat.beq o 0 && (Nat.beq e' e && (Tr.okKey k && Nat.ble (n * sz) l.length)) then (match room, c with
      | some sz', .less 0 => bif Nat.beq sz' sz then some (some k, n, l.take (n * sz)) else none
      | none, .is c => bif Nat.beq l.length (c * sz) && (Nat.ble n c && Nat.ble c 10000000) then some (some k, n, l.take (n * sz)) else none
      | _, _ => none) else none
    | _ => none
  | _ => none
noncomputable def bAppend (H : AH) (ts : Array TypeId) (a b : AV) : Option (AV × AH) := match ts.toList with
  | [t, t'] => bif Nat.beq t t' then (match P.underlying t with
    | some (.slice e) => (P.info? e).ob fun i => i.zero.ob fun z => (ownL H a e i.size).ob fun x =>
      bif isNilSl b then (bif Nat.blt 0 i.size then some (a, H) else none) else
      (srcOf G H b i.size).ob fun y =>
      bif y.2.all oneAV && (Nat.blt 0 i.size && (Nat.beq z.cells.size i.size && (Nat.ble i.bytes 100000 && (Tr.okKey H.next && (Nat.ble (x.2.1 + y.1) 10000000 && Nat.blt 0 y.1))))) then
        some (.sl H.next 0 (x.2.1 + y.1) (.less 0), match x.1 with | some k => H.turn k (.cells (x.2.2 ++ y.2) e (some i.size)) | none => H.add (.cells (x.2.2 ++ y.2) e (some i.size)))
      else none
    | _ => none) else none
  | _ => none
noncomputable def bCopy (H : AH) (ts : Array TypeId) (a b : AV) : Option (AV × AH) := match ts.toList with
  | [t, t'] => match P.underlying t with
    | some (.slice e) => (P.info? e).ob fun i => bif Nat.beq i.size 1 then (match a with
      | .sl k o dn _ => match H.tr.get k with
        | some (.cells l e0 room) => bif isNilSl b then some (.v (.int .i64 (0 : Nat)), H) else (srcOf G H b 1).ob fun y =>
          bif y.2.all oneAV && (Nat.ble (o + min y.1 dn) l.length && Tr.okKey k) then some (.v (.int .i64 (min y.1 dn : Nat)), H.set k (.cells (splice l o (y.2.take dn)) e0 room)) else none
        | _ => none
      | _ => none) else none
    | _ => none
  | _ => none
noncomputable def byteAV : AV → Option UInt8
  | .v (.int .u8 (.ofNat z)) => bif Nat.blt z 256 then some (UInt8.ofNat z) else none
  | _ => none
noncomputable def bytesAV : List AV → Option (List UInt8)
  | [] => some []
  | a :: r => (byteAV a).ob fun x => (bytesAV r).ob fun l => some (x :: l)
noncomputable def bText (H : AH) (s d : TypeId) (a : AV) : Option AV := match P.underlying s, P.underlying d with
  | some (.slice e), some .string => match P.underlying e with
    | some (.int .u8) => (srcOf G H a 1).ob fun y => (bytesAV y.2).ob fun bs => some (.v (.string ⟨bs.toArray⟩))
    | _ => none
  | _, _ => none
noncomputable def bRange (H : AH) (t : TypeId) (a : AV) : Option (AV × AH) := match P.underlying t, a with
  | some .string, .v (.string s) => bif Tr.okKey H.next then some (.ptr H.next 0, H.add (.iter s 0)) else none
  | _, _ => none
noncomputable def bNext (H : AH) (a : AV) (isStr : Bool) : Option (AV × AH) := match a with
  | .ptr k 0 => match H.tr.get k with
    | some (.iter s pos) => bif isStr && Tr.okKey k then (bif Nat.blt pos s.size then some (.v (.tuple #[.bool true, .int .i64 pos, .int .i32 (Utf8.decode s pos).1]), H.set k (.iter s (pos + (Utf8.decode s pos).2))) else some (.v (.tuple #[.bool false]), H)) else none
    | _ => none
  | _ => none
variable {P} {G}
/-! ### slices of slices -/
theorem bInt_ok {y d r : Nat} {x : Option Value} (h : bInt y x d = some r) : (x = none ∧ r = d) ∨ ∃ k, x = some (.int k (r : Int)) ∧ r ≤ y := by
  unfold bInt at h
  split at h
  · cases h; exact .inl ⟨rfl, rfl⟩
  · rename_i k i
    cases hb : Nat.ble i y with
    | false => rw [hb] at h; cases h
    | true => rw [hb] at h; cases h; exact .inr ⟨k, rfl, Nat.le_of_ble_eq_true hb⟩
  · cases h
theorem bound_nat (k : IntKind) (i y : Nat) (code : BoundsCode) (h : i ≤ y) : prun P (Instr.sliceBound (.int k (i : Int)) y code) = some i := by
  have := bound_ok (P := P) k (i : Int) y code (by omega) (by omega)
  simpa using this
theorem bounds_mono {isS : Bool} {n c0 C : Nat} {lo hi mx : Option Value} {b : Nat × Nat × Nat} (h : bBounds n c0 lo hi mx = some b) (hC : c0 ≤ C) : prun P (Instr.sliceBounds isS n C lo hi mx) = some (b.1, b.2.1, if mx = none then C else b.2.2) := by
  unfold bBounds at h
  cases hx : (mx.isSome && hi.isNone) with
  | true => rw [hx] at h; cases h
  | false =>
    rw [hx] at h
    simp only [cond_false, Option.ob_eq, Option.bind_eq_some_iff, Option.some.injEq] at h
    obtain ⟨m, h1, hh, h2, l, h3, rfl⟩ := h
    unfold Instr.sliceBounds
    rcases bInt_ok h1 with ⟨rfl, rfl⟩ | ⟨k1, rfl, m1⟩ <;> rcases bInt_ok h2 with ⟨rfl, rfl⟩ | ⟨k2, rfl, m2⟩ <;> rcases bInt_ok h3 with ⟨rfl, rfl⟩ | ⟨k3, rfl, m3⟩
    · simp [prun_bind]
    · simp [prun_bind, bound_nat _ _ _ _ m3]
    · simp [prun_bind, bound_nat (P := P) k2 hh C _ (by omega)]
    · simp [prun_bind, bound_nat (P := P) k2 hh C _ (by omega), bound_nat _ _ _ _ m3]
    · simp at hx
    · simp at hx
    · simp [prun_bind, bound_nat (P := P) k1 m C _ (by omega), bound_nat _ _ _ _ m2]
    · simp [prun_bind, bound_nat (P := P) k1 m C _ (by omega), bound_nat _ _ _ _ m2, bound_nat _ _ _ _ m3]
theorem bounds_is {isS : Bool} {n c : Nat} {lo hi mx : Option Value} {b : Nat × Nat × Nat} (h : bBounds n c lo hi mx = some b) : prun P (Instr.sliceBounds isS n c lo hi mx) = some b := by
  rw [bounds_mono h (Nat.le_refl _)]
  split
  · rename_i e
    subst e
    unfold bBounds at h
    simp only [Option.isSome_none, Bool.false_and, cond_false, Option.ob_eq, Option.bind_eq_some_iff, Option.some.injEq] at h
    obtain ⟨m, h1, hh, h2, l, h3, rfl⟩ := h
    simp only [bInt, Option.some.injEq] at h1
    subst h1
    rfl
  · rfl
theorem capAt_ok {W : World} {ρ : Rho} {H : AH} {w : World} (r : Live W ρ H w) {k s c0 : Nat} (h : capAt H k s = some c0) : ∃ b m, ρ k = some (b, m) ∧ c0 ≤ m - s := by
  unfold capAt at h
  split at h
  · rename_i l e sz hk
    cases hb : Nat.beq sz 0 with
    | true => rw [hb] at h; cases h
    | false =>
      rw [hb] at h
      cases h
      have hsz : sz ≠ 0 := fun e => by rw [e] at hb; cases hb
      obtain ⟨b, m, vs, rest, h1, h2, h3, h4, _⟩ := r.cells hk
      obtain ⟨h5, _⟩ := h4 sz rfl
      refine ⟨b, m, h1, ?_⟩
      have h6 := gs_length h2
      have h7 : l.length ≤ m * sz := by rw [← h5, ← h6]; simp
      have h8 : l.length / sz ≤ m := by
        have := Nat.div_le_div_right (c := sz) h7
        rwa [Nat.mul_div_cancel _ (by omega)] at this
      omega
  · cases h
theorem cut_addr {b o l m size : Nat} : (if m = l then some (⟨b, o, none⟩ : Addr) else (some (⟨b, o, none⟩ : Addr)).map (·.add (l * size))) = some ⟨b, (bif Nat.beq m l then o else o + l * size), none⟩ := by
  cases hb : Nat.beq m l with
  | true => have := Nat.eq_of_beq_eq_true hb; simp [this]
  | false =>
    have : ¬ m = l := fun e => by rw [e, Nat.beq_refl] at hb; cases hb
    simp [this, addL]
theorem bSlice_ok {W : World} {ρ : Rho} {H H' : AH} {w : World} (r : Rel W ρ H w) {t : TypeId} {a x : AV} {lo hi mx : Option Value} (h : bSlice P H t a lo hi mx = some (x, H')) {A : Value} (hA : g ρ a = some A) : ∃ ρ' V, RhoLe ρ ρ' ∧ Rel W ρ' H' w ∧ g ρ' x = some V ∧ prun P (Instr.sliceAt t A lo hi mx) = some V := by
  unfold bSlice at h
  split at h
  · simp only [Option.ob_eq, Option.bind_eq_some_iff, Option.some.injEq, Prod.mk.injEq] at h
    obtain ⟨q, h1, rfl, rfl⟩ := h
    simp only [g, Option.some.injEq] at hA
    subst hA
    exact ⟨ρ, q, RhoLe.refl _, r, rfl, h1⟩
  · rename_i k o n c
    split at h
    · rename_i e hu
      simp only [Option.ob_eq, Option.bind_eq_some_iff] at h
      obtain ⟨i, h1, h2⟩ := h
      simp only [g] at hA
      split at hA <;> cases hA
      rename_i p hp
      split at h2
      · rename_i c
        simp only [Option.ob_eq, Option.bind_eq_some_iff, Option.some.injEq, Prod.mk.injEq] at h2
        obtain ⟨⟨l, h', m⟩, h3, rfl, rfl⟩ := h2
        refine ⟨ρ, _, RhoLe.refl _, r, by simp only [g, hp]; rfl, ?_⟩
        simp only [Cap.at]
        rw [slice_at hu h1 _ _ _ lo hi mx l h' m (bounds_is h3), cut_addr]
      · rename_i s
        simp only [Option.ob_eq, Option.bind_eq_some_iff] at h2
        obtain ⟨c0, h3, ⟨l, h', m⟩, h4, h5⟩ := h2
        obtain ⟨b, mm, h6, h7⟩ := capAt_ok r.toLive h3
        rw [hp] at h6
        cases h6
        have h8 := bounds_mono (P := P) (isS := true) h4 h7
        split at h5
        · cases hb : Nat.beq l 0 with
          | true =>
            simp only [hb, cond_true, Option.some.injEq, Prod.mk.injEq] at h5
            obtain ⟨rfl, rfl⟩ := h5
            have hl := Nat.eq_of_beq_eq_true hb
            subst hl
            refine ⟨ρ, _, RhoLe.refl _, r, by simp only [g, hp]; rfl, ?_⟩
            simp only [Cap.at]
            rw [slice_at hu h1 _ _ _ lo hi none 0 h' (mm - s) (by simpa using h8)]
            simp [Cap.at, addL]
          | false =>
            simp only [hb, cond_false] at h5
            cases hb2 : Nat.blt l c0 with
            | false =>
              rw [hb2] at h5
              simp only [cond_false] at h5
              cases hb3 : Nat.beq h' l with
              | false => rw [hb3] at h5; cases h5
              | true =>
                rw [hb3] at h5
                cases h5
                have hl := Nat.eq_of_beq_eq_true hb3
                subst hl
                have hne : k ≠ H.next := fun e => by rw [e, r.fresh _ (Nat.le_refl _)] at hp; cases hp
                refine ⟨updR ρ H.next (bif Nat.beq (mm - s) h' then o else o + h' * i.size, mm - s - h'), .slice (some ⟨b, (bif Nat.beq (mm - s) h' then o else o + h' * i.size), none⟩) 0 (mm - s - h'), updR_le (r.fresh _ (Nat.le_refl _)), r.name_ _, ?_, ?_⟩
                · have e1 : updR ρ H.next (bif Nat.beq (mm - s) h' then o else o + h' * i.size, mm - s - h') k = some (b, mm) := by unfold updR; rw [if_neg hne]; exact hp
                  simp only [g, e1, updR_self]
                · simp only [Cap.at]
                  rw [slice_at hu h1 _ _ _ lo hi none h' h' (mm - s) (by simpa using h8), cut_addr, Nat.sub_self]
            | true =>
              rw [hb2] at h5
              cases h5
              have hlt : l < c0 := by simpa [Nat.blt_eq] using hb2
              refine ⟨ρ, _, RhoLe.refl _, r, by simp only [g, hp]; rfl, ?_⟩
              simp only [Cap.at]
              rw [slice_at hu h1 _ _ _ lo hi none l h' (mm - s) (by simpa using h8)]
              have : ¬ mm - s = l := by omega
              simp [Cap.at, this, addL]
              omega
        · rename_i v
          cases h5
          refine ⟨ρ, _, RhoLe.refl _, r, by simp only [g, hp]; rfl, ?_⟩
          simp only [Cap.at]
          rw [slice_at hu h1 _ _ _ lo hi (some v) l h' m (by simpa using h8), cut_addr]
    · cases h
  · rename_i k o
    split at h
    · rename_i n e hu
      simp only [Option.ob_eq, Option.bind_eq_some_iff, Option.some.injEq, Prod.mk.injEq] at h
      obtain ⟨i, h1, ⟨l, h', m⟩, h3, rfl, rfl⟩ := h
      simp only [g] at hA
      split at hA <;> cases hA
      rename_i p hp
      refine ⟨ρ, _, RhoLe.refl _, r, by simp only [g, hp]; rfl, ?_⟩
      unfold Instr.sliceAt
      have h3' := bounds_is (P := P) (isS := false) h3
      simp only [prun_bind, prun_underlying hu, Option.bind_some, Instr.sureAddr, prun_pure, h3', prun_sizeOf h1, Cap.at]
      congr 2
      cases hb : Nat.beq m l with
      | true => have e := Nat.eq_of_beq_eq_true hb; simp [e]
      | false =>
        have e : ¬ m = l := fun e => by rw [e, Nat.beq_refl] at hb; cases hb
        simp [e, addL]
    · cases h
  · cases h
/-! ### appends -/
theorem srcOf_ok {W : World} {ρ : Rho} {H : AH} {w : World} (r : Live W ρ H w) (hG : GlobOk G W) {b : AV} {sz : Nat} {y : Nat × List AV} (h : srcOf G H b sz = some y) {B : Value} (hB : g ρ b = some B) :
    ∃ a c vs, B = .slice (some a) y.1 c ∧ gs ρ y.2 = some vs ∧ vs.length = y.1 * sz ∧ Rd w (some a) vs := by
  unfold srcOf at h
  split at h
  · rename_i k o m c
    simp only [Option.ob_eq, Option.bind_eq_some_iff, Option.some.injEq] at h
    obtain ⟨l, h1, rfl⟩ := h
    simp only [g] at hB
    split at hB <;> cases hB
    rename_i p hp
    obtain ⟨b, o', vs, h2, h3, h4, h5⟩ := srcAt_ok r hG h1 (A := .pointer (some ⟨p.1, o, none⟩)) (by simp [g, hp])
    cases h2
    exact ⟨_, _, vs, rfl, h3, h4, fun j V hj => by rw [addL]; exact h5 j V hj⟩
  · rename_i a m c
    simp only [Option.ob_eq, Option.bind_eq_some_iff, Option.some.injEq] at h
    obtain ⟨l, h1, rfl⟩ := h
    simp only [g, Option.some.injEq] at hB
    subst hB
    obtain ⟨b, o', vs, h2, h3, h4, h5⟩ := srcAt_ok r hG h1 (A := .pointer (some a)) rfl
    cases h2
    exact ⟨_, _, vs, rfl, h3, h4, fun j V hj => by rw [addL]; exact h5 j V hj⟩
  · cases h
theorem isNilSl_ok {b : AV} (h : isNilSl b = true) : b = .v (.slice none 0 0) := by
  unfold isNilSl at h
  split at h
  · rfl
  · cases h
theorem ownL_ok {W : World} {ρ : Rho} {H : AH} {w : World} (r : Live W ρ H w) {a : AV} {e : TypeId} {sz : Nat} (hsz : 0 < sz) {x : Option Nat × Nat × List AV} (h : ownL H a e sz = some x) {A : Value} (hA : g ρ a = some A) :
    ∃ vs, gs ρ x.2.2 = some vs ∧ w.ownsRow W.heap.size e sz A x.2.1 vs ∧
      ((x.1 = none ∧ A.ownBlock = none) ∨ ∃ k b m o, x.1 = some k ∧ Tr.okKey k = true ∧ H.tr.get k = some o ∧ ρ k = some (b, m) ∧ A.ownBlock = some b) := by
  unfold ownL at h
  split at h
  · cases h
    simp only [g, Option.some.injEq] at hA
    subst hA
    exact ⟨[], rfl, World.ownsRow_nil w _ e sz, .inl ⟨rfl, rfl⟩⟩
  · rename_i k o n c
    split at h
    · rename_i l e' room hk
      cases hb : (Nat.beq o 0 && (Nat.beq e' e && (Tr.okKey k && Nat.ble (n * sz) l.length))) with
      | false => rw [hb] at h; cases h
      | true =>
        rw [hb] at h
        simp only [cond_true] at h
        simp only [Bool.and_eq_true, Nat.beq_eq, Nat.ble_eq] at hb
        obtain ⟨rfl, rfl, b3, b4⟩ := hb
        obtain ⟨b, m, vs, rest, h1, h2, h3, h4, h5⟩ := r.cells hk
        have hbw := r.new k _ b m hk h1
        have hvl := gs_length h2
        split at h
        · rename_i sz'
          cases hs : Nat.beq sz' sz with
          | false => rw [hs] at h; cases h
          | true =>
            rw [hs] at h
            cases h
            have := Nat.eq_of_beq_eq_true hs
            subst this
            obtain ⟨h6, h7⟩ := h4 _ rfl
            simp only [g, h1, Option.some.injEq] at hA
            subst hA
            have hnm : n ≤ m := by
              have hx : n * sz' ≤ m * sz' := by rw [← h6]; simp; omega
              exact Nat.le_of_mul_le_mul_right hx hsz
            refine ⟨_, gs_take _ h2, ⟨by simp; omega, .inr ⟨b, m, (vs ++ rest).toArray, by simp [Cap.at], hbw, h3, hnm, h7, by simpa using h6, ?_⟩⟩, .inr ⟨k, b, m, _, rfl, b3, hk, h1, rfl⟩⟩
            show (vs ++ rest).take (n * sz') = _
            rw [List.take_append_of_le_length (by omega)]
        · rename_i c
          cases hs : (Nat.beq l.length (c * sz) && (Nat.ble n c && Nat.ble c 10000000)) with
          | false => rw [hs] at h; cases h
          | true =>
            rw [hs] at h
            cases h
            simp only [Bool.and_eq_true, Nat.beq_eq, Nat.ble_eq] at hs
            obtain ⟨s1, s2, s3⟩ := hs
            have := h5 rfl
            subst this
            simp only [List.append_nil] at h3
            simp only [g, h1, Option.some.injEq] at hA
            subst hA
            refine ⟨_, gs_take _ h2, ⟨by simp; omega, .inr ⟨b, c, vs.toArray, by simp [Cap.at], hbw, h3, s2, by simp [maxLen]; omega, by simp; omega, by simp⟩⟩, .inr ⟨k, b, m, _, rfl, b3, hk, h1, rfl⟩⟩
        · cases h
    · cases h
  · cases h
theorem bAppend_ok {W : World} {ρ : Rho} {H H' : AH} {w : World} (r : Rel W ρ H w) (hG : GlobOk G W) {ts : Array TypeId} {ty : TypeId} {a b x : AV} (h : bAppend P G H ts a b = some (x, H')) {A B : Value} (hA : g ρ a = some A) (hB : g ρ b = some B) : Done W ρ x H' (erun P (Builtin.append_ ts ty #[A, B]) w) := by
  unfold bAppend at h
  split at h
  · rename_i t t' hts
    have hts' : ts = #[t, t'] := by apply Array.ext'; simpa using hts
    subst hts'
    cases hb : Nat.beq t t' with
    | false => rw [hb] at h; cases h
    | true =>
      rw [hb] at h
      have := Nat.eq_of_beq_eq_true hb
      subst this
      simp only [cond_true] at h
      split at h
      · rename_i e hu
        simp only [Option.ob_eq, Option.bind_eq_some_iff] at h
        obtain ⟨i, h1, z, h2, x', h3, h4⟩ := h
        cases hn : isNilSl b with
        | true =>
          rw [hn] at h4
          cases hz : Nat.blt 0 i.size with
          | false => rw [hz] at h4; cases h4
          | true =>
          rw [hz] at h4
          cases h4
          have := isNilSl_ok hn
          subst this
          simp only [g, Option.some.injEq] at hB
          subst hB
          obtain ⟨vs, _, h6, _⟩ := ownL_ok r.toLive (Nat.blt_eq.mp hz) h3 hA
          exact ⟨ρ, A, w, RhoLe.refl _, r, hA, erun_of_run (run_append_owned_none (P := P) (w := w) W.heap.size t ty e i i.size hu h1 A _ vs h6)⟩
        | false =>
          rw [hn] at h4
          simp only [cond_false, Option.ob_eq, Option.bind_eq_some_iff] at h4
          obtain ⟨y, h5, h6⟩ := h4
          cases hc : (y.2.all oneAV && (Nat.blt 0 i.size && (Nat.beq z.cells.size i.size && (Nat.ble i.bytes 100000 && (Tr.okKey H.next && (Nat.ble (x'.2.1 + y.1) 10000000 && Nat.blt 0 y.1)))))) with
          | false => rw [hc] at h6; cases h6
          | true =>
            rw [hc] at h6
            cases h6
            simp only [Bool.and_eq_true, Nat.blt_eq, Nat.beq_eq, Nat.ble_eq] at hc
            obtain ⟨c1, c2, c3, c4, c5, c6, c7⟩ := hc
            obtain ⟨vs, v1, v2, v3⟩ := ownL_ok r.toLive c2 h3 hA
            obtain ⟨ad, cp, us, rfl, u1, u2, u3⟩ := srcOf_ok r.toLive hG h5 hB
            have hby : (x'.2.1 + y.1) * i.bytes ≤ 140737488355328 := Nat.le_trans (Nat.mul_le_mul c6 c4) (by omega)
            obtain ⟨v', w', e1, e2, e3, e4⟩ := e_append2 (P := P) (ty := ty) hu h1 h2 rfl rfl c3 c2 v2 u2 u3 (c := cp) (fun h => by cases h) (oneCells_of u1 c1) (by simp [maxLen]; omega) hby r.grown.size
            have hnews := gs_append v1 u1
            obtain ⟨e5, e6⟩ := e2
            rcases e6 with ⟨_, e6⟩ | ⟨b', cap', cur, rfl, f1, f2, f3, f4, f5, f6⟩
            · omega
            · have hrow : ∀ ρ'', RhoLe ρ ρ'' → RO ρ'' cap' (.cells (x'.2.2 ++ y.2) e (some i.size)) (.cells cur e (0, 0)) := by
                intro ρ'' hle
                refine ⟨_, cur.toList.drop ((x'.2.1 + y.1) * i.size), gs_mono hle _ _ hnews, ?_, ?_, f4⟩
                · congr 1
                  apply Array.ext'
                  rw [← f6]
                  simp
                · rw [← f6]
                  simp [f5]
              have hb' := e4 b' rfl
              rcases v3 with ⟨x1, x2⟩ | ⟨k, b0, m0, o0, x1, x2, x3, x4, x5⟩
              · rw [x1]
                rw [x2] at e3 hb'
                have hge : w.heap.size ≤ b' := by
                  rcases hb' with h | h
                  · cases h
                  · exact h
                exact ⟨_, _, w', updR_le (p := (b', cap')) (r.fresh _ (Nat.le_refl _)), r.new_ e3 hge f2 (hrow _ (updR_le (r.fresh _ (Nat.le_refl _)))) c5, by simp only [g, updR_self]; rfl, by rw [e1]; rfl⟩
              · rw [x1]
                rw [x5] at e3 hb'
                have hge : b' = b0 ∨ w.heap.size ≤ b' := by
                  rcases hb' with h | h
                  · cases h; exact .inl rfl
                  · exact .inr h
                exact ⟨_, _, w', updR_le (p := (b', cap')) (r.fresh _ (Nat.le_refl _)), r.turn_ x3 x4 e3 hge f2 (hrow _ (updR_le (r.fresh _ (Nat.le_refl _)))) x2 c5, by simp only [g, updR_self]; rfl, by rw [e1]; rfl⟩
      · cases h
  · cases h
theorem bCopy_ok {W : World} {ρ : Rho} {H H' : AH} {w : World} (r : Rel W ρ H w) (hG : GlobOk G W) {ts : Array TypeId} {ty : TypeId} {a b x : AV} (h : bCopy P G H ts a b = some (x, H')) {A B : Value} (hA : g ρ a = some A) (hB : g ρ b = some B) : Done W ρ x H' (erun P (Builtin.copy_ ts ty #[A, B]) w) := by
  unfold bCopy at h
  split at h
  · rename_i t t' hts
    have hts' : ts = #[t, t'] := by apply Array.ext'; simpa using hts
    subst hts'
    split at h
    · rename_i e hu
      simp only [Option.ob_eq, Option.bind_eq_some_iff] at h
      obtain ⟨i, h1, h2⟩ := h
      cases hb : Nat.beq i.size 1 with
      | false => rw [hb] at h2; cases h2
      | true =>
        rw [hb] at h2
        have hs := Nat.eq_of_beq_eq_true hb
        simp only [cond_true] at h2
        split at h2
        · rename_i k o dn c
          split at h2
          · rename_i l e0 room hk
            obtain ⟨b0, m, vs, rest, h3, h4, h5, h6, h7⟩ := r.cells hk
            simp only [g, h3] at hA
            cases hA
            have hblk : Blk w b0 e0 (vs ++ rest) := h5
            have hvl := gs_length h4
            cases hn : isNilSl b with
            | true =>
              rw [hn] at h2
              cases h2
              have := isNilSl_ok hn
              subst this
              simp only [g, Option.some.injEq] at hB
              subst hB
              refine ⟨ρ, _, w, RhoLe.refl _, r, rfl, erun_of_run ?_⟩
              have := run_copy_nil (P := P) w t t' ty e ⟨b0, o, none⟩ dn (c.at m) hu (by rw [h1]; rfl)
              simpa [goInt] using this
            | false =>
              rw [hn] at h2
              simp only [cond_false, Option.ob_eq, Option.bind_eq_some_iff] at h2
              obtain ⟨y, h8, h9⟩ := h2
              cases hc : (y.2.all oneAV && (Nat.ble (o + min y.1 dn) l.length && Tr.okKey k)) with
              | false => rw [hc] at h9; cases h9
              | true =>
                rw [hc] at h9
                cases h9
                simp only [Bool.and_eq_true, Nat.ble_eq] at hc
                obtain ⟨c1, c2, c3⟩ := hc
                obtain ⟨ad, cp, us, rfl, u1, u2, u3⟩ := srcOf_ok r.toLive hG h8 hB
                obtain ⟨w', e1, e2, e3⟩ := e_copy (P := P) hblk (ty := ty) (sT := t') hu h1 hs (o := o) (dn := dn) (dc := c.at m) (sn := y.1) (sc := cp) u3 (by omega) (fun h => by cases h) (by simp; omega) (oneCells_of u1 c1)
                refine ⟨ρ, _, w', RhoLe.refl _, r.set_ hk h3 e3 e2 ?_ c3, rfl, e1⟩
                have hlen : (y.2.take dn).length = min y.1 dn := by
                  rw [List.length_take, ← gs_length u1, u2]; simp [Nat.min_comm]
                have hnew := gs_append (gs_append (gs_take o h4) (gs_take dn u1)) (gs_drop (o + min y.1 dn) h4)
                have hspl : splice l o (y.2.take dn) = l.take o ++ y.2.take dn ++ l.drop (o + min y.1 dn) := by
                  rw [splice_eq _ _ _ (by omega), hlen]
                have hcs : (vs ++ rest).take o ++ us.take dn ++ (vs ++ rest).drop (o + min y.1 dn) = (vs.take o ++ us.take dn ++ vs.drop (o + min y.1 dn)) ++ rest := by
                  rw [List.take_append_of_le_length (by omega), List.drop_append_of_le_length (by omega)]
                  simp
                rw [hcs, hspl]
                have hl2 : (vs.take o ++ us.take dn ++ vs.drop (o + min y.1 dn)).length = vs.length := by
                  simp only [List.length_append, List.length_take, List.length_drop, u2]; omega
                cases room with
                | none =>
                  have := h7 rfl
                  subst this
                  exact ⟨_, hnew, by simp⟩
                | some sz =>
                  obtain ⟨h10, h11⟩ := h6 sz rfl
                  exact ⟨_, rest, hnew, rfl, by rw [List.length_append, hl2, ← List.length_append]; exact h10, h11⟩
          · cases h2
        · cases h2
    · cases h
  · cases h
theorem byteAV_ok {a : AV} {x : UInt8} (h : byteAV a = some x) : a = .v (.int .u8 x.toNat) := by
  unfold byteAV at h
  split at h
  · rename_i z
    cases hb : Nat.blt z 256 with
    | false => rw [hb] at h; cases h
    | true =>
      rw [hb] at h
      cases h
      have : z < 256 := by simpa [Nat.blt_eq] using hb
      simp [UInt8.toNat_ofNat', Nat.mod_eq_of_lt this]
  · cases h
theorem bytesAV_ok {ρ : Rho} : ∀ {l : List AV} {bs : List UInt8}, bytesAV l = some bs → gs ρ l = some (bv bs)
  | [], bs, h => by simp only [bytesAV, Option.some.injEq] at h; subst h; rfl
  | a :: r, bs, h => by
    simp only [bytesAV, Option.ob_eq, Option.bind_eq_some_iff, Option.some.injEq] at h
    obtain ⟨x, h1, l, h2, rfl⟩ := h
    have := byteAV_ok h1
    subst this
    exact gs_cons.mpr ⟨_, _, rfl, bytesAV_ok h2, rfl⟩
theorem bText_ok {W : World} {ρ : Rho} {H : AH} {w : World} (r : Live W ρ H w) (hG : GlobOk G W) {s d : TypeId} {a x : AV} (h : bText P G H s d a = some x) {A : Value} (hA : g ρ a = some A) : ∃ V, g ρ x = some V ∧ rrun P (convert s d A) w = some V := by
  unfold bText at h
  split at h
  · rename_i e hs hd
    split at h
    · rename_i he
      simp only [Option.ob_eq, Option.bind_eq_some_iff, Option.some.injEq] at h
      obtain ⟨y, h1, bs, h2, rfl⟩ := h
      obtain ⟨ad, cp, us, rfl, u1, u2, u3⟩ := srcOf_ok r hG h1 hA
      have := bytesAV_ok (ρ := ρ) h2
      rw [u1] at this
      cases this
      exact ⟨_, rfl, e_text hs he hd (by simpa using u2) u3⟩
    · cases h
  · cases h
theorem bRange_ok {W : World} {ρ : Rho} {H H' : AH} {w : World} (r : Rel W ρ H w) {t : TypeId} {a x : AV} (h : bRange P H t a = some (x, H')) {A : Value} (hA : g ρ a = some A) : Done W ρ x H' (erun P (Instr.range t A) w) := by
  unfold bRange at h
  split at h
  · rename_i s hu
    cases hk : Tr.okKey H.next with
    | false => rw [hk] at h; cases h
    | true =>
      rw [hk] at h
      cases h
      simp only [g, Option.some.injEq] at hA
      subst hA
      rw [str_range hu]
      exact ⟨_, _, _, updR_le (p := (w.heap.size, 0)) (r.fresh _ (Nat.le_refl _)), r.new_ (World.grownBy_alloc w _ none) (Nat.le_refl _) (heap_alloc_new w _) rfl hk, by simp [g], rfl⟩
  · cases h
theorem bNext_ok {W : World} {ρ : Rho} {H H' : AH} {w : World} (r : Rel W ρ H w) {ty : TypeId} {b : Bool} {a x : AV} (h : bNext H a b = some (x, H')) {A : Value} (hA : g ρ a = some A) : Done W ρ x H' (erun P (Instr.next A b ty) w) := by
  unfold bNext at h
  split at h
  · rename_i k
    split at h
    · rename_i s pos hk
      obtain ⟨b0, m, O, h1, h2, h3⟩ := r.live k _ hk
      have hO : O = .stringIter s pos := h3
      subst hO
      simp only [g, h1] at hA
      cases hA
      cases hb : (b && Tr.okKey k) with
      | false => rw [hb] at h; cases h
      | true =>
        rw [hb] at h
        simp only [Bool.and_eq_true] at hb
        obtain ⟨rfl, hkey⟩ := hb
        simp only [cond_true] at h
        cases hp : Nat.blt pos s.size with
        | false =>
          rw [hp] at h
          cases h
          have hn : ¬ pos < s.size := fun e => by rw [Nat.blt_eq.mpr e] at hp; cases hp
          refine ⟨ρ, _, w, RhoLe.refl _, r, rfl, erun_of_run ?_⟩
          simp [Instr.next, getObj, Sem.run, h2, hn]
        | true =>
          rw [hp] at h
          cases h
          have hlt : pos < s.size := Nat.blt_eq.mp hp
          have hbl := (Array.getElem?_eq_some_iff.mp h2).1
          obtain ⟨w', hw'⟩ : ∃ w', w' = { w with heap := w.heap.setIfInBounds b0 (.stringIter s (pos + (Utf8.decode s pos).2)) } := ⟨_, rfl⟩
          have hg : w.grownBy w' (some b0) := by
            subst hw'
            refine ⟨rfl, rfl, rfl, by simp, fun j _ hj => ?_⟩
            have : b0 ≠ j := fun e => hj (by rw [e])
            simp [Array.getElem?_setIfInBounds, this]
          refine ⟨ρ, _, w', RhoLe.refl _, r.set_ hk h1 hg (O := .stringIter s (pos + (Utf8.decode s pos).2)) ?_ rfl hkey, rfl, erun_of_run ?_⟩
          · subst hw'
            simp [Array.getElem?_setIfInBounds, hbl]
          · subst hw'
            simp [Instr.next, getObj, setObj, Sem.run, h2, hlt, goInt, Result.andThen]
    · cases h
  · cases h
end
end Go.Sh.Ev
