/- cuts: utf8.ValidString. Conditions: those of each statement. -/
import Derived.Test.YtkghbcadnbojgaaGreatDoorUC5
namespace Go.Sh.YtkghbcadnbojgaaGreatDoor
open Go Go.Proofs Go.RowKit
set_option linter.unusedVariables false
set_option linter.unusedSimpArgs false
set_option maxRecDepth 100000
def goesOn (b : UInt8) : Bool := decide (128 ≤ b.toNat) && decide (b.toNat ≤ 191)
/-- what stands behind a sign's first byte: so many bytes, the second from lo to hi -/
def so (n lo hi : Nat) (r : List UInt8) : Bool := match n, r with
  | 2, a :: _ => decide (lo ≤ a.toNat) && decide (a.toNat ≤ hi)
  | 3, a :: b :: _ => (decide (lo ≤ a.toNat) && decide (a.toNat ≤ hi)) && goesOn b
  | 4, a :: b :: c :: _ => (decide (lo ≤ a.toNat) && decide (a.toNat ≤ hi)) && (goesOn b && goesOn c)
  | _, _ => false
def signOk (k : Nat × Nat × Nat × Nat × Nat) (r : List UInt8) : Bool := so k.2.1 k.2.2.2.1 k.2.2.2.2 r
/-- whole signs, behind so many bytes -/
def vs : Nat → List UInt8 → Bool
  | _, [] => true
  | k + 1, _ :: r => vs k r
  | 0, c :: r => bif decide (c.toNat < 128) then vs 0 r else (signOk (lead c) r && vs ((lead c).2.1 - 1) r)
/-- Go's utf8.ValidString -/
def valid (l : List UInt8) : Bool := vs 0 l
theorem vs_drop : ∀ (k : Nat) (l : List UInt8), vs k l = vs 0 (l.drop k)
  | 0, l => by simp
  | k + 1, [] => by simp [vs]
  | k + 1, c :: r => by rw [vs, vs_drop k r, List.drop_succ_cons]
theorem vs_asc : ∀ (n : Nat) (l : List UInt8), n ≤ l.length → (∀ i, i < n → (l.getD i 0).toNat < 128) → vs 0 l = vs 0 (l.drop n)
  | 0, l, _, _ => by simp
  | n + 1, [], h, _ => by simp at h
  | n + 1, c :: r, h, ha => by
    have h0 := ha 0 (by omega)
    simp only [List.getD_cons_zero] at h0
    rw [vs, List.drop_succ_cons, ← vs_asc n r (by simpa using h) fun i hi => by simpa using ha (i + 1) (by omega)]
    simp [h0]
theorem vs_lead {c : UInt8} (r : List UInt8) (h : 128 ≤ c.toNat) : vs 0 (c :: r) = (signOk (lead c) r && vs 0 (r.drop ((lead c).2.1 - 1))) := by
  rw [vs, vs_drop ((lead c).2.1 - 1)]
  simp [show ¬ c.toNat < 128 by omega]
theorem vs_byte {c : UInt8} (r : List UInt8) (h : c.toNat < 128) : vs 0 (c :: r) = vs 0 r := by
  rw [vs]
  simp [h]
abbrev top : Int := 9259542123273814144
theorem asc8 {x : Int} {p : Nat → Bool} {l : List UInt8} (h : Hi x p) (h0 : bits .and .u64 x top = 0) (hl : 8 ≤ l.length) (hp : ∀ i, i < 8 → p i = false → (l.getD i 0).toNat < 128) : vs 0 l = vs 0 (l.drop 8) :=
  vs_asc 8 l hl fun i hi => hp i hi (h.none h0 i hi)
theorem drew_grown (w : World) : w.grownBy w.drew none := grown_drew _ _
theorem fast_ok (l : List UInt8) (hl : l.length ≤ 1000000) (w : World) : ∃ l' w', iter (f39.l0 C) [st l] w = some (.exit 2 [st l'] w') ∧ vs 0 l' = vs 0 l ∧ l'.length ≤ l.length ∧ w.grownBy w' none := by
  have key := iter_down (f := f39.l0 C) (fun d ws w1 => ∃ l1 : List UInt8, ws = [st l1] ∧ l1.length = d ∧ vs 0 l1 = vs 0 l ∧ l1.length ≤ l.length ∧ w.grownBy w1 none)
    (fun r => ∃ l' w', r = .exit 2 [st l'] w' ∧ vs 0 l' = vs 0 l ∧ l'.length ≤ l.length ∧ w.grownBy w' none) (by
      rintro d ws w1 ⟨l1, rfl, hd, hv, hle, gr⟩
      have hs : ∀ ty, prun Tryz.prog (Builtin.len_ #[9] ty #[st l1]) = some (.int .i64 l1.length) := fun ty => str_len Tryz.underlying9 ty l1
      by_cases h32 : 32 < l1.length
      · obtain ⟨x0, c0, y0⟩ := word_ok l1 (by omega) w1.drew
        obtain ⟨x1, c1, y1⟩ := word_ok (l1.drop 8) (by simp; omega) w1.drew.drew
        obtain ⟨x2, c2, y2⟩ := word_ok (l1.drop 16) (by simp; omega) w1.drew.drew.drew
        obtain ⟨x3, c3, y3⟩ := word_ok (l1.drop 24) (by simp; omega) w1.drew.drew.drew.drew
        have s1 := str_from (P := Tryz.prog) Tryz.underlying9 l1 .i64 8 (by omega)
        have s2 := str_from (P := Tryz.prog) Tryz.underlying9 l1 .i64 16 (by omega)
        have s3 := str_from (P := Tryz.prog) Tryz.underlying9 l1 .i64 24 (by omega)
        have s4 := str_from (P := Tryz.prog) Tryz.underlying9 l1 .i64 32 (by omega)
        have y := (y0.or y1).or (y2.or y3)
        have hlt : (32 : Int) < l1.length := by omega
        have gd : w.grownBy w1.drew.drew.drew.drew.drew none := grown_step (grown_step (grown_step (grown_step (grown_step gr (drew_grown _)) (drew_grown _)) (drew_grown _)) (drew_grown _)) (drew_grown _)
        obtain ⟨X, hX⟩ : ∃ X, X = bits .or .u64 (bits .or .u64 x0 x1) (bits .or .u64 x2 x3) := ⟨_, rfl⟩
        rw [← hX] at y
        have po := fun t a b => p_or (P := Tryz.prog) t a b .u64 (bits .or .u64 x0 x1) (bits .or .u64 x2 x3)
        rw [← hX] at po
        rw [show ((8 : Nat) : Int) = 8 from rfl] at s1
        rw [show ((16 : Nat) : Int) = 16 from rfl] at s2
        rw [show ((24 : Nat) : Int) = 24 from rfl] at s3
        rw [show ((32 : Nat) : Int) = 32 from rfl] at s4
        by_cases hz : bits .and .u64 X top = 0
        · refine .inl ⟨(l1.drop 32).length, _, w1.drew.drew.drew.drew.drew, by simp; omega, ?_, ⟨l1.drop 32, rfl, rfl, ?_, by simp; omega, gd⟩⟩
          · simp [f39.l0, hs, hlt, c0, c1, c2, c3, s1, s2, s3, s4, po, p_or, p_and, hz, wantedV, pickV, chkThen]
          · have n := y.none hz
            rw [← hv, asc8 y hz (l := l1) (by omega) (fun i hi hp => by simp at hp; exact hp.1.1)]
            rw [asc8 y hz (l := l1.drop 8) (by simp; omega) (fun i hi hp => by simp at hp; simpa using hp.1.2)]
            rw [List.drop_drop, asc8 y hz (l := l1.drop (8 + 8)) (by simp; omega) (fun i hi hp => by simp at hp; simpa using hp.2.1)]
            rw [List.drop_drop, asc8 y hz (l := l1.drop (8 + 8 + 8)) (by simp; omega) (fun i hi hp => by simp at hp; simpa using hp.2.2)]
            rw [List.drop_drop]
        · refine .inr ⟨.exit 2 [st l1] w1.drew.drew.drew.drew.drew, ?_, ⟨l1, _, rfl, hv, hle, gd⟩, by simp⟩
          simp [f39.l0, hs, hlt, c0, c1, c2, c3, s1, s2, s3, s4, po, p_or, p_and, hz, wantedV, pickV, chkThen]
      · refine .inr ⟨.exit 2 [st l1] w1.drew, ?_, ⟨l1, _, rfl, hv, hle, grown_step gr (drew_grown _)⟩, by simp⟩
        have hlt : ¬ (32 : Int) < l1.length := by omega
        simp [f39.l0, hs, hlt, wantedV, pickV, chkThen]) l.length _ w ⟨l, rfl, rfl, rfl, Nat.le_refl _, grown_refl _ _⟩
  obtain ⟨r, h1, l', w', rfl, h2, h3, h4⟩ := key
  exact ⟨l', w', h1, h2, h3, h4⟩
end Go.Sh.YtkghbcadnbojgaaGreatDoor
