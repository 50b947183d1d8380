/- medium: each call as a pure step. Conditions: those of each statement. -/
import Derived.Test.YtokpgallfmpmkaaMP1
namespace Go.Sh.Ytokpgallfmpmkaa
open Go Go.Proofs Go.RowKit
set_option linter.unusedVariables false
set_option linter.unusedSimpArgs false
set_option maxRecDepth 100000
/-- a medium, as the document speaks of it -/
structure Pm where
  l : List UInt8
  dead : Bool
  armed : Int
  keep : Int
  g : List (Int × Int)
structure Pm.fit (s : Pm) : Prop where
  l : s.l.length ≤ 268435456
  g : s.g.length ≤ 4000000000
  a0 : 0 ≤ s.armed
  a1 : s.armed ≤ 9223372036854775807
  k0 : 0 ≤ s.keep
  k1 : s.keep ≤ 9223372036854775807
def inr (i k n : Int) : Prop := 0 ≤ i ∧ 0 ≤ k ∧ i ≤ n ∧ k ≤ n - i
instance (i k n : Int) : Decidable (inr i k n) := by unfold inr; infer_instance
def Pm.append (s : Pm) (x : List UInt8) : Int × Int × Pm :=
  if s.dead then (0, 152, s)
  else if s.armed = 1 then (0, 152, { s with l := s.l ++ x.take s.keep.toNat, dead := true, armed := 0 })
  else (s.l.length, 0, { s with l := s.l ++ x, armed := if s.armed = 0 then 0 else s.armed - 1 })
def Pm.arm (s : Pm) (n k : Int) : Int × Pm := if s.dead then (152, s) else if n < 0 ∨ k < 0 then (1, s) else (0, { s with armed := n, keep := k })
def Pm.revive (s : Pm) : Pm := { s with dead := false, armed := 0 }
def Pm.over (s : Pm) (i : Int) (x : List UInt8) : Int × Pm := if inr i x.length s.l.length then (0, { s with l := s.l.take i.toNat ++ x ++ s.l.drop (i.toNat + x.length) }) else (151, s)
def Pm.cut (s : Pm) (n : Int) : Int × Pm := if 0 ≤ n ∧ n ≤ s.l.length then (0, { s with l := s.l.take n.toNat }) else (151, s)
def Pm.forget (s : Pm) : Pm := { s with g := [] }
def Pm.read (s : Pm) (i k : Int) : List UInt8 × Int × Pm :=
  if s.dead then ([], 152, s) else if inr i k s.l.length then ((s.l.drop i.toNat).take k.toNat, 0, { s with g := s.g ++ [(i, k)] }) else ([], 151, s)
def Pm.pread (s : Pm) (a n i k : Int) : List UInt8 × Int × Pm := if s.dead then ([], 152, s) else if inr i k n then s.read (a + i) k else ([], 151, s)
/-- the program's medium -/
def PMd (w : World) (base M : Nat) (B L : Value) (s : Pm) : Prop := Med w base M 0 B s.l s.dead s.armed s.keep L s.g
/-- what a call does to a medium whose lists lie in a footprint -/
def Does (St : World → Value → Value → Pm → Prop) (FP : Value → Value → Nat → Prop) (w : World) (B L : Value) (r : Option (Value × World)) (val : Value) (s' : Pm) : Prop :=
  ∃ B' L' w', r = some (val, w') ∧ St w' B' L' s' ∧ Grew (FP B L) w w' ∧ ∀ k, FP B' L' k → FP B L k ∨ w.heap.size ≤ k
/-- .. that tells bytes -/
def Tells (St : World → Value → Value → Pm → Prop) (FP : Value → Value → Nat → Prop) (w : World) (B L : Value) (r : Option (Value × World)) (out : List UInt8) (e : Int) (s' : Pm) : Prop :=
  ∃ v B' L' w', r = some (.tuple #[v, .int .i64 e], w') ∧ St w' B' L' s' ∧ Grew (FP B L) w w' ∧ (∀ k, FP B' L' k → FP B L k ∨ w.heap.size ≤ k) ∧ Cl w w' 5 1 v out.length (bv out) ∧ ∀ k, FP B' L' k → v.ownBlock ≠ some k
theorem own_cut {w : World} {base : Nat} {e : TypeId} {A : Option Addr} {n c m : Nat} {xs : List Value} (h : w.ownsRow base e 1 (.slice A n c) n xs) (hm : m ≤ n) : w.ownsRow base e 1 (.slice A m c) m (xs.take m) := by
  have hx : xs.length = n := by simpa using h.1
  refine ⟨by rw [List.length_take]; omega, ?_⟩
  rcases h.2 with ⟨h1, h2⟩ | ⟨g, cap, cur, hv, hb, hg, hnc, hcm, hcs, ht⟩
  · cases h1
    have : m = 0 := by omega
    subst this
    exact .inl ⟨rfl, rfl⟩
  · simp only [Value.slice.injEq, true_and] at hv
    obtain ⟨rfl, rfl⟩ := hv
    refine .inr ⟨g, _, cur, rfl, hb, hg, by omega, hcm, hcs, ?_⟩
    rw [← ht, List.take_take]
    congr 1
    omega
section
variable {w : World} {base M : Nat} {B L : Value} {s : Pm}
theorem does_append (h : PMd w base M B L s) (hf : s.fit) {A : Option Addr} {n c : Nat} {x : List UInt8} (hx : x.length = n) (hc : n ≤ c) (hr : ∀ w', Grew (fp M B L) w w' → Rd w' A (bv x)) (hnil : A = none → c = 0) (hn : s.l.length + n ≤ 268435456) (hb : base ≤ w.heap.size) :
    Does (fun w B L s => PMd w base M B L s) (fp M) w B L (C 10 #[.pointer (some ⟨M, 0, none⟩), .slice A n c] w) (.tuple #[.int .i64 (s.append x).1, .int .i64 (s.append x).2.1]) (s.append x).2.2 := by
  obtain ⟨l, dead, armed, keep, g⟩ := s
  unfold PMd at h
  simp only at h hn
  cases dead with
  | true =>
    obtain ⟨w', h1, h2, h3⟩ := append_dead h (.slice A n c)
    exact ⟨B, L, w', by simpa [Pm.append] using h1, by simpa [PMd, Pm.append] using h2, h3, fun k hk => .inl hk⟩
  | false =>
    by_cases ha : armed = 1
    · subst ha
      obtain ⟨B', w', h1, h2, h3, h4⟩ := append_dies h hx hc hr hnil hn hf.k0 hb
      refine ⟨B', L, w', by simpa [Pm.append] using h1, ?_, h3, h4⟩
      simpa [PMd, Pm.append] using h2
    · obtain ⟨B', w', h1, h2, h3, h4⟩ := append_ok h hx hr hnil hn ha hf.a0 hf.a1 hb
      exact ⟨B', L, w', by simpa [Pm.append, ha] using h1, by simpa [PMd, Pm.append, ha] using h2, h3, h4⟩
theorem arm_arg {l : List UInt8} {armed keep : Int} {g : List (Int × Int)} (h : Med w base M 0 B l false armed keep L g) (n k : Int) (hn : n < 0 ∨ k < 0) : ∃ w', C 9 #[.pointer (some ⟨M, 0, none⟩), .int .i64 n, .int .i64 k] w = some (.int .i64 1, w') ∧ Med w' base M 0 B l false armed keep L g ∧ Grew (fp M B L) w w' := by
  obtain ⟨w1, h1, m1, g1⟩ := h.lock
  obtain ⟨w2, h2, m2, g2⟩ := m1.unlock
  refine ⟨w2, f9.run rfl ?_, m2, g1.step g2⟩
  by_cases h0 : n < 0
  · simp [f9, addL, h1, m1.cD, h0, h2, Res.after]
  · have hk : k < 0 := by omega
    simp [f9, addL, h1, m1.cD, h0, hk, h2, Res.after]
theorem does_arm (h : PMd w base M B L s) (n k : Int) : Does (fun w B L s => PMd w base M B L s) (fp M) w B L (C 9 #[.pointer (some ⟨M, 0, none⟩), .int .i64 n, .int .i64 k] w) (.int .i64 (s.arm n k).1) (s.arm n k).2 := by
  obtain ⟨l, dead, armed, keep, g⟩ := s
  unfold PMd at h
  simp only at h
  cases dead with
  | true =>
    obtain ⟨w', h1, h2, h3⟩ := arm_dead h n k
    exact ⟨B, L, w', by simpa [Pm.arm] using h1, by simpa [PMd, Pm.arm] using h2, h3, fun k hk => .inl hk⟩
  | false =>
    by_cases hn : n < 0 ∨ k < 0
    · obtain ⟨w', h1, h2, h3⟩ := arm_arg h n k hn
      exact ⟨B, L, w', by simpa [Pm.arm, hn] using h1, by simpa [PMd, Pm.arm, hn] using h2, h3, fun k hk => .inl hk⟩
    · obtain ⟨w', h1, h2, h3⟩ := arm_ok h n k (by omega) (by omega)
      exact ⟨B, L, w', by simpa [Pm.arm, hn] using h1, by simpa [PMd, Pm.arm, hn] using h2, h3, fun k hk => .inl hk⟩
theorem does_revive (h : PMd w base M B L s) : Does (fun w B L s => PMd w base M B L s) (fp M) w B L (C 13 #[.pointer (some ⟨M, 0, none⟩)] w) (.tuple #[]) s.revive := by
  obtain ⟨w', h1, h2, h3⟩ := revive_ok h
  exact ⟨B, L, w', h1, h2, h3, fun k hk => .inl hk⟩
theorem does_forget (h : PMd w base M B L s) : Does (fun w B L s => PMd w base M B L s) (fp M) w B L (C 20 #[.pointer (some ⟨M, 0, none⟩)] w) (.tuple #[]) s.forget := by
  obtain ⟨w', h1, h2, h3⟩ := forget_ok h
  exact ⟨B, .slice none 0 0, w', h1, h2, h3, fun k hk => by
    rcases hk with hk | hk | hk
    · exact .inl (.inl hk)
    · exact .inl (.inr (.inl hk))
    · simp [Value.ownBlock] at hk⟩
theorem does_cut (h : PMd w base M B L s) (hf : s.fit) (n : Int) : Does (fun w B L s => PMd w base M B L s) (fp M) w B L (C 40 #[.pointer (some ⟨M, 0, none⟩), .int .i64 n] w) (.int .i64 (s.cut n).1) (s.cut n).2 := by
  unfold PMd at h
  obtain ⟨w1, h1, m1, g1⟩ := h.lock
  obtain ⟨A, c, rfl, hc, hcm⟩ := own_form h.row
  have hl := hf.l
  by_cases hn : 0 ≤ n ∧ n ≤ s.l.length
  · obtain ⟨m, rfl⟩ : ∃ m : Nat, n = m := ⟨n.toNat, by omega⟩
    have hm : m ≤ s.l.length := by omega
    have hsl := sl22 A s.l.length c none (some (.int .i64 m)) none 0 m c (by
      have := bounds_hi (P := Try.prog) s.l.length c .i64 m (by omega) (by omega)
      rw [this]; rfl)
    have s1 := st22 (v := .slice A m c) rfl rfl (m1.cB) (m1.blk.frozen 2)
    have m2 : Med (w1.setCell ⟨M, 2, none⟩ (.slice A m c)) base M 1 (.slice A m c) (s.l.take m) s.dead s.armed s.keep L s.g := by
      have o := own_cut m1.row hm
      have e : (bv s.l).take m = bv (s.l.take m) := (bv_take _ _).symm
      rw [e] at o
      have hlen : (s.l.take m).length = m := by rw [List.length_take]; omega
      refine ⟨m1.blk.store2 2 _ rfl, m1.hM, ?_, m1.log.kept (grown_set M 2 _) (.inr m1.neL)⟩
      rw [hlen]
      exact o.kept (grown_set M 2 _) (.inr fun e => m1.neB (by
        cases A with
        | none => simp [Value.ownBlock] at e
        | some a => simpa [Value.ownBlock] using e))
    have g2 : Grew (fp M (.slice A s.l.length c) L) w1 (w1.setCell ⟨M, 2, none⟩ (.slice A m c)) := grew_set _ 2 _ (.inl rfl)
    obtain ⟨w3, h3, m3, g3⟩ := m2.unlock2
    have hn1 : ¬ (m : Int) < 0 := by omega
    have hn2 : ¬ (m : Int) > (s.l.length : Int) := by omega
    refine ⟨.slice A m c, L, w3, f40.run rfl ?_, by simpa [PMd, Pm.cut, hn] using m3, (g1.step g2).step (g3.weak fun k hk => .inl (.inl hk)), fun k hk => ?_⟩
    · simp at hsl
      simp [f40, addL, h1, hn1, m1.cB, hn2, hsl, s1, h3, Res.after, Pm.cut, hm]
    · rcases hk with hk | hk | hk
      · exact .inl (.inl hk)
      · exact .inl (.inr (.inl (by cases A <;> simp [Value.ownBlock] at hk ⊢; exact hk)))
      · exact .inl (.inr (.inr hk))
  · obtain ⟨w3, h3, m3, g3⟩ := m1.unlock
    refine ⟨.slice A s.l.length c, L, w3, f40.run rfl ?_, by simpa [PMd, Pm.cut, hn] using m3, g1.step g3, fun k hk => .inl hk⟩
    by_cases h0 : n < 0
    · simp [f40, addL, h1, h0, h3, Res.after, Pm.cut, hn]
    · have h2 : n > (s.l.length : Int) := by omega
      simp [f40, addL, h1, h0, m1.cB, h2, h3, Res.after, Pm.cut, hn]
end
end Go.Sh.Ytokpgallfmpmkaa
