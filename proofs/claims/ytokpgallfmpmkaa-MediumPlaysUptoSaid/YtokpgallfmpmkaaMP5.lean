/- medium: copying into a row; Overwrite. Conditions: those of each statement. -/
import Derived.Test.YtokpgallfmpmkaaMP4
import Derived.Laws.IdiomCopy
namespace Go.Sh
open Go Go.RowKit
set_option linter.unusedVariables false
set_option linter.unusedSimpArgs false
theorem own_copy {P : Program} {w : World} {base : Nat} {A : Option Addr} {n c : Nat} {xs : List Value} {dT sT ty e : TypeId} {i : TypeInfo} (h : w.ownsRow base e 1 (.slice A n c) n xs) (ht : P.underlying dT = some (.slice e)) (hi : P.info? e = some i) (hs : i.size = 1)
    {o sn sc : Nat} {A' : Option Addr} {cs : List Value} (ho : o ≤ n) (hr : Rd w A' cs) (hl : cs.length = sn) (hnil : A' = none → sc = 0) (h1 : ∀ v ∈ cs, v.oneCell' = true) :
    ∃ w', erun P (Builtin.copy_ #[dT, sT] ty #[.slice (if c = o then A else A.map (·.add (o * 1))) (n - o) (c - o), .slice A' sn sc]) w = some (.int .i64 (min sn (n - o) : Nat), w') ∧
      w'.ownsRow base e 1 (.slice A n c) n (xs.take o ++ cs.take (n - o) ++ xs.drop (o + min sn (n - o))) ∧ w.grownBy w' (Value.slice A n c).ownBlock := by
  have hx : xs.length = n := by simpa using h.1
  by_cases h0 : min sn (n - o) = 0
  · have hz : Nat.min sn (n - o) = 0 := h0
    have := run_copy_none (P := P) w dT sT ty e (if c = o then A else A.map (·.add (o * 1))) A' (n - o) (c - o) sn sc ht (by rw [hi]; simp [hs]) hz
    refine ⟨w, by rw [h0]; exact erun_of_run (by simpa [goInt] using this), ?_, grown_refl _ _⟩
    have : xs.take o ++ cs.take (n - o) ++ xs.drop (o + min sn (n - o)) = xs := by
      rw [h0, Nat.add_zero]
      have : cs.take (n - o) = [] := by
        rcases Nat.eq_zero_or_pos sn with h2 | h2
        · have : cs = [] := List.eq_nil_of_length_eq_zero (by omega)
          simp [this]
        · have : n - o = 0 := by omega
          simp [this]
      rw [this, List.append_nil, List.take_append_drop]
    rw [this]; exact h
  · rcases h.2 with ⟨h2, h3⟩ | ⟨g, cap, cur, hv, hb, hg, hnc, hcm, hcs, htake⟩
    · omega
    · simp only [Value.slice.injEq, true_and] at hv
      obtain ⟨rfl, rfl⟩ := hv
      have hco : c ≠ o := by omega
      cases A' with
      | none =>
        have : cs = [] := hr
        subst this
        simp at hl
        omega
      | some a =>
        have hn : (cs.take (n - o)).length = Nat.min sn (n - o) := by rw [List.length_take, hl]; exact Nat.min_comm _ _
        have hcl : cur.toList.length = c := by rw [Array.length_toList, hcs]; omega
        have hfit : o + (cs.take (n - o)).length ≤ cur.size := by
          have h5 : cur.size = c := by omega
          have h6 : Nat.min sn (n - o) ≤ n - o := Nat.min_le_right _ _
          rw [hn]; omega
        have key := run_copy_row (P := P) w dT sT ty e g o (n - o) (c - o) a sn sc cur e (cs.take (n - o)) ht (by rw [hi]; simp [hs]) hg hn
          (fun j v hj => hr j v (by rw [List.getElem?_take] at hj; split at hj <;> first | exact hj | cases hj)) hfit (fun v hv => h1 v (List.mem_of_mem_take hv))
        rw [hn] at key
        have hd : (if c = o then (some ⟨g, 0, none⟩ : Option Addr) else (some ⟨g, 0, none⟩ : Option Addr).map (·.add (o * 1))) = some ⟨g, o, none⟩ := by
          rw [if_neg hco]; simp [addL]
        rw [hd]
        refine ⟨_, erun_of_run key, ?_, ⟨rfl, rfl, rfl, by simp [World.setRow], fun k _ hk => ?_⟩⟩
        · have e1 := setRow_heap w g cur (cur.toList.take o ++ cs.take (n - o) ++ cur.toList.drop (o + Nat.min sn (n - o))).toArray e (0, 0) hg
          have hmin : Nat.min sn (n - o) = min sn (n - o) := rfl
          have hm2 : min sn (n - o) ≤ n - o := Nat.min_le_right _ _
          have hl1 : (cur.toList.take o).length = o := by rw [List.length_take]; omega
          have hl2 : (cs.take (n - o)).length = min sn (n - o) := hn
          refine ⟨?_, .inr ⟨g, c, _, rfl, hb, e1, hnc, hcm, ?_, ?_⟩⟩
          · simp only [List.length_append, List.length_take, List.length_drop]; omega
          · simp only [List.size_toArray, List.length_append, hl1, hl2, List.length_drop, hcl, hmin]; omega
          · rw [← htake]
            simp only [Nat.mul_one, hmin]
            rw [List.take_append, List.take_of_length_le (by rw [List.length_append, hl1, hl2]; omega), List.length_append, hl1, hl2, List.take_take, Nat.min_eq_left ho, List.drop_take]
        · have hne : g ≠ k := fun e => hk (by rw [e]; rfl)
          simp [World.setRow, Array.getElem?_modify, hne]
end Go.Sh
namespace Go.Sh.Ytokpgallfmpmkaa
open Go Go.Proofs Go.RowKit
set_option linter.unusedVariables false
set_option linter.unusedSimpArgs false
set_option maxRecDepth 100000
section
variable {w : World} {base M P : Nat} {B L : Value} {l : List UInt8} {dead : Bool} {armed keep : Int} {g : List (Int × Int)}
theorem over_bv (l x : List UInt8) (i : Nat) (h : i + x.length ≤ l.length) : (bv l).take i ++ (bv x).take (l.length - i) ++ (bv l).drop (i + min x.length (l.length - i)) = bv (l.take i ++ x ++ l.drop (i + x.length)) := by
  rw [Nat.min_eq_left (by omega), List.take_of_length_le (l := bv x) (by simp [bv]; omega), bv_append, bv_append, bv_take, bv_drop]
theorem does_over {s : Pm} (h : PMd w base M B L s) (hf : s.fit) {A : Option Addr} {n c : Nat} {x : List UInt8} (hx : x.length = n) (hr : ∀ w', Grew (fp M B L) w w' → Rd w' A (bv x)) (hnil : A = none → c = 0) (hn : n ≤ 268435456) (i : Int) :
    Does (fun w B L s => PMd w base M B L s) (fp M) w B L (C 38 #[.pointer (some ⟨M, 0, none⟩), .int .i64 i, .slice A n c] w) (.int .i64 (s.over i x).1) (s.over i x).2 := by
  unfold PMd at h
  obtain ⟨w1, h1, m1, g1⟩ := h.lock
  obtain ⟨A0, c0, rfl, hc, hcm⟩ := own_form h.row
  have hl := hf.l
  have hli := lies_ok i n s.l.length (by omega) (by omega) w1
  subst hx
  by_cases hi : inr i x.length s.l.length
  · obtain ⟨a, b, rfl, hb, hab⟩ := inr_nat hi
    obtain rfl : x.length = b := by omega
    rw [decide_eq_true (show (0 ≤ (a : Int) ∧ 0 ≤ (x.length : Int) ∧ (a : Int) ≤ s.l.length ∧ (x.length : Int) ≤ s.l.length - a) from hi)] at hli
    have hsl := sl22 A0 s.l.length c0 (some (.int .i64 a)) none none a s.l.length c0 (by
      have := bounds_lo (P := Try.prog) s.l.length c0 .i64 a (by omega) (by omega)
      rw [this]; rfl)
    obtain ⟨w2, h2, o2, g2⟩ := own_copy (P := Try.prog) (dT := 22) (sT := 22) (ty := 3) (A' := A) (sn := x.length) (sc := c) (cs := bv x) m1.row Try.underlying22 inf5 size5 (o := a) (by omega) (hr _ g1) (by simp) hnil (bv_one x)
    rw [over_bv _ _ _ hab] at o2
    simp only [Nat.mul_one] at h2
    have hlen : (s.l.take a ++ x ++ s.l.drop (a + x.length)).length = s.l.length := by simp; omega
    have m2 : Med w2 base M 1 (.slice A0 s.l.length c0) (s.l.take a ++ x ++ s.l.drop (a + x.length)) s.dead s.armed s.keep L s.g := by
      refine ⟨m1.blk.grown g2 m1.neB, m1.hM, by rw [hlen]; exact o2, m1.log.kept g2 ?_⟩
      cases hL : L.ownBlock with
      | none => exact .inl rfl
      | some k => exact .inr fun e => m1.neBL e.symm hL
    have g2' : Grew (fp M (.slice A0 s.l.length c0) L) w1 w2 := grew_of g2 fun k hk => .inl (.inr (.inl hk))
    obtain ⟨w3, h3, m3, g3⟩ := m2.unlock
    refine ⟨.slice A0 s.l.length c0, L, w3, f38.run rfl ?_, by simpa [PMd, Pm.over, hi] using m3, (g1.step g2').step g3, fun k hk => .inl hk⟩
    simp [f38, addL, h1, m1.cB, hli, bool_not, hsl, h2, h3, Res.after, Pm.over, hi]
  · rw [decide_eq_false (show ¬ (0 ≤ i ∧ 0 ≤ (x.length : Int) ∧ i ≤ s.l.length ∧ (x.length : Int) ≤ s.l.length - i) from hi)] at hli
    obtain ⟨w3, h3, m3, g3⟩ := m1.unlock
    refine ⟨.slice A0 s.l.length c0, L, w3, f38.run rfl ?_, by simpa [PMd, Pm.over, hi] using m3, g1.step g3, fun k hk => .inl hk⟩
    simp [f38, addL, h1, m1.cB, hli, bool_not, h3, Res.after, Pm.over, hi]
end
section
variable {W w : World} {X : Asn W.heap.size} {M P : Nat} {s s' : Pm}
theorem m_over {A : Option Addr} {N c0 : Nat} {Z : List UInt8} (x : Sat W (medA M s * (rowA 5 1 (.slice A N c0) N (bv Z) * X)) w) (hf : s.fit) (hA : A ≠ none) {n c : Nat} (hn : n ≤ Z.length) (hl : n ≤ 268435456) (i : Int) :
    ∃ w', C 38 #[.pointer (some ⟨M, 0, none⟩), .int .i64 i, .slice A n c] w = some (.int .i64 (s.over i (Z.take n)).1, w') ∧ Sat W (medA M (s.over i (Z.take n)).2 * (rowA 5 1 (.slice A N c0) N (bv Z) * X)) w' := x.does fun B L h hX => by
  refine does_over h hf (by rw [List.length_take]; omega) (fun w' hg => ?_) (fun h => absurd h hA) hl i
  obtain ⟨S, P, Q, d, e, ⟨p, _⟩, q⟩ := hX w' hg
  have := own_rd p n
  rwa [← bv_take] at this
end
end Go.Sh.Ytokpgallfmpmkaa
