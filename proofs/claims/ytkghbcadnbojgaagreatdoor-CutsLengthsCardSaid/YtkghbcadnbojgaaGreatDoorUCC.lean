/- cuts: numbers as texts, by the kernel. Conditions: those of each statement. -/
import Derived.Test.YtkghbcadnbojgaaGreatDoorUCB
namespace Go.Sh.YtkghbcadnbojgaaGreatDoor
open Go Go.Proofs Go.RowKit Go.Sh.Ev
set_option linter.unusedVariables false
set_option linter.unusedSimpArgs false
set_option maxRecDepth 100000
/-- the variables that the reckoned runs read -/
noncomputable def gl2 : Globs := fun b => bif Nat.beq b 3 then flatD Go.Proofs.YtkghbcadnbojgaaGreatDoor.Rows.laid_dailies_timecode_table else bif Nat.beq b 7 then flatD Go.Proofs.YtkghbcadnbojgaaGreatDoor.Rows.laid_internal_strconv_uint64pow10 else none
theorem globOk_grown {G : Globs} {w w' : World} (h : GlobOk G w) (g : w.grownBy w' none) : GlobOk G w' := by
  intro b l hl i V hi
  have h1 : Rd w (some ⟨b, 0, none⟩) l := fun j v hj => by
    rw [addL, Nat.zero_add]
    exact h b l hl j v hj
  have := h1.grown g i V hi
  rwa [addL, Nat.zero_add] at this
/-- a number below 1000 as a text -/
def dec (k : Nat) : List UInt8 := bif Nat.blt k 10 then [UInt8.ofNat (48 + k)] else bif Nat.blt k 100 then [UInt8.ofNat (48 + k / 10), UInt8.ofNat (48 + k % 10)] else [UInt8.ofNat (48 + k / 100), UInt8.ofNat (48 + k / 10 % 10), UInt8.ofNat (48 + k % 10)]
theorem dec_len (k : Nat) : (dec k).length ≤ 3 := by
  unfold dec
  cases Nat.blt k 10 <;> cases Nat.blt k 100 <;> simp
noncomputable def strIs (x : Option (AV × AH)) (l : List UInt8) : Bool := match x with
  | some (.v (.string b), _) => b.data.toList == l
  | _ => false
noncomputable def decAt (k : Nat) : Bool := strIs (bRun Tryz.prog gl2 1000 annA (fun _ => false) 60 48 [.v (.int .i64 k)] ⟨0, .leaf⟩) (dec k) && strIs (bRun Tryz.prog gl2 1000 annA (fun _ => false) 60 91 [.v (.int .i64 k)] ⟨0, .leaf⟩) (dec k)
noncomputable def decTo (a : Nat) : Nat → Bool := fun n => Nat.rec true (fun i r => decAt (a + i) && r) n
theorem dec_0 : decTo 0 100 = true := by kernel_rfl
theorem dec_1 : decTo 100 100 = true := by kernel_rfl
theorem decTo_at {a : Nat} : ∀ {n i : Nat}, decTo a n = true → i < n → decAt (a + i) = true
  | 0, i, _, h => by omega
  | n + 1, i, h, hi => by
    have h' : (decAt (a + n) && decTo a n) = true := h
    simp only [Bool.and_eq_true] at h'
    by_cases e : i = n
    · rw [e]; exact h'.1
    · exact decTo_at h'.2 (by omega)
theorem dec_at {k : Nat} (hk : k < 200) : decAt k = true := by
  by_cases h : k < 100
  · have := decTo_at dec_0 h
    rwa [Nat.zero_add] at this
  · have := decTo_at dec_1 (i := k - 100) (by omega)
    rwa [show 100 + (k - 100) = k by omega] at this
theorem closed_str {f : FuncId} {a : Value} {l : List UInt8} {w : World} (hG : GlobOk gl2 w) (h : strIs (bRun Tryz.prog gl2 1000 annA (fun _ => false) 60 f [.v a] ⟨0, .leaf⟩) l = true) :
    ∃ w', run Tryz.prog annA noPrim f #[a] w = some (st l, w') ∧ w.grownBy w' none := by
  unfold strIs at h
  split at h
  · rename_i b H' hr
    have rel : Rel w (fun _ => none) ⟨0, .leaf⟩ w := ⟨⟨grown_refl _ _, fun k o hk => by simp at hk, fun j k oj ok b m m' hj => by simp at hj, fun k o b m hk h => by cases h⟩, fun k _ => rfl⟩
    obtain ⟨ρ', V, w', _, r', v', e'⟩ := bRun_ok (prim := noPrim) (isPrim := fun _ => false) (fun _ _ _ _ => rfl) hG 60 f [.v a] _ _ _ hr _ w [a] rel rfl
    simp only [g, Option.some.injEq] at v'
    subst v'
    have hb : b = ⟨l.toArray⟩ := by
      have : b.data.toList = l := by simpa using h
      rw [← this]
    subst hb
    exact ⟨w', e', r'.grown⟩
  · cases h
theorem digits_ok {w : World} (hG : GlobOk gl2 w) {k : Nat} (hk : k < 200) : ∃ w', C 48 #[.int .i64 k] w = some (st (dec k), w') ∧ w.grownBy w' none := by
  have h := dec_at hk
  simp only [decAt, Bool.and_eq_true] at h
  obtain ⟨w', h1, g1⟩ := closed_str hG h.1
  exact ⟨w', told_run rfl h1, g1⟩
theorem itoa_ok {w : World} (hG : GlobOk gl2 w) {k : Nat} (hk : k < 200) : ∃ w', C 91 #[.int .i64 k] w = some (st (dec k), w') ∧ w.grownBy w' none := by
  have h := dec_at hk
  simp only [decAt, Bool.and_eq_true] at h
  obtain ⟨w', h1, g1⟩ := closed_str hG h.2
  exact ⟨w', told_run rfl h1, g1⟩
end Go.Sh.YtkghbcadnbojgaaGreatDoor
