/- cuts: utf8's tables; which texts are whole signs. Conditions: those of each statement. -/
import Derived.Test.YtkghbcadnbojgaaGreatDoorUC4
import Derived.Test.YtkghbcadnbojgaaGreatDoorShGlob
import Derived.Test.YtkghbcadnbojgaaGreatDoorRows
namespace Go.Sh.YtkghbcadnbojgaaGreatDoor
open Go Go.Proofs Go.RowKit Go.Sh.Ev
set_option linter.unusedVariables false
set_option linter.unusedSimpArgs false
set_option maxRecDepth 100000
/-- utf8's table of first bytes -/
def firsts : List Nat := List.replicate 128 240 ++ List.replicate 66 241 ++ List.replicate 30 2 ++ [19] ++ List.replicate 12 3 ++ [35, 3, 3] ++ [52, 4, 4, 4, 68] ++ List.replicate 11 241
def fcs : List Value := firsts.map fun (n : Nat) => Value.int .u8 n
/-- utf8's table of what may come second -/
def accs : List (Nat × Nat) := [(128, 191), (160, 191), (128, 159), (144, 191), (128, 143)] ++ List.replicate 11 (0, 0)
def acs : List Value := accs.flatMap fun x => [Value.int .u8 x.1, Value.int .u8 x.2]
theorem first_lit : flatD Go.Proofs.YtkghbcadnbojgaaGreatDoor.Rows.laid_unicode_utf8_first = some fcs := by kernel_rfl
theorem acc_lit : flatD Go.Proofs.YtkghbcadnbojgaaGreatDoor.Rows.laid_unicode_utf8_acceptRanges = some acs := by kernel_rfl
/-- both tables -/
structure Ut (w : World) : Prop where
  f : Rd w (some ⟨1, 0, none⟩) fcs
  a : Rd w (some ⟨2, 0, none⟩) acs
theorem Ut.grown {w w' : World} (h : Ut w) (g : w.grownBy w' none) : Ut w' := ⟨h.f.grown g, h.a.grown g⟩
/-- by a sign's first byte: how many bytes, from where to where the second -/
def kinds : List (Nat × Nat × Nat × Nat × Nat) := [(241, 1, 15, 0, 0), (2, 2, 0, 128, 191), (19, 3, 1, 160, 191), (3, 3, 0, 128, 191), (35, 3, 2, 128, 159), (52, 4, 3, 144, 191), (4, 4, 0, 128, 191), (68, 4, 4, 128, 143)]
def kindOf (x : Nat) : Nat × Nat × Nat × Nat × Nat := (kinds.find? fun k => k.1 == x).getD (0, 0, 0, 0, 0)
/-- a sign's first byte -/
def lead (c : UInt8) : Nat × Nat × Nat × Nat × Nat := kindOf (firsts.getD c.toNat 0)
theorem firsts_hi : ∀ n, n < 128 → (kinds.map (·.1)).contains (firsts.getD (n + 128) 0) = true := by decide
theorem ar_index {t e : TypeId} {n : Nat} {i : TypeInfo} (ht : Tryz.prog.underlying t = some (.array n e)) (hi : Tryz.prog.info? e = some i) (b o : Nat) (k : IntKind) (j : Nat) (hj : j < n) : prun Tryz.prog (Instr.indexAt t (.pointer (some ⟨b, o, none⟩)) (.int k j)) = some (.pointer (some ⟨b, o + j * i.size, none⟩)) := by
  have h2 : (j : Int) < n := by omega
  unfold Instr.indexAt
  simp only [asIntOf, prun_bind, prun_pure, prun_underlying ht, Option.bind_some, Instr.sureAddr]
  have hs : prun Tryz.prog (sizeOf e) = some i.size := by
    unfold sizeOf typeInfo
    simp [prun_bind, hi]
  simp [h2, hs, prun_bind, addL]
theorem ut_first {w : World} (T : Ut w) (c : UInt8) (hc : 128 ≤ c.toNat) : ∃ k ∈ kinds, lead c = k ∧ prun Tryz.prog (Instr.indexAt 150 (.pointer (some ⟨1, 0, none⟩)) (.int .u8 c.toNat)) = some (.pointer (some ⟨1, c.toNat, none⟩)) ∧ w.cell? ⟨1, c.toNat, none⟩ = some (.int .u8 k.1) := by
  have hb := c.toNat_lt
  have h := firsts_hi (c.toNat - 128) (by omega)
  rw [show c.toNat - 128 + 128 = c.toNat by omega] at h
  have hx : firsts[c.toNat]? = some (firsts.getD c.toNat 0) := by
    have : c.toNat < firsts.length := by rw [show firsts.length = 256 from by decide]; omega
    simp [List.getElem?_eq_getElem this]
  obtain ⟨x, hxx⟩ : ∃ x, x = firsts.getD c.toNat 0 := ⟨_, rfl⟩
  rw [← hxx] at h hx
  have hl : lead c = kindOf x := by rw [lead, ← hxx]
  have ix := ar_index (t := 150) Tryz.underlying150 inf5 1 0 .u8 c.toNat (by omega)
  rw [size5, Nat.mul_one, Nat.zero_add] at ix
  have hr := T.f c.toNat (.int .u8 x) (by rw [fcs, List.getElem?_map, hx]; rfl)
  rw [addL, Nat.zero_add] at hr
  have : x = 241 ∨ x = 2 ∨ x = 19 ∨ x = 3 ∨ x = 35 ∨ x = 52 ∨ x = 4 ∨ x = 68 := by simpa [kinds] using h
  refine ⟨kindOf x, ?_, hl, ix, ?_⟩
  · rcases this with rfl | rfl | rfl | rfl | rfl | rfl | rfl | rfl <;> decide
  · rcases this with rfl | rfl | rfl | rfl | rfl | rfl | rfl | rfl <;> exact hr
/-- what is done with a first byte -/
theorem ut_kind {w : World} (T : Ut w) {k : Nat × Nat × Nat × Nat × Nat} (hk : k ∈ kinds) :
    (∀ t x y, prun Tryz.prog (do eqGuard .and t x y (.int .u8 k.1) (.int .u8 7); binOp .and t (.int .u8 k.1) (.int .u8 7)) = some (.int .u8 k.2.1)) ∧
    prun Tryz.prog (convert 5 3 (.int .u8 k.2.1)) = some (.int .i64 k.2.1) ∧
    (∀ t x y, prun Tryz.prog (do eqGuard .shr t x y (.int .u8 k.1) (.int .u64 4); binOp .shr t (.int .u8 k.1) (.int .u64 4)) = some (.int .u8 k.2.2.1)) ∧
    prun Tryz.prog (Instr.indexAt 153 (.pointer (some ⟨2, 0, none⟩)) (.int .u8 k.2.2.1)) = some (.pointer (some ⟨2, k.2.2.1 * 2, none⟩)) ∧
    rrun Tryz.prog (Instr.loadAt 152 (.pointer (some ⟨2, k.2.2.1 * 2, none⟩))) w = some (.agg #[.int .u8 k.2.2.2.1, .int .u8 k.2.2.2.2]) := by
  have ix : ∀ j, j < 16 → prun Tryz.prog (Instr.indexAt 153 (.pointer (some ⟨2, 0, none⟩)) (.int .u8 (j : Nat))) = some (.pointer (some ⟨2, j * 2, none⟩)) := fun j hj => by
    have := ar_index (t := 153) Tryz.underlying153 inf152 2 0 .u8 j (by omega)
    rwa [size152, Nat.zero_add] at this
  have ld : ∀ j (x y : Nat), accs[j]? = some (x, y) → rrun Tryz.prog (Instr.loadAt 152 (.pointer (some ⟨2, j * 2, none⟩))) w = some (.agg #[.int .u8 x, .int .u8 y]) := fun j x y h => by
    have h0 : acs[j * 2]? = some (.int .u8 x) ∧ acs[j * 2 + 1]? = some (.int .u8 y) := by
      have hj : j < 16 := (List.getElem?_eq_some_iff.mp h).1
      rcases (show j = 0 ∨ j = 1 ∨ j = 2 ∨ j = 3 ∨ j = 4 ∨ j = 5 ∨ j = 6 ∨ j = 7 ∨ j = 8 ∨ j = 9 ∨ j = 10 ∨ j = 11 ∨ j = 12 ∨ j = 13 ∨ j = 14 ∨ j = 15 by omega) with rfl | rfl | rfl | rfl | rfl | rfl | rfl | rfl | rfl | rfl | rfl | rfl | rfl | rfl | rfl | rfl <;> cases h <;> exact ⟨rfl, rfl⟩
    refine ld152 (a := ⟨2, j * 2, none⟩) ?_ ?_
    · have := T.a _ _ h0.1
      rw [addL] at this ⊢
      simpa using this
    · have := T.a _ _ h0.2
      rw [addL] at this ⊢
      simpa using this
  simp only [kinds, List.mem_cons, List.not_mem_nil, or_false] at hk
  rcases hk with rfl | rfl | rfl | rfl | rfl | rfl | rfl | rfl <;> exact ⟨fun t x y => by rw [p_and]; rfl, by kernel_rfl, fun t x y => by rw [p_shr _ _ _ _ _ _ _ (by omega)]; rfl, ix _ (by decide), ld _ _ _ rfl⟩
end Go.Sh.YtkghbcadnbojgaaGreatDoor
