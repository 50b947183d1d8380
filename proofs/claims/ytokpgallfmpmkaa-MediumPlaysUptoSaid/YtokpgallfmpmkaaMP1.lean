/- medium: what each call does, as a pure step, and what comes out is its owner's. Conditions: those of each statement. -/
import Derived.Test.YtokpgallfmpmkaaMD
import Derived.Test.YtokpgallfmpmkaaShFull
namespace Go.Sh.Ytokpgallfmpmkaa
open Go Go.Proofs Go.RowKit
set_option linter.unusedVariables false
set_option linter.unusedSimpArgs false
set_option maxRecDepth 100000
/-- a list that came out: it shows all of a row in new memory, or a part of its room -/
structure Cl (w0 w : World) (e sz : Nat) (v : Value) (n : Nat) (xs : List Value) : Prop where
  out : ∃ A c, v = .slice A n n ∧ n ≤ c ∧ w.ownsRow w0.heap.size e sz (.slice A n c) n xs
theorem clip_block (A : Option Addr) (n c c' : Nat) : (Value.slice A n c).ownBlock = (Value.slice A n c').ownBlock := by cases A <;> rfl
theorem Cl.grew {w0 w w' : World} {e sz : Nat} {v : Value} {n : Nat} {xs : List Value} {S : Nat → Prop} (h : Cl w0 w e sz v n xs) (hg : Grew S w w') (hs : ∀ k, v.ownBlock = some k → w0.heap.size ≤ k → k < w.heap.size → ¬ S k) : Cl w0 w' e sz v n xs := by
  obtain ⟨A, c, rfl, hc, o⟩ := h.out
  exact ⟨A, c, rfl, hc, own_grew o hg fun k hk => hs k ((clip_block A n n c).trans hk) (o.lt k hk).1 (o.lt k hk).2⟩
theorem Cl.ge {w0 w : World} {e sz : Nat} {v : Value} {n : Nat} {xs : List Value} (h : Cl w0 w e sz v n xs) {k : Nat} (hk : v.ownBlock = some k) : w0.heap.size ≤ k ∧ k < w.heap.size := by
  obtain ⟨A, c, rfl, hc, o⟩ := h.out
  exact o.lt k ((clip_block A n c n).trans hk)
theorem cl_of {w0 w w' : World} {e sz n : Nat} {v : Value} {xs : List Value} (h : w'.ownsRow w.heap.size e sz v n xs) (hw : w0.heap.size ≤ w.heap.size) : ∃ A c, v = .slice A n c ∧ n ≤ c ∧ Cl w0 w' e sz (.slice A n n) n xs := by
  obtain ⟨A, c, rfl, hc, _⟩ := own_form h
  exact ⟨A, c, rfl, hc, ⟨A, c, rfl, hc, own_rebase h fun k hk => Nat.le_trans hw (h.lt k hk).1⟩⟩
theorem cl_nil (w0 w : World) (e sz : Nat) : Cl w0 w e sz (.slice none 0 0) 0 [] := ⟨none, 0, rfl, Nat.le_refl _, World.ownsRow_nil w w0.heap.size e sz⟩
theorem Cl.rd {w0 w : World} {e sz : Nat} {v : Value} {n : Nat} {xs : List Value} (h : Cl w0 w e sz v n xs) : ∃ A, v = .slice A n n ∧ Rd w A xs := by
  obtain ⟨A, c, rfl, hc, o⟩ := h.out
  exact ⟨A, rfl, Rd.owned o⟩
section
variable {w : World} {base M : Nat} {B L : Value} {l : List UInt8} {dead : Bool} {armed keep : Int} {g : List (Int × Int)}
theorem bytes_cl (h : Med w base M 0 B l dead armed keep L g) (hl : l.length ≤ 268435456) : ∃ v w', C 17 #[.pointer (some ⟨M, 0, none⟩)] w = some (v, w') ∧ Med w' base M 0 B l dead armed keep L g ∧ Grew (fp M B L) w w' ∧ Cl w w' 5 1 v l.length (bv l) := by
  obtain ⟨w1, h1, m1, g1⟩ := h.lock
  obtain ⟨A, c, rfl, hc⟩ := own_form h.row
  obtain ⟨v2, w2, h2, o2, g2⟩ := clone_ok (A := A) (c := c) rfl (Rd.owned m1.row) (own_nil m1.row) (by omega)
  obtain ⟨A2, c2, rfl, hc2, O2⟩ := cl_of (w0 := w) o2 g1.size
  have m2 := m1.grew (grew_new (S := fun _ => False) g2) (fun _ _ h => h)
  obtain ⟨w3, h3, m3, g3⟩ := m2.unlock
  refine ⟨_, w3, f17.run rfl ?_, m3, (g1.step (grew_new g2)).step g3, O2.grew g3 fun k hv hk _ hf => ?_⟩
  · simp [f17, addL, h1, m1.cB, h2, clip_ok A2 _ c2 hc2, h3, Res.after]
  · have := (h.fpge k hf).2; omega
theorem log_cl (h : Med w base M 0 B l dead armed keep L g) (hl : g.length ≤ 8000000000000) : ∃ v w', C 18 #[.pointer (some ⟨M, 0, none⟩)] w = some (v, w') ∧ Med w' base M 0 B l dead armed keep L g ∧ Grew (fp M B L) w w' ∧ Cl w w' 40 2 v g.length (sc g) := by
  obtain ⟨w1, h1, m1, g1⟩ := h.lock
  obtain ⟨A, c, rfl, hc⟩ := own_form h.log
  obtain ⟨v2, w2, h2, o2, g2⟩ := clones_ok (A := A) (c := c) (Rd.owned m1.log) (own_nil m1.log) hl
  obtain ⟨A2, c2, rfl, hc2, O2⟩ := cl_of (w0 := w) o2 g1.size
  have m2 := m1.grew (grew_new (S := fun _ => False) g2) (fun _ _ h => h)
  obtain ⟨w3, h3, m3, g3⟩ := m2.unlock
  refine ⟨_, w3, f18.run rfl ?_, m3, (g1.step (grew_new g2)).step g3, O2.grew g3 fun k hv hk _ hf => ?_⟩
  · simp [f18, addL, h1, m1.cL, h2, clips_ok A2 _ c2 hc2, h3, Res.after]
  · have := (h.fpge k hf).2; omega
theorem read_cl1 (h : Med w base M 1 B l false armed keep L g) (i k : Nat) (hik : i + k ≤ l.length) (hl : l.length ≤ 268435456) (hg : g.length ≤ 8000000000000) (hb : base ≤ w.heap.size) :
    ∃ v L' w', C 30 #[.pointer (some ⟨M, 0, none⟩), .int .i64 i, .int .i64 k] w = some (.tuple #[v, .int .i64 0], w') ∧ Med w' base M 1 B l false armed keep L' (g ++ [((i : Int), (k : Int))]) ∧ Grew (fp M B L) w w' ∧
      (∀ j, L'.ownBlock = some j → L.ownBlock = some j ∨ w.heap.size ≤ j) ∧ Cl w w' 5 1 v k (bv ((l.drop i).take k)) ∧ (∀ j, fp M B L' j → v.ownBlock ≠ some j) := by
  obtain ⟨A, c, rfl, hc, hcm⟩ := own_form h.row
  have hli := lies_ok i k l.length (by omega) (by omega) w
  have hd : decide ((0 : Int) ≤ i ∧ (0 : Int) ≤ k ∧ (i : Int) ≤ l.length ∧ (k : Int) ≤ l.length - i) = true := by simp; omega
  rw [hd] at hli
  obtain ⟨W1, hW1⟩ : ∃ W1, W1 = w.alloc (.cells #[.int .i64 i, .int .i64 k] 40) := ⟨_, rfl⟩
  have ga : w.grownBy W1 none := hW1 ▸ World.grownBy_alloc w _ none
  have hsz : W1.heap.size = w.heap.size + 1 := by rw [hW1]; simp
  have r1 : Rd W1 (some ⟨w.heap.size, 0, none⟩) (sc [((i : Int), (k : Int))]) := by
    rw [hW1]
    intro j v hj
    rw [addL, Nat.zero_add, World.cell?_alloc_new]
    simpa [sc] using hj
  obtain ⟨L', W2, h2, o2, g2, k2⟩ := e_append2 (P := Try.prog) (ty := 41) Try.underlying41 inf40 zero40 size40 bytes40 rfl (by decide) (own_new h.log ga) (A := some ⟨w.heap.size, 0, none⟩) (m := 1) (c := 1) (news := sc [((i : Int), (k : Int))]) (by simp [sc_length]) r1 (fun h => by cases h) (sc_one _) (by simp [maxLen]; omega) (by omega) (by omega)
  rw [← sc_append] at o2
  have g2' : Grew (fp M (.slice A l.length c) L) w W2 := (grew_new ga).trans (grew_of (S := fp M (.slice A l.length c) L) g2 fun k hk => .inl (.inr (.inr hk))) fun _ hk => .inl hk
  have bM := (h.blk.grown ga (by simp)).grown g2 h.neL
  have rB := own_beside (own_new h.row ga) g2 fun k h1 h2 => h.neBL h1 h2
  have hM : L'.ownBlock ≠ some M := own_blk_ne o2 bM (by decide)
  have s1 : erun Try.prog (Instr.storeAt 41 (.pointer (some ⟨M, 6, none⟩)) L') W2 = some ((), W2.setCell ⟨M, 6, none⟩ L') := by
    obtain ⟨A2, c2, rfl, _⟩ := own_form o2
    exact st41 rfl rfl (bM.cell_eq 6 rfl) (bM.frozen 6)
  have m3 : Med (W2.setCell ⟨M, 6, none⟩ L') base M 1 (.slice A l.length c) l false armed keep L' (g ++ [((i : Int), (k : Int))]) :=
    ⟨bM.store2 6 _ rfl, h.hM, rB.kept (grown_set M 6 _) (.inr h.neB), by
      have := o2.kept (grown_set M 6 L') (.inr hM)
      simpa using this⟩
  have g3 : Grew (fp M (.slice A l.length c) L) w (W2.setCell ⟨M, 6, none⟩ L') := g2'.step (grew_set _ 6 _ (.inl rfl))
  obtain ⟨W3, hW3⟩ : ∃ W3, W3 = W2.setCell ⟨M, 6, none⟩ L' := ⟨_, rfl⟩
  rw [← hW3] at s1 m3 g3
  have rr := (Rd.owned m3.row).sliced i (i + k) c 1 (by omega) (by omega)
  have hsl := sl22 A l.length c (some (.int .i64 i)) (some (.int .i64 ((i : Int) + k))) none i (i + k) c (by
    have := bounds_lohi (P := Try.prog) l.length c .i64 .i64 i ((i : Int) + k) (by omega) (by omega) (by omega)
    rw [this]; congr 2)
  have e1 : ((bv l).drop (i * 1)).take ((i + k - i) * 1) = bv ((l.drop i).take k) := by simp [bv_take, bv_drop]
  rw [e1] at rr
  have e2 : IntKind.i64.wrap ((i : Int) + k) = i + k := wrap_i64 (by omega) (by omega)
  have e3 : i + k - i = k := by omega
  rw [e3] at hsl
  obtain ⟨v4, W4, h4, o4, g4⟩ := clone_ok (w := W3) (n := k) (c := c - i) (by simp; omega) rr (sliced_nil (own_nil h.row) (Nat.le_refl _)) (by omega)
  obtain ⟨A5, c5, rfl, hc5, O5⟩ := cl_of (w0 := w) o4 g3.size
  simp only [Nat.mul_one] at h4 hsl
  refine ⟨_, L', W4, f30.run rfl ?_, m3.grew (grew_new (S := fun _ => False) g4) (fun _ _ h => h), g3.step (grew_new g4), fun j hj => ?_, O5, fun j hj hv => by
    have h1 := (m3.fpge j hj).2
    have h2 := (o4.lt j (by cases A5 <;> exact hv)).1
    omega⟩
  · have h2' := h2
    rw [hW1] at h2'
    simp [f30, addL, h.cD, h.cB, hli, bool_not, h.cL, build40, bs41_1, h2', s1, m3.cB, e2, hsl, h4, clip_ok A5 _ c5 hc5]
  · rcases k2 j hj with h | h
    · exact .inl h
    · exact .inr (by omega)
theorem read_cl (h : Med w base M 0 B l false armed keep L g) (i k : Nat) (hik : i + k ≤ l.length) (hl : l.length ≤ 268435456) (hg : g.length ≤ 8000000000000) (hb : base ≤ w.heap.size) :
    ∃ v L' w', C 16 #[.pointer (some ⟨M, 0, none⟩), .int .i64 i, .int .i64 k] w = some (.tuple #[v, .int .i64 0], w') ∧ Med w' base M 0 B l false armed keep L' (g ++ [((i : Int), (k : Int))]) ∧ Grew (fp M B L) w w' ∧
      (∀ j, fp M B L' j → fp M B L j ∨ w.heap.size ≤ j) ∧ Cl w w' 5 1 v k (bv ((l.drop i).take k)) ∧ (∀ j, fp M B L' j → v.ownBlock ≠ some j) := by
  obtain ⟨w1, h1, m1, g1⟩ := h.lock
  obtain ⟨v, L', w2, h2, m2, g2, k2, O2, d2⟩ := read_cl1 m1 i k hik hl hg (Nat.le_trans hb g1.size)
  obtain ⟨w3, h3, m3, g3'⟩ := m2.unlock2
  have g3 : Grew (fp M B L') w2 w3 := g3'.weak fun k hk => .inl (.inl hk)
  have hk : ∀ j, fp M B L' j → fp M B L j ∨ w.heap.size ≤ j := by
    rintro j (h | h | h)
    · exact .inl (.inl h)
    · exact .inl (.inr (.inl h))
    · rcases k2 j h with h | h
      · exact .inl (.inr (.inr h))
      · exact .inr (Nat.le_trans g1.size h)
  have O2' : Cl w w3 5 1 v k (bv ((l.drop i).take k)) := by
    have Om : Cl w w2 5 1 v k (bv ((l.drop i).take k)) := by
      obtain ⟨A, c, a1, a2, a3⟩ := O2.out
      exact ⟨A, c, a1, a2, own_rebase a3 fun k hk => Nat.le_trans g1.size (a3.lt k hk).1⟩
    refine Om.grew g3' fun a ha _ _ hf => ?_
    have hf' : a = M := hf
    have := (O2.ge ha).1
    have e3 : w1.drew.heap.size = w1.heap.size := rfl
    have := m1.blk.lt
    omega
  refine ⟨v, L', w3, f16.run rfl ?_, m3, (g1.step g2).trans g3 hk, hk, O2', d2⟩
  simp [f16, addL, h1, h2, h3, Res.after, Res.done, outcome]
variable {P : Nat} {i k : Nat}
theorem pread_cl (h : Med w base M 0 B l false armed keep L g) (b : Blk w P 84 [.pointer (some ⟨M, 0, none⟩), .int .i64 i, .int .i64 k]) (x y : Nat) (hxy : x + y ≤ k) (hik : i + k ≤ l.length) (hl : l.length ≤ 268435456) (hg : g.length ≤ 8000000000000) (hb : base ≤ w.heap.size) :
    ∃ v L' w', C 93 #[.pointer (some ⟨P, 0, none⟩), .int .i64 x, .int .i64 y] w = some (.tuple #[v, .int .i64 0], w') ∧ Med w' base M 0 B l false armed keep L' (g ++ [(((i + x : Nat) : Int), (y : Int))]) ∧ Grew (fp M B L) w w' ∧
      (∀ j, fp M B L' j → fp M B L j ∨ w.heap.size ≤ j) ∧ Cl w w' 5 1 v y (bv ((l.drop (i + x)).take y)) ∧ (∀ j, fp M B L' j → v.ownBlock ≠ some j) := by
  obtain ⟨w1, h1, m1, g1⟩ := h.lock
  have hPM : P ≠ M := fun e => by subst e; have h1 := b; have h2 := h.blk; unfold Blk at h1 h2; rw [h1] at h2; simp at h2
  have hPf : ¬ fp M B L P := by
    rintro (hf | hf | hf)
    · exact hPM hf
    · exact own_blk_ne h.row b (by decide) hf
    · exact own_blk_ne h.log b (by decide) hf
  have b1 := b.grew g1 hPf
  have hli := lies_ok x y k (by omega) (by omega) w1
  have hd : decide ((0 : Int) ≤ x ∧ (0 : Int) ≤ y ∧ (x : Int) ≤ k ∧ (y : Int) ≤ k - x) = true := by simp; omega
  rw [hd] at hli
  have m1' : Med w1.drew base M 1 B l false armed keep L g := ⟨m1.blk, m1.hM, m1.row, m1.log⟩
  obtain ⟨v, L', w2, h2, m2, g2, k2, O2, d2⟩ := read_cl1 m1' (i + x) y (by omega) hl hg (Nat.le_trans hb g1.size)
  obtain ⟨w3, h3, m3, g3'⟩ := m2.unlock2
  have g3 : Grew (fp M B L') w2 w3 := g3'.weak fun k hk => .inl (.inl hk)
  have hk : ∀ j, fp M B L' j → fp M B L j ∨ w.heap.size ≤ j := by
    rintro j (h | h | h)
    · exact .inl (.inl h)
    · exact .inl (.inr (.inl h))
    · rcases k2 j h with h | h
      · exact .inl (.inr (.inr h))
      · exact .inr (Nat.le_trans g1.size h)
  have O2' : Cl w w3 5 1 v y (bv ((l.drop (i + x)).take y)) := by
    have Om : Cl w w2 5 1 v y (bv ((l.drop (i + x)).take y)) := by
      obtain ⟨A, c, a1, a2, a3⟩ := O2.out
      exact ⟨A, c, a1, a2, own_rebase a3 fun k hk => Nat.le_trans g1.size (a3.lt k hk).1⟩
    refine Om.grew g3' fun a ha _ _ hf => ?_
    have hf' : a = M := hf
    have := (O2.ge ha).1
    have e3 : w1.drew.heap.size = w1.heap.size := rfl
    have := m1.blk.lt
    omega
  have e1 : IntKind.i64.wrap ((i : Int) + x) = (i : Int) + x := wrap_i64 (by omega) (by omega)
  rw [show ((i + x : Nat) : Int) = (i : Int) + x by omega] at h2
  refine ⟨v, L', w3, f93.run rfl ?_, m3, (g1.step ((Grew.drew _ _).step g2)).trans g3 hk, hk, O2', d2⟩
  simp [f93, addL, b.cell_eq 0 rfl, h1, b1.cell_eq 0 rfl, m1.cD, b1.cell_eq 1 rfl, b1.cell_eq 2 rfl, hli, bool_not, e1, h2, h3, Res.after, Res.done, outcome, chkThen]
end
end Go.Sh.Ytokpgallfmpmkaa
