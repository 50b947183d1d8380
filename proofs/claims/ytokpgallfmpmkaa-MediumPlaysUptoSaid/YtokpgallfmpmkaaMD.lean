/- medium: what each method answers, of a medium that nobody else holds. Conditions: those of each statement. -/
import Derived.Test.YtokpgallfmpmkaaML
import Derived.Test.YtokpgallfmpmkaaMF
import Derived.Test.YtokpgallfmpmkaaShEq
import Derived.Lib.SlBytesConst
import Derived.DataElems
namespace Go.Sh.Ytokpgallfmpmkaa
open Go Go.Proofs Go.RowKit
set_option linter.unusedVariables false
set_option linter.unusedSimpArgs false
noncomputable abbrev C := R mu

/-- spans, as cells -/
def sc (g : List (Int × Int)) : List Value := g.flatMap fun p => [.int .i64 p.1, .int .i64 p.2]
/-- a medium: its lock's state, its bytes, how it stands, its log -/
structure Med (w : World) (base M : Nat) (s : Int) (B : Value) (l : List UInt8) (dead : Bool) (armed keep : Int) (L : Value) (g : List (Int × Int)) : Prop where
  blk : Blk w M 80 [.int .i32 s, .int .u32 0, B, .bool dead, .int .i64 armed, .int .i64 keep, L]
  hM : base ≤ M
  row : w.ownsRow base 5 1 B l.length (bv l)
  log : w.ownsRow base 40 2 L g.length (sc g)
/-- the blocks that it has -/
def fp (M : Nat) (B L : Value) : Nat → Prop := fun k => k = M ∨ B.ownBlock = some k ∨ L.ownBlock = some k
section
variable {w : World} {base M : Nat} {s : Int} {B : Value} {l : List UInt8} {dead : Bool} {armed keep : Int} {L : Value} {g : List (Int × Int)}
theorem Med.neB (h : Med w base M s B l dead armed keep L g) : B.ownBlock ≠ some M := own_blk_ne h.row h.blk (by decide)
theorem Med.neL (h : Med w base M s B l dead armed keep L g) : L.ownBlock ≠ some M := own_blk_ne h.log h.blk (by decide)
theorem Med.neBL (h : Med w base M s B l dead armed keep L g) {k : Nat} (h1 : B.ownBlock = some k) (h2 : L.ownBlock = some k) : False := own_own_ne h.row h.log (by decide) h1 h2
theorem Med.grew (h : Med w base M s B l dead armed keep L g) {S : Nat → Prop} {w' : World} (hg : Grew S w w') (hn : ∀ k, fp M B L k → ¬ S k) : Med w' base M s B l dead armed keep L g :=
  ⟨h.blk.grew hg (hn _ (.inl rfl)), h.hM, own_grew h.row hg fun k hk => hn k (.inr (.inl hk)), own_grew h.log hg fun k hk => hn k (.inr (.inr hk))⟩
theorem Med.fpge (h : Med w base M s B l dead armed keep L g) : ∀ k, fp M B L k → base ≤ k ∧ k < w.heap.size := by
  rintro k (rfl | hk | hk)
  · exact ⟨h.hM, h.blk.lt⟩
  · exact h.row.lt k hk
  · exact h.log.lt k hk
/-- a write of one of its own cells -/
theorem Med.write (h : Med w base M s B l dead armed keep L g) (i : Nat) (v : Value) {s' : Int} {dead' : Bool} {armed' keep' : Int}
    (hc : ([.int .i32 s, .int .u32 0, B, .bool dead, .int .i64 armed, .int .i64 keep, L] : List Value).set i v = [.int .i32 s', .int .u32 0, B, .bool dead', .int .i64 armed', .int .i64 keep', L]) :
    Med (w.setCell ⟨M, i, none⟩ v) base M s' B l dead' armed' keep' L g ∧ Grew (fp M B L) w (w.setCell ⟨M, i, none⟩ v) :=
  ⟨⟨h.blk.store2 i v hc, h.hM, h.row.kept (grown_set M i v) (.inr h.neB), h.log.kept (grown_set M i v) (.inr h.neL)⟩, grew_set w i v (.inl rfl)⟩
theorem Med.lock (h : Med w base M 0 B l dead armed keep L g) : ∃ w1, C 27 #[.pointer (some ⟨M, 0, none⟩)] w = some (.tuple #[], w1) ∧ Med w1 base M 1 B l dead armed keep L g ∧ Grew (fp M B L) w w1 :=
  ⟨_, run_prim (mu_lock (h.blk.cell_eq 0 rfl) (h.blk.frozen 0)), h.write 0 _ rfl⟩
theorem Med.unlock (h : Med w base M 1 B l dead armed keep L g) : ∃ w1, mu.dfr 28 #[.pointer (some ⟨M, 0, none⟩)] w = some (.tuple #[], w1) ∧ Med w1 base M 0 B l dead armed keep L g ∧ Grew (fp M B L) w w1 :=
  ⟨_, mu_unlock (h.blk.cell_eq 0 rfl) (h.blk.frozen 0), h.write 0 _ rfl⟩
theorem Med.unlock2 (h : Med w base M 1 B l dead armed keep L g) : ∃ w1, mu.dfr 28 #[.pointer (some ⟨M, 0, none⟩)] w = some (.tuple #[], w1) ∧ Med w1 base M 0 B l dead armed keep L g ∧ Grew (fun k => k = M) w w1 :=
  ⟨_, mu_unlock (h.blk.cell_eq 0 rfl) (h.blk.frozen 0), (h.write 0 _ rfl).1, grew_set w 0 _ rfl⟩
theorem Med.cB (h : Med w base M s B l dead armed keep L g) : w.cell? ⟨M, 2, none⟩ = some B := h.blk.cell_eq 2 rfl
theorem Med.cD (h : Med w base M s B l dead armed keep L g) : w.cell? ⟨M, 3, none⟩ = some (.bool dead) := h.blk.cell_eq 3 rfl
theorem Med.cA (h : Med w base M s B l dead armed keep L g) : w.cell? ⟨M, 4, none⟩ = some (.int .i64 armed) := h.blk.cell_eq 4 rfl
theorem Med.cK (h : Med w base M s B l dead armed keep L g) : w.cell? ⟨M, 5, none⟩ = some (.int .i64 keep) := h.blk.cell_eq 5 rfl
theorem Med.cL (h : Med w base M s B l dead armed keep L g) : w.cell? ⟨M, 6, none⟩ = some L := h.blk.cell_eq 6 rfl

theorem dead_ok (h : Med w base M 0 B l dead armed keep L g) : ∃ w', C 12 #[.pointer (some ⟨M, 0, none⟩)] w = some (.bool dead, w') ∧ Med w' base M 0 B l dead armed keep L g ∧ Grew (fp M B L) w w' := by
  obtain ⟨w1, h1, m1, g1⟩ := h.lock
  obtain ⟨w2, h2, m2, g2⟩ := m1.unlock
  refine ⟨w2, f12.run rfl ?_, m2, g1.step g2⟩
  simp [f12, addL, h1, m1.cD, h2, Res.after]
theorem size_ok (h : Med w base M 0 B l dead armed keep L g) : ∃ w', C 11 #[.pointer (some ⟨M, 0, none⟩)] w = some (.int .i64 l.length, w') ∧ Med w' base M 0 B l dead armed keep L g ∧ Grew (fp M B L) w w' := by
  obtain ⟨w1, h1, m1, g1⟩ := h.lock
  obtain ⟨w2, h2, m2, g2⟩ := m1.unlock
  obtain ⟨A, c, rfl, _⟩ := own_form h.row
  refine ⟨w2, f11.run rfl ?_, m2, g1.step g2⟩
  simp [f11, addL, h1, m1.cB, h2, Res.after]

theorem bool_not (b : Bool) : prun Try.prog (Op.unary .not (.bool b)) = some (.bool !b) := id (by kernel_rfl)
theorem build80 : prun Try.prog (Instr.build 80 #[]) = some (.agg #[.int .i32 0, .int .u32 0, .slice none 0 0, .bool false, .int .i64 0, .int .i64 0, .slice none 0 0]) := id (by kernel_rfl)
theorem build80b (v : Value) : prun Try.prog (Instr.build 80 #[(1, v)]) = some (.agg #[.int .i32 0, .int .u32 0, v, .bool false, .int .i64 0, .int .i64 0, .slice none 0 0]) ∨ True := .inr trivial
theorem build80s (A : Option Addr) (n c : Nat) : prun Try.prog (Instr.build 80 #[(1, .slice A n c)]) = some (.agg #[.int .i32 0, .int .u32 0, .slice A n c, .bool false, .int .i64 0, .int .i64 0, .slice none 0 0]) := id (by kernel_rfl)
theorem build40 (a b : Int) : prun Try.prog (Instr.build 40 #[(0, .int .i64 a), (1, .int .i64 b)]) = some (.agg #[.int .i64 a, .int .i64 b]) := id (by kernel_rfl)
theorem build84 (a : Option Addr) (x y : Int) : prun Try.prog (Instr.build 84 #[(0, .pointer a), (1, .agg #[.int .i64 x, .int .i64 y])]) = some (.agg #[.pointer a, .int .i64 x, .int .i64 y]) := id (by kernel_rfl)
theorem bs41_1 (a b : Int) (w : World) : erun Try.prog (Instr.buildSlice 41 1 #[(0, .agg #[.int .i64 a, .int .i64 b])]) w = some (.slice (some ⟨w.heap.size, 0, none⟩) 1 1, w.alloc (.cells #[.int .i64 a, .int .i64 b] 40)) := id (by kernel_rfl)
theorem min3 (a b : Int) : prun Try.prog (Builtin.min_ #[3, 3] 3 #[.int .i64 a, .int .i64 b]) = some (.int .i64 (if b < a then b else a)) := id (by kernel_rfl)
theorem sc_length (g : List (Int × Int)) : (sc g).length = g.length * 2 := by induction g with
  | nil => rfl
  | cons p r ih => simp [sc] at ih ⊢; omega
theorem sc_append (g g' : List (Int × Int)) : sc (g ++ g') = sc g ++ sc g' := by simp [sc]
theorem sc_one (g : List (Int × Int)) : ∀ u ∈ sc g, u.oneCell' = true := by
  intro u hu
  simp [sc] at hu
  obtain ⟨a, b, _, h | h⟩ := hu <;> (subst h; rfl)

/-- a new one -/
theorem new_ok (w : World) {base : Nat} (hb : base ≤ w.heap.size) : ∃ w', C 21 #[] w = some (.pointer (some ⟨w.heap.size, 0, none⟩), w') ∧ Med w' base w.heap.size 0 (.slice none 0 0) [] false 0 0 (.slice none 0 0) [] ∧ w.grownBy w' none := by
  refine ⟨w.alloc (.cells #[.int .i32 0, .int .u32 0, .slice none 0 0, .bool false, .int .i64 0, .int .i64 0, .slice none 0 0] 80), f21.run rfl ?_, ⟨Blk.new w 80 [.int .i32 0, .int .u32 0, .slice none 0 0, .bool false, .int .i64 0, .int .i64 0, .slice none 0 0], hb, World.ownsRow_nil _ _ _ _, World.ownsRow_nil _ _ _ _⟩, World.grownBy_alloc w _ none⟩
  simp [f21, build80, box_any, Value.cells]

/-- what came out: n elements, in memory that is new (since w0), or none -/
structure Out (w0 w : World) (v : Value) (n : Nat) (xs : List Value) : Prop where
  out : ∃ A c, v = .slice A n c ∧ n ≤ c ∧ Rd w A xs ∧ (A = none → c = 0) ∧ (∀ a, A = some a → w0.heap.size ≤ a.block)
theorem Out.grew {w0 w w' : World} {v : Value} {n : Nat} {xs : List Value} (h : Out w0 w v n xs) {S : Nat → Prop} (hg : Grew S w w') (hs : ∀ k, v.ownBlock = some k → w0.heap.size ≤ k → ¬ S k) : Out w0 w' v n xs := by
  obtain ⟨A, c, rfl, h2, h3, h4, h5⟩ := h.out
  exact ⟨A, c, rfl, h2, h3.grew hg fun a ha => hs _ (by subst ha; rfl) (h5 a ha), h4, h5⟩

theorem Out.grew2 {w0 w w' : World} {v : Value} {n : Nat} {xs : List Value} (h : Out w0 w v n xs) {S : Nat → Prop} (hg : Grew S w w') (hs : ∀ k, v.ownBlock = some k → w0.heap.size ≤ k → k < w.heap.size → ¬ S k) : Out w0 w' v n xs := by
  obtain ⟨A, c, rfl, h2, h3, h4, h5⟩ := h.out
  refine ⟨A, c, rfl, h2, ?_, h4, h5⟩
  by_cases hx : xs = []
  · subst hx; exact Rd.nil _ _
  · cases A with
    | none => exact h3
    | some a => exact h3.grew hg fun b hb => by cases hb; exact hs _ rfl (h5 a rfl) (Rd.lt h3 hx)
/-- bytes, again -/
theorem clone_ok {w : World} {A : Option Addr} {n c : Nat} {l : List UInt8} (hl : l.length = n) (hr : Rd w A (bv l)) (hnil : A = none → c = 0) (hn : n ≤ 140737488355328) :
    ∃ v w', C 26 #[.slice A n c] w = some (v, w') ∧ w'.ownsRow w.heap.size 5 1 v n (bv l) ∧ w.grownBy w' none := by
  cases A with
  | none =>
    have hl0 : l = [] := by
      have h : bv l = [] := hr
      cases l with
      | nil => rfl
      | cons x r => simp [bv] at h
    subst hl0
    simp at hl
    subst hl
    obtain rfl := hnil rfl
    exact ⟨.slice none 0 0, w, f26.run rfl (by simp [f26]), World.ownsRow_nil _ _ _ _, grown_refl _ _⟩
  | some a =>
    have hown := World.ownsRow_made (e := 5) (size := 1) w #[] 0 (Nat.le_refl _) (by simp [maxLen]) (by simp)
    have hg := World.grownBy_alloc w (.cells #[] 5) none
    obtain ⟨v', w', h1, h2, h3⟩ := ap22 (ty := 22) hown (A := some a) (m := n) (c := c) (news := bv l) (by simp [hl]) (hr.grown hg) hnil (bv_one l) (by simp [maxLen]; omega) (by omega) (by simp)
    refine ⟨v', w', f26.run rfl ?_, by simpa using h2, grown_trans hg h3 (fun k hk => by simp [Value.ownBlock] at hk; omega)⟩
    simp [f26, h1]
/-- spans, again -/
theorem clones_ok {w : World} {A : Option Addr} {c : Nat} {g : List (Int × Int)} (hr : Rd w A (sc g)) (hnil : A = none → c = 0) (hn : g.length ≤ 8000000000000) :
    ∃ v w', C 33 #[.slice A g.length c] w = some (v, w') ∧ w'.ownsRow w.heap.size 40 2 v g.length (sc g) ∧ w.grownBy w' none := by
  cases A with
  | none =>
    have hl0 : g = [] := by
      have h : sc g = [] := hr
      cases g with
      | nil => rfl
      | cons x r => simp [sc] at h
    subst hl0
    obtain rfl := hnil rfl
    exact ⟨.slice none 0 0, w, f33.run rfl (by simp [f33]), World.ownsRow_nil _ _ _ _, grown_refl _ _⟩
  | some a =>
    have hown := World.ownsRow_made (e := 40) (size := 2) w #[] 0 (Nat.le_refl _) (by simp [maxLen]) (by simp)
    have hg := World.grownBy_alloc w (.cells #[] 40) none
    obtain ⟨v', w', h1, h2, h3⟩ := ap41 (ty := 41) hown (A := some a) (m := g.length) (c := c) (news := sc g) (by simp [sc_length]) (hr.grown hg) hnil (sc_one g) (by simp [maxLen]; omega) (by omega) (by simp)
    refine ⟨v', w', f33.run rfl ?_, by simpa using h2, grown_trans hg h3 (fun k hk => by simp [Value.ownBlock] at hk; omega)⟩
    simp [f33, h1]
theorem clip_ok (A : Option Addr) (n c : Nat) (hc : n ≤ c) (w : World) : C 31 #[.slice A n c] w = some (.slice A n n, w) := by
  have hsl := sl22 A n c none (some (.int .i64 n)) (some (.int .i64 n)) 0 n n (by
    have := bounds_himax (P := Try.prog) n c .i64 .i64 n n (by omega) (by omega) (by omega)
    rw [this]; rfl)
  refine f31.run rfl ?_
  simp [f31, hsl]
theorem clips_ok (A : Option Addr) (n c : Nat) (hc : n ≤ c) (w : World) : C 32 #[.slice A n c] w = some (.slice A n n, w) := by
  have hsl := sl41 A n c none (some (.int .i64 n)) (some (.int .i64 n)) 0 n n (by
    have := bounds_himax (P := Try.prog) n c .i64 .i64 n n (by omega) (by omega) (by omega)
    rw [this]; rfl)
  refine f32.run rfl ?_
  simp [f32, hsl]
theorem out_clipped {w0 w w' : World} {e : TypeId} {size n : Nat} {v : Value} {xs : List Value} (h : w'.ownsRow w.heap.size e size v n xs) (hw : w0.heap.size ≤ w.heap.size) : ∃ A c, v = .slice A n c ∧ n ≤ c ∧ Out w0 w' (.slice A n n) n xs := by
  obtain ⟨A, c, rfl, hc, _⟩ := own_form h
  refine ⟨A, c, rfl, hc, ⟨A, n, rfl, Nat.le_refl _, Rd.owned h, fun hA => ?_, fun a ha => ?_⟩⟩
  · have := own_nil h hA; omega
  · subst ha
    exact Nat.le_trans hw (h.lt a.block rfl).1
theorem lies_ok (a n size : Int) (h0 : 0 ≤ size) (h1 : size ≤ 9223372036854775807) (w : World) : C 29 #[.int .i64 a, .int .i64 n, .int .i64 size] w = some (.bool (decide (0 ≤ a ∧ 0 ≤ n ∧ a ≤ size ∧ n ≤ size - a)), w) := by
  refine f29.run rfl ?_
  by_cases c1 : 0 ≤ a
  · by_cases c2 : 0 ≤ n
    · by_cases c3 : a ≤ size
      · have e : IntKind.i64.wrap (size - a) = size - a := wrap_i64 (by omega) (by omega)
        by_cases c4 : n ≤ size - a
        · simp [f29, c1, c2, c3, c4, e]
        · simp [f29, c1, c2, c3, c4, e]
      · simp [f29, c1, c2, c3]
    · simp [f29, c1, c2]
  · simp [f29, c1]
end
section
variable {w : World} {base M : Nat} {B : Value} {l : List UInt8} {dead : Bool} {armed keep : Int} {L : Value} {g : List (Int × Int)}
theorem bytes_ok (h : Med w base M 0 B l dead armed keep L g) (hl : l.length ≤ 268435456) : ∃ v w', C 17 #[.pointer (some ⟨M, 0, none⟩)] w = some (v, w') ∧ Med w' base M 0 B l dead armed keep L g ∧ Grew (fp M B L) w w' ∧ Out w w' v l.length (bv l) := by
  obtain ⟨w1, h1, m1, g1⟩ := h.lock
  obtain ⟨A, c, rfl, hc⟩ := own_form h.row
  obtain ⟨v2, w2, h2, o2, g2⟩ := clone_ok (A := A) (c := c) rfl (Rd.owned m1.row) (own_nil m1.row) (by omega)
  obtain ⟨A2, c2, rfl, hc2, O2⟩ := out_clipped (w0 := w) o2 g1.size
  have m2 := m1.grew (grew_new (S := fun _ => False) g2) (fun _ _ h => h)
  obtain ⟨w3, h3, m3, g3⟩ := m2.unlock
  refine ⟨_, w3, f17.run rfl ?_, m3, (g1.step (grew_new g2)).step g3, O2.grew g3 fun k hv hk hf => ?_⟩
  · simp [f17, addL, h1, m1.cB, h2, clip_ok A2 _ c2 hc2, h3, Res.after]
  · have := (h.fpge k hf).2; omega
theorem log_ok (h : Med w base M 0 B l dead armed keep L g) (hl : g.length ≤ 8000000000000) : ∃ v w', C 18 #[.pointer (some ⟨M, 0, none⟩)] w = some (v, w') ∧ Med w' base M 0 B l dead armed keep L g ∧ Grew (fp M B L) w w' ∧ Out w w' v g.length (sc g) := by
  obtain ⟨w1, h1, m1, g1⟩ := h.lock
  obtain ⟨A, c, rfl, hc⟩ := own_form h.log
  obtain ⟨v2, w2, h2, o2, g2⟩ := clones_ok (A := A) (c := c) (Rd.owned m1.log) (own_nil m1.log) hl
  obtain ⟨A2, c2, rfl, hc2, O2⟩ := out_clipped (w0 := w) o2 g1.size
  have m2 := m1.grew (grew_new (S := fun _ => False) g2) (fun _ _ h => h)
  obtain ⟨w3, h3, m3, g3⟩ := m2.unlock
  refine ⟨_, w3, f18.run rfl ?_, m3, (g1.step (grew_new g2)).step g3, O2.grew g3 fun k hv hk hf => ?_⟩
  · simp [f18, addL, h1, m1.cL, h2, clips_ok A2 _ c2 hc2, h3, Res.after]
  · have := (h.fpge k hf).2; omega
theorem forget_ok (h : Med w base M 0 B l dead armed keep L g) : ∃ w', C 20 #[.pointer (some ⟨M, 0, none⟩)] w = some (.tuple #[], w') ∧ Med w' base M 0 B l dead armed keep (.slice none 0 0) [] ∧ Grew (fp M B L) w w' := by
  obtain ⟨w1, h1, m1, g1⟩ := h.lock
  have s1 := st41 (v := .slice none 0 0) rfl rfl m1.cL (m1.blk.frozen 6)
  have g2 := grew_set (S := fp M B L) w1 (b := M) 6 (.slice none 0 0) (.inl rfl)
  have m2 : Med (w1.setCell ⟨M, 6, none⟩ (.slice none 0 0)) base M 1 B l dead armed keep (.slice none 0 0) [] :=
    ⟨m1.blk.store2 6 _ rfl, h.hM, m1.row.kept (grown_set M 6 _) (.inr m1.neB), World.ownsRow_nil _ _ _ _⟩
  obtain ⟨w3, h3, m3, g3⟩ := m2.unlock
  refine ⟨w3, f20.run rfl ?_, m3, (g1.step g2).trans g3 fun k hk => ?_⟩
  · simp [f20, addL, h1, s1, h3, Res.after, Res.done, outcome]
  · rcases hk with hk | hk | hk
    · exact .inl (.inl hk)
    · exact .inl (.inr (.inl hk))
    · cases hk
theorem revive_ok (h : Med w base M 0 B l dead armed keep L g) : ∃ w', C 13 #[.pointer (some ⟨M, 0, none⟩)] w = some (.tuple #[], w') ∧ Med w' base M 0 B l false 0 keep L g ∧ Grew (fp M B L) w w' := by
  obtain ⟨w1, h1, m1, g1⟩ := h.lock
  have s1 := st4 (v := .bool false) rfl rfl m1.cD (m1.blk.frozen 3)
  obtain ⟨m2, g2⟩ := m1.write 3 (.bool false) rfl
  have s2 := st3 (v := .int .i64 0) rfl rfl m2.cA (m2.blk.frozen 4)
  obtain ⟨m3, g3⟩ := m2.write 4 (.int .i64 0) rfl
  obtain ⟨w4, h4, m4, g4⟩ := m3.unlock
  refine ⟨w4, f13.run rfl ?_, m4, ((g1.step g2).step g3).step g4⟩
  simp [f13, addL, h1, s1, s2, h4, Res.after, Res.done, outcome]
theorem arm_dead (h : Med w base M 0 B l true armed keep L g) (n k : Int) : ∃ w', C 9 #[.pointer (some ⟨M, 0, none⟩), .int .i64 n, .int .i64 k] w = some (.int .i64 152, w') ∧ Med w' base M 0 B l true armed keep L g ∧ Grew (fp M B L) w w' := by
  obtain ⟨w1, h1, m1, g1⟩ := h.lock
  obtain ⟨w4, h4, m4, g4⟩ := m1.unlock
  refine ⟨w4, f9.run rfl ?_, m4, g1.step g4⟩
  simp [f9, addL, h1, m1.cD, h4, Res.after]
theorem arm_ok (h : Med w base M 0 B l false armed keep L g) (n k : Int) (hn : 0 ≤ n) (hk : 0 ≤ k) : ∃ w', C 9 #[.pointer (some ⟨M, 0, none⟩), .int .i64 n, .int .i64 k] w = some (.int .i64 0, w') ∧ Med w' base M 0 B l false n k L g ∧ Grew (fp M B L) w w' := by
  obtain ⟨w1, h1, m1, g1⟩ := h.lock
  have s1 := st3 (v := .int .i64 n) rfl rfl m1.cA (m1.blk.frozen 4)
  obtain ⟨m2, g2⟩ := m1.write 4 (.int .i64 n) rfl
  have s2 := st3 (v := .int .i64 k) rfl rfl m2.cK (m2.blk.frozen 5)
  obtain ⟨m3, g3⟩ := m2.write 5 (.int .i64 k) rfl
  obtain ⟨w4, h4, m4, g4⟩ := m3.unlock
  refine ⟨w4, f9.run rfl ?_, m4, ((g1.step g2).step g3).step g4⟩
  simp (disch := omega) [f9, addL, h1, m1.cD, lt_f, s1, s2, h4, Res.after]
end

section
variable {w : World} {base M : Nat} {B : Value} {l : List UInt8} {dead : Bool} {armed keep : Int} {L : Value} {g : List (Int × Int)}
theorem append_dead (h : Med w base M 0 B l true armed keep L g) (b : Value) : ∃ w', C 10 #[.pointer (some ⟨M, 0, none⟩), b] w = some (.tuple #[.int .i64 0, .int .i64 152], w') ∧ Med w' base M 0 B l true armed keep L g ∧ Grew (fp M B L) w w' := by
  obtain ⟨w1, h1, m1, g1⟩ := h.lock
  obtain ⟨w4, h4, m4, g4⟩ := m1.unlock
  refine ⟨w4, f10.run rfl ?_, m4, g1.step g4⟩
  simp [f10, addL, h1, m1.cD, h4, Res.after, Res.done, outcome]
theorem append_full (h : Med w base M 0 B l false armed keep L g) (A : Option Addr) (n c : Nat) (hl : l.length ≤ 268435456) (hn : 268435456 < l.length + n) : ∃ w', C 10 #[.pointer (some ⟨M, 0, none⟩), .slice A n c] w = some (.tuple #[.int .i64 0, .int .i64 153], w') ∧ Med w' base M 0 B l false armed keep L g ∧ Grew (fp M B L) w w' := by
  obtain ⟨w1, h1, m1, g1⟩ := h.lock
  obtain ⟨w4, h4, m4, g4⟩ := m1.unlock
  obtain ⟨A2, c2, rfl, hc⟩ := own_form h.row
  have e1 : IntKind.i64.wrap (268435456 - (l.length : Int)) = 268435456 - l.length := wrap_i64 (by omega) (by omega)
  refine ⟨w4, f10.run rfl ?_, m4, g1.step g4⟩
  simp (disch := omega) [f10, addL, h1, m1.cD, m1.cB, e1, lt_t, h4, Res.after, Res.done, outcome]
theorem fp_step {w1 : World} {B B' L : Value} {M : Nat} (hg : Grew (fp M B L) w w1) (hk : ∀ k, B'.ownBlock = some k → B.ownBlock = some k ∨ w1.heap.size ≤ k) : ∀ k, fp M B' L k → fp M B L k ∨ w.heap.size ≤ k := by
  rintro k (h | h | h)
  · exact .inl (.inl h)
  · rcases hk k h with h | h
    · exact .inl (.inr (.inl h))
    · exact .inr (Nat.le_trans hg.size h)
  · exact .inl (.inr (.inr h))
/-- more bytes, put behind those that there are -/
theorem Med.more (h : Med w base M 1 B l dead armed keep L g) {A : Option Addr} {n c : Nat} {x : List UInt8} (hx : x.length = n) (hr : Rd w A (bv x)) (hnil : A = none → c = 0) (hn : l.length + n ≤ 268435456) (hb : base ≤ w.heap.size) :
    ∃ B' w1 w2, erun Try.prog (Builtin.append_ #[22, 22] 22 #[B, .slice A n c]) w = some (B', w1) ∧ erun Try.prog (Instr.storeAt 22 (.pointer (some ⟨M, 2, none⟩)) B') w1 = some ((), w2) ∧
      w1.cell? ⟨M, 2, none⟩ = some B ∧ Med w2 base M 1 B' (l ++ x) dead armed keep L g ∧ Grew (fp M B L) w w2 ∧ (∀ k, B'.ownBlock = some k → B.ownBlock = some k ∨ w.heap.size ≤ k) := by
  obtain ⟨B', w1, h1, o1, g1, k1⟩ := e_append2 (P := Try.prog) (ty := 22) Try.underlying22 inf5 zero5 size5 bytes5 rfl (by decide) h.row (A := A) (m := n) (c := c) (news := bv x) (by simp [hx]) hr hnil (bv_one x) (by simp [maxLen]; omega) (by omega) hb
  have b1 := h.blk.grown g1 h.neB
  have l1 := h.log.kept g1 (by
    cases hL : L.ownBlock with
    | none => exact .inl rfl
    | some k => exact .inr fun e => h.neBL e.symm hL)
  rw [← bv_append] at o1
  have o1' : w1.ownsRow base 5 1 B' (l ++ x).length (bv (l ++ x)) := by rw [List.length_append, hx]; exact o1
  have s1 : erun Try.prog (Instr.storeAt 22 (.pointer (some ⟨M, 2, none⟩)) B') w1 = some ((), w1.setCell ⟨M, 2, none⟩ B') := by
    obtain ⟨A2, c2, rfl, _⟩ := own_form o1
    exact st22 rfl rfl (b1.cell_eq 2 rfl) (b1.frozen 2)
  have hM : B'.ownBlock ≠ some M := own_blk_ne o1 b1 (by decide)
  refine ⟨B', w1, _, h1, s1, b1.cell_eq 2 rfl, ⟨b1.store2 2 _ rfl, h.hM, o1'.kept (grown_set M 2 _) (.inr hM), l1.kept (grown_set M 2 _) (.inr ?_)⟩, ?_, k1⟩
  · intro e; exact h.neL e
  · exact (grew_of g1 fun k hk => .inl (.inr (.inl hk))).step (grew_set _ 2 _ (.inl rfl))
theorem append_ok (h : Med w base M 0 B l false armed keep L g) {A : Option Addr} {n c : Nat} {x : List UInt8} (hx : x.length = n) (hr : ∀ w', Grew (fp M B L) w w' → Rd w' A (bv x)) (hnil : A = none → c = 0) (hn : l.length + n ≤ 268435456) (ha : armed ≠ 1) (ha0 : 0 ≤ armed) (haN : armed ≤ 9223372036854775807) (hb : base ≤ w.heap.size) :
    ∃ B' w', C 10 #[.pointer (some ⟨M, 0, none⟩), .slice A n c] w = some (.tuple #[.int .i64 l.length, .int .i64 0], w') ∧ Med w' base M 0 B' (l ++ x) false (if armed = 0 then 0 else armed - 1) keep L g ∧ Grew (fp M B L) w w' ∧ (∀ k, fp M B' L k → fp M B L k ∨ w.heap.size ≤ k) := by
  obtain ⟨w1, h1, m1, g1⟩ := h.lock
  obtain ⟨A2, c2, rfl, hc⟩ := own_form h.row
  have e1 : IntKind.i64.wrap (268435456 - (l.length : Int)) = 268435456 - l.length := wrap_i64 (by omega) (by omega)
  by_cases hz : armed = 0
  · subst hz
    obtain ⟨B', w2, w3, h2, h3, c3, m3, g3, k3⟩ := m1.more hx (hr _ g1) hnil hn (Nat.le_trans hb g1.size)
    obtain ⟨w4, h4, m4, g4⟩ := m3.unlock
    have hk := fp_step g1 k3
    refine ⟨B', w4, f10.run rfl ?_, m4, (g1.step g3).trans g4 hk, hk⟩
    simp (disch := omega) [f10, addL, h1, m1.cD, m1.cB, m1.cA, e1, lt_f, h2, h3, h4, Res.after, Res.done, outcome]
  · have e2 : IntKind.i64.wrap (armed - 1) = armed - 1 := wrap_i64 (by omega) (by omega)
    have s1 := st3 (v := .int .i64 (armed - 1)) rfl rfl m1.cA (m1.blk.frozen 4)
    obtain ⟨m2, g2⟩ := m1.write 4 (.int .i64 (armed - 1)) rfl
    obtain ⟨B', w2, w3, h2, h3, c3, m3, g3, k3⟩ := m2.more hx (hr _ (g1.step g2)) hnil hn (Nat.le_trans hb (g1.step g2).size)
    obtain ⟨w4, h4, m4, g4⟩ := m3.unlock
    have hk := fp_step (g1.step g2) k3
    refine ⟨B', w4, f10.run rfl ?_, by simpa [hz] using m4, ((g1.step g2).step g3).trans g4 hk, hk⟩
    simp (disch := omega) [f10, addL, h1, m1.cD, m1.cB, m1.cA, e1, ha, lt_f, lt_t, e2, s1, m2.cB, h2, h3, h4, Res.after, Res.done, outcome]
theorem append_dies (h : Med w base M 0 B l false 1 keep L g) {A : Option Addr} {n c : Nat} {x : List UInt8} (hx : x.length = n) (hc : n ≤ c) (hr : ∀ w', Grew (fp M B L) w w' → Rd w' A (bv x)) (hnil : A = none → c = 0) (hn : l.length + n ≤ 268435456) (hk0 : 0 ≤ keep) (hb : base ≤ w.heap.size) :
    ∃ B' w', C 10 #[.pointer (some ⟨M, 0, none⟩), .slice A n c] w = some (.tuple #[.int .i64 0, .int .i64 152], w') ∧ Med w' base M 0 B' (l ++ x.take keep.toNat) true 0 keep L g ∧ Grew (fp M B L) w w' ∧ (∀ k, fp M B' L k → fp M B L k ∨ w.heap.size ≤ k) := by
  obtain ⟨w1, h1, m1, g1⟩ := h.lock
  obtain ⟨A2, c2, rfl, hc2⟩ := own_form h.row
  have e1 : IntKind.i64.wrap (268435456 - (l.length : Int)) = 268435456 - l.length := wrap_i64 (by omega) (by omega)
  obtain ⟨q, hq⟩ : ∃ q : Nat, q = min keep.toNat n := ⟨_, rfl⟩
  have mn : (if (n : Int) < keep then (n : Int) else keep) = q := by split <;> omega
  have m3' := min3 keep n
  rw [mn] at m3'
  have hsl := sl22 A n c none (some (.int .i64 q)) none 0 q c (by
    have := bounds_hi (P := Try.prog) n c .i64 q (by omega) (by omega)
    rw [this]; rfl)
  have hx' : x.take q = x.take keep.toNat := by
    rw [hq, ← hx]
    by_cases hle : keep.toNat ≤ x.length
    · rw [Nat.min_eq_left hle]
    · rw [Nat.min_eq_right (by omega), List.take_length, List.take_of_length_le (by omega)]
  have m1' : Med w1.drew base M 1 (.slice A2 l.length c2) l false 1 keep L g := ⟨m1.blk, m1.hM, m1.row, m1.log⟩
  obtain ⟨B', w2, w3, h2, h3, c3, m3, g3, k3⟩ := m1'.more (x := x.take q) (n := q) (c := c) (A := A) (by rw [List.length_take]; omega) (by rw [bv_take]; exact ((hr _ (g1.step (Grew.drew _ _))).take q)) hnil (by omega) (Nat.le_trans hb g1.size)
  have g1' : Grew (fp M (.slice A2 l.length c2) L) w w1.drew := g1.step (Grew.drew _ _)
  have s4 := st4 (v := .bool true) rfl rfl m3.cD (m3.blk.frozen 3)
  obtain ⟨m4, g4⟩ := m3.write 3 (.bool true) rfl
  have s5 := st3 (v := .int .i64 0) rfl rfl m4.cA (m4.blk.frozen 4)
  obtain ⟨m5, g5⟩ := m4.write 4 (.int .i64 0) rfl
  obtain ⟨w6, h6, m6, g6⟩ := m5.unlock
  have hk := fp_step g1' k3
  refine ⟨B', w6, f10.run rfl ?_, by rw [← hx']; exact m6, (((g1'.step g3).trans g4 hk).trans g5 hk).trans g6 hk, hk⟩
  simp (disch := omega) [f10, addL, h1, m1.cD, m1.cB, m1.cA, m1.cK, e1, lt_f, m3', hsl, h2, h3, s4, s5, h6, Res.after, Res.done, outcome, chkThen]

/-- in range: the log is longer, and here they are -/
theorem read_in1 (h : Med w base M 1 B l false armed keep L g) (i k : Nat) (hik : i + k ≤ l.length) (hl : l.length ≤ 268435456) (hg : g.length ≤ 8000000000000) (hb : base ≤ w.heap.size) :
    ∃ v L' w', C 30 #[.pointer (some ⟨M, 0, none⟩), .int .i64 i, .int .i64 k] w = some (.tuple #[v, .int .i64 0], w') ∧ Med w' base M 1 B l false armed keep L' (g ++ [((i : Int), (k : Int))]) ∧ Grew (fp M B L) w w' ∧
      (∀ j, L'.ownBlock = some j → L.ownBlock = some j ∨ w.heap.size ≤ j) ∧ Out w w' v k (bv ((l.drop i).take k)) ∧ (∀ j, fp M B L' j → v.ownBlock ≠ some j) := by
  obtain ⟨A, c, rfl, hc, hcm⟩ := own_form h.row
  have hli := lies_ok i k l.length (by omega) (by omega) w
  have hd : decide ((0 : Int) ≤ i ∧ (0 : Int) ≤ k ∧ (i : Int) ≤ l.length ∧ (k : Int) ≤ l.length - i) = true := by simp; omega
  rw [hd] at hli
  obtain ⟨W1, hW1⟩ : ∃ W1, W1 = w.alloc (.cells #[.int .i64 i, .int .i64 k] 40) := ⟨_, rfl⟩
  have ga : w.grownBy W1 none := hW1 ▸ World.grownBy_alloc w _ none
  have hsz : W1.heap.size = w.heap.size + 1 := by rw [hW1]; simp
  have r1 : Rd W1 (some ⟨w.heap.size, 0, none⟩) (sc [((i : Int), (k : Int))]) := by
    rw [hW1]
    intro j v hj
    rw [addL, Nat.zero_add, World.cell?_alloc_new]
    simpa [sc] using hj
  obtain ⟨L', W2, h2, o2, g2, k2⟩ := e_append2 (P := Try.prog) (ty := 41) Try.underlying41 inf40 zero40 size40 bytes40 rfl (by decide) (own_new h.log ga) (A := some ⟨w.heap.size, 0, none⟩) (m := 1) (c := 1) (news := sc [((i : Int), (k : Int))]) (by simp [sc_length]) r1 (fun h => by cases h) (sc_one _) (by simp [maxLen]; omega) (by omega) (by omega)
  rw [← sc_append] at o2
  have g2' : Grew (fp M (.slice A l.length c) L) w W2 := (grew_new ga).trans (grew_of (S := fp M (.slice A l.length c) L) g2 fun k hk => .inl (.inr (.inr hk))) fun _ hk => .inl hk
  have bM := (h.blk.grown ga (by simp)).grown g2 h.neL
  have rB := own_beside (own_new h.row ga) g2 fun k h1 h2 => h.neBL h1 h2
  have hM : L'.ownBlock ≠ some M := own_blk_ne o2 bM (by decide)
  have s1 : erun Try.prog (Instr.storeAt 41 (.pointer (some ⟨M, 6, none⟩)) L') W2 = some ((), W2.setCell ⟨M, 6, none⟩ L') := by
    obtain ⟨A2, c2, rfl, _⟩ := own_form o2
    exact st41 rfl rfl (bM.cell_eq 6 rfl) (bM.frozen 6)
  have m3 : Med (W2.setCell ⟨M, 6, none⟩ L') base M 1 (.slice A l.length c) l false armed keep L' (g ++ [((i : Int), (k : Int))]) :=
    ⟨bM.store2 6 _ rfl, h.hM, rB.kept (grown_set M 6 _) (.inr h.neB), by
      have := o2.kept (grown_set M 6 L') (.inr hM)
      simpa using this⟩
  have g3 : Grew (fp M (.slice A l.length c) L) w (W2.setCell ⟨M, 6, none⟩ L') := g2'.step (grew_set _ 6 _ (.inl rfl))
  obtain ⟨W3, hW3⟩ : ∃ W3, W3 = W2.setCell ⟨M, 6, none⟩ L' := ⟨_, rfl⟩
  rw [← hW3] at s1 m3 g3
  have rr := (Rd.owned m3.row).sliced i (i + k) c 1 (by omega) (by omega)
  have hsl := sl22 A l.length c (some (.int .i64 i)) (some (.int .i64 ((i : Int) + k))) none i (i + k) c (by
    have := bounds_lohi (P := Try.prog) l.length c .i64 .i64 i ((i : Int) + k) (by omega) (by omega) (by omega)
    rw [this]; congr 2)
  have e1 : ((bv l).drop (i * 1)).take ((i + k - i) * 1) = bv ((l.drop i).take k) := by simp [bv_take, bv_drop]
  rw [e1] at rr
  have e2 : IntKind.i64.wrap ((i : Int) + k) = i + k := wrap_i64 (by omega) (by omega)
  have e3 : i + k - i = k := by omega
  rw [e3] at hsl
  obtain ⟨v4, W4, h4, o4, g4⟩ := clone_ok (w := W3) (n := k) (c := c - i) (by simp; omega) rr (sliced_nil (own_nil h.row) (Nat.le_refl _)) (by omega)
  obtain ⟨A5, c5, rfl, hc5, O5⟩ := out_clipped (w0 := w) o4 g3.size
  simp only [Nat.mul_one] at h4 hsl
  refine ⟨_, L', W4, f30.run rfl ?_, m3.grew (grew_new (S := fun _ => False) g4) (fun _ _ h => h), g3.step (grew_new g4), fun j hj => ?_, O5, fun j hj hv => by
    have h1 := (m3.fpge j hj).2
    have h2 := (o4.lt j (by cases A5 <;> exact hv)).1
    omega⟩
  · have h2' := h2
    rw [hW1] at h2'
    simp [f30, addL, h.cD, h.cB, hli, bool_not, h.cL, build40, bs41_1, h2', s1, m3.cB, e2, hsl, h4, clip_ok A5 _ c5 hc5]
  · rcases k2 j hj with h | h
    · exact .inl h
    · exact .inr (by omega)
theorem read_in (h : Med w base M 0 B l false armed keep L g) (i k : Nat) (hik : i + k ≤ l.length) (hl : l.length ≤ 268435456) (hg : g.length ≤ 8000000000000) (hb : base ≤ w.heap.size) :
    ∃ v L' w', C 16 #[.pointer (some ⟨M, 0, none⟩), .int .i64 i, .int .i64 k] w = some (.tuple #[v, .int .i64 0], w') ∧ Med w' base M 0 B l false armed keep L' (g ++ [((i : Int), (k : Int))]) ∧ Grew (fp M B L) w w' ∧
      (∀ j, fp M B L' j → fp M B L j ∨ w.heap.size ≤ j) ∧ Out w w' v k (bv ((l.drop i).take k)) ∧ (∀ j, fp M B L' j → v.ownBlock ≠ some j) := by
  obtain ⟨w1, h1, m1, g1⟩ := h.lock
  obtain ⟨v, L', w2, h2, m2, g2, k2, O2, d2⟩ := read_in1 m1 i k hik hl hg (Nat.le_trans hb g1.size)
  obtain ⟨w3, h3, m3, g3'⟩ := m2.unlock2
  have g3 : Grew (fp M B L') w2 w3 := g3'.weak fun k hk => .inl (.inl hk)
  have hk : ∀ j, fp M B L' j → fp M B L j ∨ w.heap.size ≤ j := by
    rintro j (h | h | h)
    · exact .inl (.inl h)
    · exact .inl (.inr (.inl h))
    · rcases k2 j h with h | h
      · exact .inl (.inr (.inr h))
      · exact .inr (Nat.le_trans g1.size h)
  have O2' : Out w w3 v k (bv ((l.drop i).take k)) := by
    obtain ⟨A, c, a1, a2, a3, a4, a5⟩ := O2.out
    refine ⟨A, c, a1, a2, a3.grew g3' fun a ha hf => ?_, a4, fun a ha => Nat.le_trans g1.size (a5 a ha)⟩
    have hf' : a.block = M := hf
    have := a5 a ha
    have := m1.blk.lt
    omega
  refine ⟨v, L', w3, f16.run rfl ?_, m3, (g1.step g2).trans g3 hk, hk, O2', d2⟩
  simp [f16, addL, h1, h2, h3, Res.after, Res.done, outcome]
theorem read_out (h : Med w base M 0 B l false armed keep L g) (i k : Int) (hik : ¬ (0 ≤ i ∧ 0 ≤ k ∧ i ≤ l.length ∧ k ≤ l.length - i)) (hl : l.length ≤ 268435456) :
    ∃ w', C 16 #[.pointer (some ⟨M, 0, none⟩), .int .i64 i, .int .i64 k] w = some (.tuple #[.slice none 0 0, .int .i64 151], w') ∧ Med w' base M 0 B l false armed keep L g ∧ Grew (fp M B L) w w' := by
  obtain ⟨w1, h1, m1, g1⟩ := h.lock
  obtain ⟨A, c, rfl, hc, hcm⟩ := own_form h.row
  have hli := lies_ok i k l.length (by omega) (by omega) w1
  rw [decide_eq_false hik] at hli
  have h2 : C 30 #[.pointer (some ⟨M, 0, none⟩), .int .i64 i, .int .i64 k] w1 = some (.tuple #[.slice none 0 0, .int .i64 151], w1) := by
    refine f30.run rfl ?_
    simp [f30, addL, m1.cD, m1.cB, hli, bool_not]
  obtain ⟨w3, h3, m3, g3⟩ := m1.unlock
  refine ⟨w3, f16.run rfl ?_, m3, g1.step g3⟩
  simp [f16, addL, h1, h2, h3, Res.after, Res.done, outcome]
theorem read_dead (h : Med w base M 0 B l true armed keep L g) (i k : Int) :
    ∃ w', C 16 #[.pointer (some ⟨M, 0, none⟩), .int .i64 i, .int .i64 k] w = some (.tuple #[.slice none 0 0, .int .i64 152], w') ∧ Med w' base M 0 B l true armed keep L g ∧ Grew (fp M B L) w w' := by
  obtain ⟨w1, h1, m1, g1⟩ := h.lock
  have h2 : C 30 #[.pointer (some ⟨M, 0, none⟩), .int .i64 i, .int .i64 k] w1 = some (.tuple #[.slice none 0 0, .int .i64 152], w1) := by
    refine f30.run rfl ?_
    simp [f30, addL, m1.cD]
  obtain ⟨w3, h3, m3, g3⟩ := m1.unlock
  refine ⟨w3, f16.run rfl ?_, m3, g1.step g3⟩
  simp [f16, addL, h1, h2, h3, Res.after, Res.done, outcome]
/-- Load: a medium of these bytes -/
theorem load_full (A : Option Addr) (n c : Nat) (hn : 268435456 < n) (w : World) : C 8 #[.slice A n c] w = some (.tuple #[.pointer none, .int .i64 153], w) := by
  refine f8.run rfl ?_
  simp (disch := omega) [f8, lt_t]
theorem load_ok {A : Option Addr} {n c : Nat} {x : List UInt8} (hx : x.length = n) (hr : Rd w A (bv x)) (hnil : A = none → c = 0) (hn : n ≤ 268435456) (hb : base ≤ w.heap.size) :
    ∃ M B w', C 8 #[.slice A n c] w = some (.tuple #[.pointer (some ⟨M, 0, none⟩), .int .i64 0], w') ∧ Med w' base M 0 B x false 0 0 (.slice none 0 0) [] ∧ w.grownBy w' none ∧ (∀ k, fp M B (.slice none 0 0) k → w.heap.size ≤ k) := by
  obtain ⟨v1, w1, h1, o1, g1⟩ := clone_ok hx hr hnil (by omega)
  obtain ⟨A1, c1, rfl, hc1, _⟩ := own_form o1
  have b2 := Blk.new w1 80 [.int .i32 0, .int .u32 0, .slice A1 n c1, .bool false, .int .i64 0, .int .i64 0, .slice none 0 0]
  have g2 := World.grownBy_alloc w1 (.cells #[.int .i32 0, .int .u32 0, .slice A1 n c1, .bool false, .int .i64 0, .int .i64 0, .slice none 0 0] 80) none
  refine ⟨w1.heap.size, .slice A1 n c1, _, f8.run rfl ?_, ⟨b2, Nat.le_trans hb g1.size, own_base (own_new (by rw [hx]; exact o1) g2) hb, World.ownsRow_nil _ _ _ _⟩, grown_trans g1 g2 (by simp), ?_⟩
  · simp (disch := omega) [f8, lt_f, h1, build80s, box_any, Value.cells]
  · rintro k (rfl | hk | hk)
    · exact g1.size
    · exact (o1.lt k hk).1
    · cases hk
/-- a piece -/
theorem piece_ok (h : Med w base M 0 B l dead armed keep L g) (i k : Nat) (hik : i + k ≤ l.length) (hl : l.length ≤ 268435456) :
    ∃ P w', C 15 #[.pointer (some ⟨M, 0, none⟩), .agg #[.int .i64 i, .int .i64 k]] w = some (.tuple #[.iface 82 (.pointer (some ⟨P, 0, none⟩)), .int .i64 0], w') ∧ Med w' base M 0 B l dead armed keep L g ∧ Grew (fp M B L) w w' ∧
      Blk w' P 84 [.pointer (some ⟨M, 0, none⟩), .int .i64 i, .int .i64 k] ∧ w.heap.size ≤ P := by
  obtain ⟨W0, hW0⟩ : ∃ W0, W0 = w.alloc (.cells #[.int .i64 i, .int .i64 k] 40) := ⟨_, rfl⟩
  have g0 : w.grownBy W0 none := hW0 ▸ World.grownBy_alloc w _ none
  have b0 : Blk W0 w.heap.size 40 [.int .i64 i, .int .i64 k] := hW0 ▸ Blk.new w 40 [.int .i64 i, .int .i64 k]
  have m0 := h.grew (grew_new (S := fun _ => False) g0) (fun _ _ h => h)
  obtain ⟨w1, h1, m1, g1⟩ := m0.lock
  obtain ⟨A, c, rfl, hc, hcm⟩ := own_form h.row
  have b1 := b0.grew g1 (fun hf => by have := (h.fpge _ hf).2; omega)
  have hli := lies_ok i k l.length (by omega) (by omega) w1.drew
  have hd : decide ((0 : Int) ≤ i ∧ (0 : Int) ≤ k ∧ (i : Int) ≤ l.length ∧ (k : Int) ≤ l.length - i) = true := by simp; omega
  rw [hd] at hli
  have hld := ld40 (w := w1.drew) (a := ⟨w.heap.size, 0, none⟩) (v0 := .int .i64 i) (v1 := .int .i64 k) (by rw [addL]; exact b1.cell_eq 0 rfl) (by rw [addL]; exact b1.cell_eq 1 rfl)
  obtain ⟨W2, hW2⟩ : ∃ W2, W2 = w1.drew.alloc (.cells #[.pointer (some ⟨M, 0, none⟩), .int .i64 i, .int .i64 k] 84) := ⟨_, rfl⟩
  have g2 : w1.grownBy W2 none := hW2 ▸ grown_step (grown_drew w1 none) (World.grownBy_alloc w1.drew _ none)
  have b2 : Blk W2 w1.heap.size 84 [.pointer (some ⟨M, 0, none⟩), .int .i64 i, .int .i64 k] := hW2 ▸ Blk.new w1.drew 84 [.pointer (some ⟨M, 0, none⟩), .int .i64 i, .int .i64 k]
  have m2 := m1.grew (grew_new (S := fun _ => False) g2) (fun _ _ h => h)
  obtain ⟨w3, h3, m3, g3⟩ := m2.unlock
  refine ⟨w1.heap.size, w3, f15.run rfl ?_, m3, (((grew_new g0).step g1).step (grew_new g2)).step g3, b2.grew g3 (fun hf => by have := (m1.fpge _ hf).2; omega), Nat.le_trans g0.size g1.size⟩
  rw [hW2] at h3
  rw [hW0] at h1
  simp [f15, box_any, Value.cells, addL, h1, b1.cell_eq 0 rfl, b1.cell_eq 1 rfl, m1.cB, hli, bool_not, hld, build84, h3, Res.after, Res.done, outcome]
end
section
variable {w : World} {base M P : Nat} {B : Value} {l : List UInt8} {dead : Bool} {armed keep : Int} {L : Value} {g : List (Int × Int)} {i k : Nat}
theorem psize_ok (b : Blk w P 84 [.pointer (some ⟨M, 0, none⟩), .int .i64 i, .int .i64 k]) : C 94 #[.pointer (some ⟨P, 0, none⟩)] w = some (.int .i64 k, w) := by
  refine f94.run rfl ?_
  simp [f94, addL, b.cell_eq 2 rfl]
theorem Med.neP (h : Med w base M 0 B l dead armed keep L g) {c0 : Value} {i k : Value} (b : Blk w P 84 [c0, i, k]) : ¬ fp M B L P := by
  rintro (hf | hf | hf)
  · subst hf; have h1 := b; have h2 := h.blk; unfold Blk at h1 h2; rw [h1] at h2; simp at h2
  · exact own_blk_ne h.row b (by decide) hf
  · exact own_blk_ne h.log b (by decide) hf
theorem pread_in (h : Med w base M 0 B l false armed keep L g) (b : Blk w P 84 [.pointer (some ⟨M, 0, none⟩), .int .i64 i, .int .i64 k]) (x y : Nat) (hxy : x + y ≤ k) (hik : i + k ≤ l.length) (hl : l.length ≤ 268435456) (hg : g.length ≤ 8000000000000) (hb : base ≤ w.heap.size) :
    ∃ v L' w', C 93 #[.pointer (some ⟨P, 0, none⟩), .int .i64 x, .int .i64 y] w = some (.tuple #[v, .int .i64 0], w') ∧ Med w' base M 0 B l false armed keep L' (g ++ [(((i + x : Nat) : Int), (y : Int))]) ∧ Grew (fp M B L) w w' ∧
      (∀ j, fp M B L' j → fp M B L j ∨ w.heap.size ≤ j) ∧ Out w w' v y (bv ((l.drop (i + x)).take y)) ∧ (∀ j, fp M B L' j → v.ownBlock ≠ some j) := by
  obtain ⟨w1, h1, m1, g1⟩ := h.lock
  have hPM : P ≠ M := fun e => by subst e; have h1 := b; have h2 := h.blk; unfold Blk at h1 h2; rw [h1] at h2; simp at h2
  have hPf : ¬ fp M B L P := by
    rintro (hf | hf | hf)
    · exact hPM hf
    · exact own_blk_ne h.row b (by decide) hf
    · exact own_blk_ne h.log b (by decide) hf
  have b1 := b.grew g1 hPf
  have hli := lies_ok x y k (by omega) (by omega) w1
  have hd : decide ((0 : Int) ≤ x ∧ (0 : Int) ≤ y ∧ (x : Int) ≤ k ∧ (y : Int) ≤ k - x) = true := by simp; omega
  rw [hd] at hli
  have m1' : Med w1.drew base M 1 B l false armed keep L g := ⟨m1.blk, m1.hM, m1.row, m1.log⟩
  obtain ⟨v, L', w2, h2, m2, g2, k2, O2, d2⟩ := read_in1 m1' (i + x) y (by omega) hl hg (Nat.le_trans hb g1.size)
  obtain ⟨w3, h3, m3, g3'⟩ := m2.unlock2
  have g3 : Grew (fp M B L') w2 w3 := g3'.weak fun k hk => .inl (.inl hk)
  have hk : ∀ j, fp M B L' j → fp M B L j ∨ w.heap.size ≤ j := by
    rintro j (h | h | h)
    · exact .inl (.inl h)
    · exact .inl (.inr (.inl h))
    · rcases k2 j h with h | h
      · exact .inl (.inr (.inr h))
      · exact .inr (Nat.le_trans g1.size h)
  have O2' : Out w w3 v y (bv ((l.drop (i + x)).take y)) := by
    obtain ⟨A, c, a1, a2, a3, a4, a5⟩ := O2.out
    refine ⟨A, c, a1, a2, a3.grew g3' fun a ha hf => ?_, a4, fun a ha => Nat.le_trans g1.size (a5 a ha)⟩
    have hf' : a.block = M := hf
    have : w1.heap.size ≤ a.block := a5 a ha
    have := m1.blk.lt
    omega
  have e1 : IntKind.i64.wrap ((i : Int) + x) = (i : Int) + x := wrap_i64 (by omega) (by omega)
  rw [show ((i + x : Nat) : Int) = (i : Int) + x by omega] at h2
  refine ⟨v, L', w3, f93.run rfl ?_, m3, (g1.step ((Grew.drew _ _).step g2)).trans g3 hk, hk, O2', d2⟩
  simp [f93, addL, b.cell_eq 0 rfl, h1, b1.cell_eq 0 rfl, m1.cD, b1.cell_eq 1 rfl, b1.cell_eq 2 rfl, hli, bool_not, e1, h2, h3, Res.after, Res.done, outcome, chkThen]
theorem pread_out (h : Med w base M 0 B l false armed keep L g) (b : Blk w P 84 [.pointer (some ⟨M, 0, none⟩), .int .i64 i, .int .i64 k]) (x y : Int) (hxy : ¬ (0 ≤ x ∧ 0 ≤ y ∧ x ≤ k ∧ y ≤ k - x)) (hk : k ≤ 268435456) :
    ∃ w', C 93 #[.pointer (some ⟨P, 0, none⟩), .int .i64 x, .int .i64 y] w = some (.tuple #[.slice none 0 0, .int .i64 151], w') ∧ Med w' base M 0 B l false armed keep L g ∧ Grew (fp M B L) w w' := by
  obtain ⟨w1, h1, m1, g1⟩ := h.lock
  have hPM : P ≠ M := fun e => by subst e; have h1 := b; have h2 := h.blk; unfold Blk at h1 h2; rw [h1] at h2; simp at h2
  have hPf : ¬ fp M B L P := by
    rintro (hf | hf | hf)
    · exact hPM hf
    · exact own_blk_ne h.row b (by decide) hf
    · exact own_blk_ne h.log b (by decide) hf
  have b1 := b.grew g1 hPf
  have hli := lies_ok x y k (by omega) (by omega) w1
  rw [decide_eq_false hxy] at hli
  obtain ⟨w3, h3, m3, g3⟩ := m1.unlock
  refine ⟨w3, f93.run rfl ?_, m3, g1.step g3⟩
  simp [f93, addL, b.cell_eq 0 rfl, h1, b1.cell_eq 0 rfl, m1.cD, b1.cell_eq 1 rfl, b1.cell_eq 2 rfl, hli, bool_not, h3, Res.after, Res.done, outcome]
end

section
variable {w W : World} {M : Nat} {s : Int} {B : Value} {l : List UInt8} {dead : Bool} {armed keep : Int} {L : Value} {g : List (Int × Int)}
theorem grown_fp {w' : World} (G : W.grownBy w none) (h : Med w W.heap.size M s B l dead armed keep L g) (hg : Grew (fp M B L) w w') : W.grownBy w' none :=
  ((grew_new (S := fun _ => False) G).trans hg fun k hk => .inr (h.fpge k hk).1).toNew fun _ h => h.elim
theorem Rd.fp {A : Option Addr} {cs : List Value} (hr : Rd W A cs) (G : W.grownBy w none) (h : Med w W.heap.size M s B l dead armed keep L g) : ∀ w', Grew (fp M B L) w w' → Rd w' A cs := fun w' hg => hr.grown (grown_fp G h hg)
end
theorem place_ok (c : Int) (n : Int) (hn : 0 < n) (hN : n ≤ 9223372036854775807) (hc : -9223372036854775808 ≤ c) (hc' : c ≤ 9223372036854775807) (w : World) :
    ∃ r : Int, C 14 #[.int .i64 c, .int .i64 n] w = some (.int .i64 r, w) ∧ 0 ≤ r ∧ r < n := by
  by_cases h : c < 0
  · have e1 : IntKind.i64.wrap (c + 1) = c + 1 := wrap_i64 (by omega) (by omega)
    have e2 : IntKind.i64.wrap (0 - (c + 1)) = -(c + 1) := by rw [Int.zero_sub]; exact wrap_i64 (by omega) (by omega)
    refine ⟨(-(c + 1)).tmod n, f14.run rfl ?_, Int.tmod_nonneg _ (by omega), Int.tmod_lt_of_pos _ hn⟩
    simp only [f14, bin_lss, h, decide_true, Option.bind_some, asB_bool, if_true, bin_add, e1, un_neg, e2, cont_norm, nth_zero, nth_succ]
    simp [bin_rem _ _ _ (show n ≠ 0 by omega)]
  · refine ⟨c.tmod n, f14.run rfl ?_, Int.tmod_nonneg _ (by omega), Int.tmod_lt_of_pos _ hn⟩
    simp [f14, h, bin_rem _ _ _ (show n ≠ 0 by omega)]
theorem bs22_3 (a b c : Int) (w : World) : erun Try.prog (Instr.buildSlice 22 3 #[(0, (Value.int IntKind.u8 a)), (1, (Value.int IntKind.u8 b)), (2, (Value.int IntKind.u8 c))]) w =
    some (.slice (some ⟨w.heap.size, 0, none⟩) 3 3, w.alloc (.cells #[.int .u8 a, .int .u8 b, .int .u8 c] 5)) := id (by kernel_rfl)
theorem bs22_2 (a b : Int) (w : World) : erun Try.prog (Instr.buildSlice 22 2 #[(0, (Value.int IntKind.u8 a)), (1, (Value.int IntKind.u8 b))]) w =
    some (.slice (some ⟨w.heap.size, 0, none⟩) 2 2, w.alloc (.cells #[.int .u8 a, .int .u8 b] 5)) := id (by kernel_rfl)
theorem bs22_1 (a : Int) (w : World) : erun Try.prog (Instr.buildSlice 22 1 #[(0, (Value.int IntKind.u8 a))]) w =
    some (.slice (some ⟨w.heap.size, 0, none⟩) 1 1, w.alloc (.cells #[.int .u8 a] 5)) := id (by kernel_rfl)
theorem cv22 (w : World) (C : Array Value) (n c : Nat) : erun Try.prog (convert 22 22 (.slice (some ⟨w.heap.size, 0, none⟩) n c)) (w.alloc (.cells C 5)) = some (.slice (some ⟨w.heap.size, 0, none⟩) n c, w.alloc (.cells C 5 (C.size, C.size + 1))) :=
  erun_of_run (Go.Lib.run_convert_bytes_const w 22 5 C n c Try.underlying22 Try.underlying5)
/-- a literal's bytes -/
theorem lit_rd {w : World} {cs : List Value} {e : TypeId} {fz : Nat × Nat} : Rd (w.alloc (.cells cs.toArray e fz)) (some ⟨w.heap.size, 0, none⟩) cs := by
  intro j v hj
  rw [addL, Nat.zero_add]
  have : (w.heap.push (.cells cs.toArray e fz))[w.heap.size]? = some (.cells cs.toArray e fz) := by simp
  unfold World.cell? World.alloc
  simp only [this]
  simpa using hj
/-- the example -/
theorem shown_ok (w : World) : ∃ w', C 7 #[] w = some (.bool true, w') ∧ w.grownBy w' none := by
  obtain ⟨w1, h1, m1, g1⟩ := new_ok w (base := w.heap.size) (Nat.le_refl _)
  obtain ⟨W2, hW2⟩ : ∃ W2, W2 = w1.alloc (.cells #[.int .u8 97, .int .u8 98, .int .u8 99] 5 (3, 4)) := ⟨_, rfl⟩
  have g2 : w1.grownBy W2 none := hW2 ▸ World.grownBy_alloc w1 _ none
  have c2 := cv22 w1 #[.int .u8 97, .int .u8 98, .int .u8 99] 3 3
  have r2 : Rd W2 (some ⟨w1.heap.size, 0, none⟩) (bv [97, 98, 99]) := hW2 ▸ lit_rd (cs := bv [97, 98, 99])
  have m2 := m1.grew (grew_new (S := fun _ => False) g2) (fun _ _ h => h)
  obtain ⟨B3, w3, h3, m3, g3, k3⟩ := append_ok m2 (A := some ⟨w1.heap.size, 0, none⟩) (n := 3) (c := 3) rfl (fun w' hg => r2.grew hg fun a ha hf => by cases ha; exact Nat.lt_irrefl _ (m1.fpge _ hf).2) (fun h => by cases h) (by simp) (by omega) (by omega) (by omega) (Nat.le_trans g1.size g2.size)
  obtain ⟨W4, hW4⟩ : ∃ W4, W4 = w3.alloc (.cells #[.int .u8 100, .int .u8 101] 5 (2, 3)) := ⟨_, rfl⟩
  have g4 : w3.grownBy W4 none := hW4 ▸ World.grownBy_alloc w3 _ none
  have c4 := cv22 w3 #[.int .u8 100, .int .u8 101] 2 2
  have r4 : Rd W4 (some ⟨w3.heap.size, 0, none⟩) (bv [100, 101]) := hW4 ▸ lit_rd (cs := bv [100, 101])
  have m4 := m3.grew (grew_new (S := fun _ => False) g4) (fun _ _ h => h)
  have G3 : w.grownBy w3 none := grown_fp (grown_trans g1 g2 (by simp)) m2 g3
  obtain ⟨B5, w5, h5, m5, g5, k5⟩ := append_ok m4 (A := some ⟨w3.heap.size, 0, none⟩) (n := 2) (c := 2) rfl (fun w' hg => r4.grew hg fun a ha hf => by cases ha; exact Nat.lt_irrefl _ (m3.fpge _ hf).2) (fun h => by cases h) (by simp) (by simp) (by simp) (by simp) (Nat.le_trans G3.size g4.size)
  have G5 : w.grownBy w5 none := grown_fp (grown_trans G3 g4 (by simp)) m4 g5
  obtain ⟨v6, L6, w6, h6, m6, g6, k6, O6, d6⟩ := read_in m5 2 2 (by simp) (by simp) (by simp) G5.size
  have G6 : w.grownBy w6 none := grown_fp G5 m5 g6
  obtain ⟨v7, w7, h7, m7, g7, O7⟩ := log_ok m6 (by simp)
  have G7 : w.grownBy w7 none := grown_fp G6 m6 g7
  obtain ⟨A6, c6, rfl, _, r6, n6, _⟩ := (O6.grew g7 fun k hv hk hf => d6 k hf hv).out
  obtain ⟨A7, c7, rfl, _, r7, n7, _⟩ := O7.out
  have t6 := tx22_9 (c := c6) (l := [99, 100]) (n := 2) rfl r6
  cases A7 with
  | none => cases (show sc [((2 : Int), (2 : Int))] = [] from r7)
  | some a7 =>
    have l7 := ld40 (a := a7) (w := w7) (r7 0 _ rfl) (r7 1 _ rfl)
    have i7 := ix41 a7 1 c7 .i64 0 (by omega) (by omega)
    refine ⟨w7, f7.run rfl ?_, G7⟩
    rw [hW2] at h3
    rw [hW4] at h5
    simp at h3 h5 h6 h7 i7
    simp [f7, h1, bs22_3, bs22_2, c2, h3, c4, h5, h6, h7, t6, l7, i7, build40]

theorem sc_get {g : List (Int × Int)} {i : Nat} (h : i < g.length) : (sc g)[i * 2]? = some (.int .i64 (g[i]).1) ∧ (sc g)[i * 2 + 1]? = some (.int .i64 (g[i]).2) := by
  induction g generalizing i with
  | nil => simp at h
  | cons p r ih =>
    cases i with
    | zero => exact ⟨rfl, rfl⟩
    | succ i =>
      have e : (i + 1) * 2 = i * 2 + 1 + 1 := by omega
      rw [e]
      exact ih (i := i) (by simpa using h)
/-- two lists of spans that are one -/
theorem same_ok {w : World} {A A' : Option Addr} {c c' : Nat} {g : List (Int × Int)} (hr : Rd w A (sc g)) (hr' : Rd w A' (sc g)) (hn : g.length ≤ 8000000000000) :
    ∃ w', C 19 #[.slice A g.length c, .slice A' g.length c'] w = some (.bool true, w') ∧ w.grownBy w' none := by
  have key := iter_down (f := f19.l0 C) (fun d vs w1 => ∃ i : Nat, vs = [.slice A g.length c, .slice A' g.length c', .int .i64 i] ∧ i + d = g.length ∧ w.grownBy w1 none)
    (fun r => ∃ w1, r = .exit 0 [] w1 ∧ w.grownBy w1 none) (by
      rintro d vs w1 ⟨i, rfl, hi, G⟩
      cases d with
      | zero =>
        obtain rfl : i = g.length := by omega
        exact .inr ⟨_, by simp [f19.l0], ⟨w1, rfl, G⟩, by simp⟩
      | succ d =>
        have e1 : IntKind.i64.wrap ((i : Int) + 1) = ((i + 1 : Nat) : Int) := (wrap_i64 (by omega) (by omega)).trans (by omega)
        have hlt : i < g.length := by omega
        have G' : w.grownBy w1.drew none := grown_step G (grown_drew _ _)
        have hs := sc_length g
        have c0 := sc_get hlt
        cases A with
        | none => have h : sc g = [] := hr; rw [h] at hs; simp at hs; omega
        | some a =>
          cases A' with
          | none => have h : sc g = [] := hr'; rw [h] at hs; simp at hs; omega
          | some a' =>
            have i1 := ix41 a g.length c .i64 i (by omega) (by omega)
            have i2 := ix41 a' g.length c' .i64 i (by omega) (by omega)
            simp only [Int.toNat_natCast] at i1 i2
            have q1 := ld40 (w := w1.drew) (a := a.add (i * 2)) (by rw [Addr.add_add, Nat.add_zero]; exact hr.grown G' _ _ c0.1) (by rw [Addr.add_add]; exact hr.grown G' _ _ c0.2)
            have q2 := ld40 (w := w1.drew) (a := a'.add (i * 2)) (by rw [Addr.add_add, Nat.add_zero]; exact hr'.grown G' _ _ c0.1) (by rw [Addr.add_add]; exact hr'.grown G' _ _ c0.2)
            refine .inl ⟨d, _, w1.drew, by omega, ?_, ⟨i + 1, rfl, by omega, G'⟩⟩
            simp (disch := omega) [f19.l0, lt_t, i1, i2, q1, q2, e1]) g.length _ w ⟨0, rfl, by omega, grown_refl _ _⟩
  obtain ⟨r, h1, w1, rfl, G⟩ := key
  refine ⟨w1, f19.run rfl ?_, G⟩
  simp at h1
  simp [f19, h1]
end Go.Sh.Ytokpgallfmpmkaa
