/- ArenaPlays, third part: the whole state; gives. Conditions: those of each statement. -/
import Derived.Test.YtocijepcfannnaaAP2
namespace Go.Sh.Ytocijepcfannnaa
open Go Go.Proofs Go.RowKit
set_option linter.unusedVariables false
set_option linter.unusedSimpArgs false
theorem set_same {α : Type} (l : List α) (k : Nat) (x : α) (h : l[k]? = some x) : l.set k x = l := by
  apply List.ext_getElem?
  intro i
  by_cases hi : k = i
  · subst hi
    rw [List.getElem?_set_self (List.getElem?_eq_some_iff.mp h).1, h]
  · rw [List.getElem?_set_ne hi]
structure Al (w : World) (base Wb : Nat) (VA VR VM VB VS : Value) (ar : List An) (mk bs ss : List (Value × List Value)) (n : Int) : Prop where
  hd : Hd w base Wb VA VR VM VB VS (ar.map An.pa) (ar.map An.pr) (mk.map (·.1)) (bs.map (·.1)) (ss.map (·.1)) n
  ars : Ars w base ar
  rm : Rows w base 3 mk
  rb : Rows w base 5 bs
  rs : Rows w base 43 ss
  ml : mk.length = ar.length
  mz : ∀ p ∈ mk, ∃ zs : List Int, p.2 = zs.map (Value.int .i64) ∧ zs ≠ [] ∧ ∀ z ∈ zs, -9223372036854775808 ≤ z ∧ z ≤ 9223372036854775807
  bz : ∀ p ∈ bs, p.2 = List.replicate p.2.length (.int .u8 0) ∧ p.2.length ≤ 1073741824 ∧ ∃ A, p.1 = .slice A p.2.length p.2.length
  sz : ∀ p ∈ ss, p.2 = List.replicate p.2.length (.int .u16 0) ∧ p.2.length ≤ 1073741824 ∧ ∃ A, p.1 = .slice A p.2.length p.2.length
section
variable {w w' : World} {base Wb : Nat} {VA VR VM VB VS : Value} {ar : List An} {mk bs ss : List (Value × List Value)} {n : Int}
theorem Al.new (h : Al w base Wb VA VR VM VB VS ar mk bs ss n) (hg : w.grownBy w' none) : Al w' base Wb VA VR VM VB VS ar mk bs ss n :=
  ⟨h.hd.grew (grew_new (S := fun _ => False) hg) (fun _ _ h => h), h.ars.grew (grew_new (S := fun _ => False) hg) (fun _ _ h => h), h.rm.new hg, h.rb.new hg, h.rs.new hg, h.ml, h.mz, h.bz, h.sz⟩
theorem Al.arena (h : Al w base Wb VA VR VM VB VS ar mk bs ss n) {k : Nat} {x : An} (hk : ar[k]? = some x) : ∃ a c, VA = .slice (some a) ar.length c ∧ w.cell? (a.add k) = some x.pa := by
  obtain ⟨A, c, rfl, _⟩ := own_form h.hd.oa
  have ho := h.hd.oa
  simp only [List.length_map] at ho ⊢
  obtain ⟨a, rfl, hc⟩ := own_cell ho (j := k) (v := x.pa) (by simp [hk])
  exact ⟨a, c, rfl, hc⟩
theorem Al.ref (h : Al w base Wb VA VR VM VB VS ar mk bs ss n) {k : Nat} {x : An} (hk : ar[k]? = some x) : ∃ a c, VR = .slice (some a) ar.length c ∧ w.cell? (a.add k) = some x.pr := by
  obtain ⟨A, c, rfl, _⟩ := own_form h.hd.orr
  have ho := h.hd.orr
  simp only [List.length_map] at ho ⊢
  obtain ⟨a, rfl, hc⟩ := own_cell ho (j := k) (v := x.pr) (by simp [hk])
  exact ⟨a, c, rfl, hc⟩
/-- the head of what has changed within one arena and its twin alone -/
theorem Al.hd_an (h : Al w base Wb VA VR VM VB VS ar mk bs ss n) {x : An} (hx : x.ok w base) (hg : Grew (fun k => k = x.a ∨ k = x.r) w w') : Hd w' base Wb VA VR VM VB VS (ar.map An.pa) (ar.map An.pr) (mk.map (·.1)) (bs.map (·.1)) (ss.map (·.1)) n :=
  h.hd.grew hg fun k hk hs => by
    rcases hs with rfl | rfl
    · exact h.hd.ne hx.ar (by decide) (by decide) (by decide) (by decide) (by decide) (by decide) hk
    · exact h.hd.ne hx.rf (by decide) (by decide) (by decide) (by decide) (by decide) (by decide) hk
theorem rows_an {e : TypeId} {q : List (Value × List Value)} (h : Rows w base e q) {x : An} (hx : x.ok w base) (hg : Grew (fun k => k = x.a ∨ k = x.r) w w') (h1 : e ≠ 65) (h2 : e ≠ 73) : Rows w' base e q :=
  h.grew hg fun k hk hs => by
    rcases hs with rfl | rfl
    · exact h.ne_blk hx.ar h1 hk
    · exact h.ne_blk hx.rf h2 hk
/-- one arena and its twin have changed alike -/
theorem Al.an (h : Al w base Wb VA VR VM VB VS ar mk bs ss n) {k : Nat} {x x' : An} (hk : ar[k]? = some x) (ea : x'.a = x.a) (er : x'.r = x.r) (hg : Grew (fun k => k = x.a ∨ k = x.r) w w') (hx' : x'.ok w' base) :
    Al w' base Wb VA VR VM VB VS (ar.set k x') mk bs ss n := by
  have hx := h.ars.ok x (List.mem_of_getElem? hk)
  have hl := (List.getElem?_eq_some_iff.mp hk).1
  have e1 : (ar.set k x').map An.pa = ar.map An.pa := by
    rw [List.map_set]
    have : An.pa x' = An.pa x := by simp [An.pa, ea]
    rw [this]
    exact set_same _ _ _ (by simp [hk])
  have e2 : (ar.set k x').map An.pr = ar.map An.pr := by
    rw [List.map_set]
    have : An.pr x' = An.pr x := by simp [An.pr, er]
    rw [this]
    exact set_same _ _ _ (by simp [hk])
  exact ⟨by rw [e1, e2]; exact h.hd_an hx hg, h.ars.set hk ea er hg hx', rows_an h.rm hx hg (by decide) (by decide), rows_an h.rb hx hg (by decide) (by decide), rows_an h.rs hx hg (by decide) (by decide), by simpa using h.ml, h.mz, h.bz, h.sz⟩
theorem Hd.num {la lr lm lb ls : List Value} (h : Hd w base Wb VA VR VM VB VS la lr lm lb ls n) (n' : Int) :
    erun Try.prog (Instr.storeAt 3 (.pointer (some ⟨Wb, 5, none⟩)) (.int .i64 n')) w = some ((), w.setCell ⟨Wb, 5, none⟩ (.int .i64 n')) ∧ Hd (w.setCell ⟨Wb, 5, none⟩ (.int .i64 n')) base Wb VA VR VM VB VS la lr lm lb ls n' ∧ Grew (fun k => k = Wb) w (w.setCell ⟨Wb, 5, none⟩ (.int .i64 n')) :=
  ⟨st3 rfl rfl (h.blk.cell_eq 5 rfl) (h.blk.frozen 5), ⟨h.blk.store2 5 _ rfl, h.hW, h.oa.kept (grown_set Wb 5 _) (.inr (own_blk_ne h.oa h.blk (by decide))), h.orr.kept (grown_set Wb 5 _) (.inr (own_blk_ne h.orr h.blk (by decide))), h.om.kept (grown_set Wb 5 _) (.inr (own_blk_ne h.om h.blk (by decide))), h.ob.kept (grown_set Wb 5 _) (.inr (own_blk_ne h.ob h.blk (by decide))), h.os.kept (grown_set Wb 5 _) (.inr (own_blk_ne h.os h.blk (by decide)))⟩, grew_set w 5 _ rfl⟩
end

theorem bs51_1 (a : Option Addr) (n c : Nat) (w : World) : erun Try.prog (Instr.buildSlice 51 1 #[(0, .slice a n c)]) w = some (.slice (some ⟨w.heap.size, 0, none⟩) 1 1, w.alloc (.cells #[.slice a n c] 23)) := id (by kernel_rfl)
theorem bs52_1 (a : Option Addr) (n c : Nat) (w : World) : erun Try.prog (Instr.buildSlice 52 1 #[(0, .slice a n c)]) w = some (.slice (some ⟨w.heap.size, 0, none⟩) 1 1, w.alloc (.cells #[.slice a n c] 37)) := id (by kernel_rfl)
theorem bs50_1 (a : Option Addr) (n c : Nat) (w : World) : erun Try.prog (Instr.buildSlice 50 1 #[(0, .slice a n c)]) w = some (.slice (some ⟨w.heap.size, 0, none⟩) 1 1, w.alloc (.cells #[.slice a n c] 24)) := id (by kernel_rfl)
theorem bs48_1 (a : Option Addr) (w : World) : erun Try.prog (Instr.buildSlice 48 1 #[(0, .pointer a)]) w = some (.slice (some ⟨w.heap.size, 0, none⟩) 1 1, w.alloc (.cells #[.pointer a] 34)) := id (by kernel_rfl)
theorem bs49_1 (a : Option Addr) (w : World) : erun Try.prog (Instr.buildSlice 49 1 #[(0, .pointer a)]) w = some (.slice (some ⟨w.heap.size, 0, none⟩) 1 1, w.alloc (.cells #[.pointer a] 68)) := id (by kernel_rfl)
theorem bs24_1 (a : Int) (w : World) : erun Try.prog (Instr.buildSlice 24 1 #[(0, .int .i64 a)]) w = some (.slice (some ⟨w.heap.size, 0, none⟩) 1 1, w.alloc (.cells #[.int .i64 a] 3)) := id (by kernel_rfl)

/-- Bytes of an arena and Take of its twin -/
theorem take_b {w : World} {base : Nat} {x : An} (hx : x.ok w base) (hb : base ≤ w.heap.size) (r : Int) (r0 : -9223372036854775808 ≤ r) (r1 : r ≤ 9223372036854775807) :
    ∃ (v : Value) (xs : List Value) (e : Int) (w1 w2 : World) (x' : An), C 15 #[.pointer (some ⟨x.a, 0, none⟩), .int .i64 r] w = some (.tuple #[v, .int .i64 e], w1) ∧ C 31 #[.pointer (some ⟨x.r, 0, none⟩), .int .i64 r, .int .i64 1] w1 = some (.int .i64 e, w2) ∧
      x'.ok w2 base ∧ x'.a = x.a ∧ x'.r = x.r ∧ Grew (fun k => k = x.a ∨ k = x.r) w w1 ∧ Grew (fun k => k = x.a ∨ k = x.r) w w2 ∧ w2.ownsRow base 5 1 v xs.length xs ∧ xs = List.replicate xs.length (.int .u8 0) ∧ (∀ k, v.ownBlock = some k → w.heap.size ≤ k) ∧
      (∃ A, v = .slice A xs.length xs.length) ∧ xs.length ≤ 1073741824 ∧ ((e = 0 ∧ r = xs.length) ∨ (e ≠ 0 ∧ xs = [])) := by
  have g0 := hx.g0
  have gm := hx.gm
  have mM := hx.mM
  by_cases h1 : r < 0
  · have a1 := bytes_neg (w := w) (b := x.a) (m := 0) (g := 0) (k := 0) r h1
    have a2 := rtake_neg (w := w) (b := x.r) r 1 h1
    exact ⟨.slice none 0 0, [], 1, w, w, x, a1, a2, hx, rfl, rfl, Grew.refl _ _, Grew.refl _ _, World.ownsRow_nil _ _ _ _, rfl, (fun k hk => by cases hk), ⟨none, rfl⟩, by simp, .inr ⟨by decide, rfl⟩⟩
  · by_cases h2 : x.m - x.g < 1 * r
    · have a1 := bytes_no hx.ar hx.g0 hx.gm hx.mM r (by omega)
      have hr : Rf w.drew x.r x.m x.g x.t := hx.rf
      have a2 := rtake_no hr hx.g0 hx.gm hx.mM r 1 (by omega) (by omega) (by omega)
      exact ⟨.slice none 0 0, [], 111, w.drew, w.drew.drew, x, a1, a2, ⟨hx.ar, hx.rf, hx.ha, hx.hr, hx.g0, hx.gm, hx.mM⟩, rfl, rfl, Grew.drew _ _, (Grew.drew _ _).step (Grew.drew _ _), World.ownsRow_nil _ _ _ _, rfl, (fun k hk => by cases hk), ⟨none, rfl⟩, by simp, .inr ⟨by decide, rfl⟩⟩
    · obtain ⟨r, rfl⟩ := Int.eq_ofNat_of_zero_le (show 0 ≤ r by omega)
      obtain ⟨B, w1, a1, A1, b1, s1, g1⟩ := bytes_ok hx.ar hx.g0 hx.gm hx.mM r (by omega)
      have hne := hx.ne hx
      have G1 : Grew (fun k => k = x.a ∨ k = x.r) w w1 := grew_of g1 fun k hk => by cases hk; exact .inl (.inl rfl)
      have R1 : Rf w1 x.r x.m x.g x.t := Blk.grown hx.rf g1 (by simp; exact hne)
      obtain ⟨w2, a2, R2, g2⟩ := rtake_ok R1 hx.g0 hx.gm hx.mM r 1 (by omega) (by omega)
      have hlt := Blk.lt hx.rf
      have A2 : Ar w2 x.a x.m (x.g + r) (max x.t (x.g + r)) := Blk.grown A1 g2 (by simp; exact fun e => hne e.symm)
      have b2 : Blk w2 B 5 (List.replicate r (.int .u8 0)) := b1.grown g2 (by simp; omega)
      have e2 : x.g + 1 * (r : Int) = x.g + r := by omega
      rw [e2] at R2
      refine ⟨.slice (some ⟨B, 0, none⟩) r r, List.replicate r (.int .u8 0), 0, w1, w2, ⟨x.a, x.r, x.m, x.g + r, max x.t (x.g + r)⟩, a1, a2, ⟨A2, R2, hx.ha, hx.hr, (show 0 ≤ x.g + r by omega), (show x.g + r ≤ x.m by omega), hx.mM⟩, rfl, rfl, G1, G1.step (grew_of g2 fun k hk => by cases hk; exact .inl (.inr rfl)), ?_, by simp, fun k hk => ?_, ⟨some ⟨B, 0, none⟩, by simp⟩, by simp; omega, .inl ⟨rfl, by simp⟩⟩
      · have := blk_own (base := base) (size := 1) (n := r) b2 (by simp) (by omega) (by simp [maxLen]; omega)
        simpa using this
      · simp [Value.ownBlock] at hk; omega

/-- Samples of an arena and Take of its twin -/
theorem take_s {w : World} {base : Nat} {x : An} (hx : x.ok w base) (hb : base ≤ w.heap.size) (r : Int) (r0 : -9223372036854775808 ≤ r) (r1 : r ≤ 9223372036854775807) :
    ∃ (v : Value) (xs : List Value) (e : Int) (w1 w2 : World) (x' : An), C 13 #[.pointer (some ⟨x.a, 0, none⟩), .int .i64 r] w = some (.tuple #[v, .int .i64 e], w1) ∧ C 31 #[.pointer (some ⟨x.r, 0, none⟩), .int .i64 r, .int .i64 2] w1 = some (.int .i64 e, w2) ∧
      x'.ok w2 base ∧ x'.a = x.a ∧ x'.r = x.r ∧ Grew (fun k => k = x.a ∨ k = x.r) w w1 ∧ Grew (fun k => k = x.a ∨ k = x.r) w w2 ∧ w2.ownsRow base 43 1 v xs.length xs ∧ xs = List.replicate xs.length (.int .u16 0) ∧ (∀ k, v.ownBlock = some k → w.heap.size ≤ k) ∧
      (∃ A, v = .slice A xs.length xs.length) ∧ xs.length ≤ 1073741824 ∧ ((e = 0 ∧ r = xs.length) ∨ (e ≠ 0 ∧ xs = [])) := by
  have g0 := hx.g0
  have gm := hx.gm
  have mM := hx.mM
  by_cases h1 : r < 0
  · have a1 := samples_neg (w := w) (b := x.a) (m := 0) (g := 0) (k := 0) r h1
    have a2 := rtake_neg (w := w) (b := x.r) r 2 h1
    exact ⟨.slice none 0 0, [], 1, w, w, x, a1, a2, hx, rfl, rfl, Grew.refl _ _, Grew.refl _ _, World.ownsRow_nil _ _ _ _, rfl, (fun k hk => by cases hk), ⟨none, rfl⟩, by simp, .inr ⟨by decide, rfl⟩⟩
  · by_cases h2 : x.m - x.g < 2 * r
    · have a1 := samples_no hx.ar hx.g0 hx.gm hx.mM r (by omega)
      have hr : Rf w.drew x.r x.m x.g x.t := hx.rf
      have a2 := rtake_no hr hx.g0 hx.gm hx.mM r 2 (by omega) (by omega) (by omega)
      exact ⟨.slice none 0 0, [], 111, w.drew, w.drew.drew, x, a1, a2, ⟨hx.ar, hx.rf, hx.ha, hx.hr, hx.g0, hx.gm, hx.mM⟩, rfl, rfl, Grew.drew _ _, (Grew.drew _ _).step (Grew.drew _ _), World.ownsRow_nil _ _ _ _, rfl, (fun k hk => by cases hk), ⟨none, rfl⟩, by simp, .inr ⟨by decide, rfl⟩⟩
    · obtain ⟨r, rfl⟩ := Int.eq_ofNat_of_zero_le (show 0 ≤ r by omega)
      obtain ⟨B, w1, a1, A1, b1, s1, g1⟩ := samples_ok hx.ar hx.g0 hx.gm hx.mM r (by omega)
      have hne := hx.ne hx
      have G1 : Grew (fun k => k = x.a ∨ k = x.r) w w1 := grew_of g1 fun k hk => by cases hk; exact .inl (.inl rfl)
      have R1 : Rf w1 x.r x.m x.g x.t := Blk.grown hx.rf g1 (by simp; exact hne)
      obtain ⟨w2, a2, R2, g2⟩ := rtake_ok R1 hx.g0 hx.gm hx.mM r 2 (by omega) (by omega)
      have hlt := Blk.lt hx.rf
      have A2 : Ar w2 x.a x.m (x.g + 2 * r) (max x.t (x.g + 2 * r)) := Blk.grown A1 g2 (by simp; exact fun e => hne e.symm)
      have b2 : Blk w2 B 43 (List.replicate r (.int .u16 0)) := b1.grown g2 (by simp; omega)
      have e2 : x.g + 2 * (r : Int) = x.g + 2 * r := by omega
      rw [e2] at R2
      refine ⟨.slice (some ⟨B, 0, none⟩) r r, List.replicate r (.int .u16 0), 0, w1, w2, ⟨x.a, x.r, x.m, x.g + 2 * r, max x.t (x.g + 2 * r)⟩, a1, a2, ⟨A2, R2, hx.ha, hx.hr, (show 0 ≤ x.g + 2 * r by omega), (show x.g + 2 * r ≤ x.m by omega), hx.mM⟩, rfl, rfl, G1, G1.step (grew_of g2 fun k hk => by cases hk; exact .inl (.inr rfl)), ?_, by simp, fun k hk => ?_, ⟨some ⟨B, 0, none⟩, by simp⟩, by simp; omega, .inl ⟨rfl, by simp⟩⟩
      · have := blk_own (base := base) (size := 1) (n := r) b2 (by simp) (by omega) (by simp [maxLen]; omega)
        simpa using this
      · simp [Value.ownBlock] at hk; omega

theorem gives_b {w : World} {base Wb : Nat} {VA VR VM VB VS : Value} {ar : List An} {mk bs ss : List (Value × List Value)} {n : Int} (h : Al w base Wb VA VR VM VB VS ar mk bs ss n) (hb : base ≤ w.heap.size) {k : Nat} {x : An} (hk : ar[k]? = some x) (o N : Int)
    (N0 : -9223372036854775808 ≤ N) (N1 : N ≤ 9223372036854775807) (hn0 : 0 ≤ n) (hn : n ≤ 2147483647) (hal : ar.length ≤ maxLen) (hl : (bs.length + 1) * 24 ≤ 140737488355328) :
    ∃ V' w' x' v xs, C 28 #[.pointer (some ⟨Wb, 0, none⟩), .int .i64 k, .agg #[.int .i64 2, .int .i64 o, .int .i64 N]] w = some (.bool true, w') ∧ Al w' base Wb VA VR VM V' VS (ar.set k x') mk (bs ++ [(v, xs)]) ss (n + xs.length) ∧ xs.length ≤ 1073741824 ∧ Grew (fun k => base ≤ k) w w' := by
  have hx := h.ars.ok x (List.mem_of_getElem? hk)
  have hkl := (List.getElem?_eq_some_iff.mp hk).1
  obtain ⟨W0, hW0⟩ : ∃ W0, W0 = w.alloc (.cells #[.int .i64 2, .int .i64 o, .int .i64 N] 57) := ⟨_, rfl⟩
  have g0 : w.grownBy W0 none := hW0 ▸ World.grownBy_alloc w _ none
  have b0 : Blk W0 w.heap.size 57 [.int .i64 2, .int .i64 o, .int .i64 N] := hW0 ▸ Blk.new w 57 [.int .i64 2, .int .i64 o, .int .i64 N]
  have h0 := h.new g0
  have hx0 := h0.ars.ok x (List.mem_of_getElem? hk)
  obtain ⟨r, a1, r0, r1⟩ := asked_ok N N0 N1 W0
  obtain ⟨v, xs, e, w1, w2, x', a2, a3, ok2, ea, er, G1, G2, o2, hz, hv, ⟨A2, rfl⟩, hxs, hcase⟩ := take_b hx0 (Nat.le_trans hb g0.size) r r0 r1
  have al2 := h0.an hk ea er G2 ok2
  obtain ⟨aA, cA, rfl, cellA⟩ := h0.arena hk
  have hd1 := h0.hd_an hx0 G1
  obtain ⟨aR, cR, rfl, _⟩ := h0.ref hk
  have cellR : w1.cell? (aR.add k) = some x.pr := by
    have := hd1.orr
    simp only [List.length_map] at this
    obtain ⟨a, e, hc⟩ := own_cell this (j := k) (v := x.pr) (by simp [hk])
    cases e
    exact hc
  have iA := ix48 aA ar.length cA .i64 k (by omega) (by omega)
  have iR := ix49 aR ar.length cR .i64 k (by omega) (by omega)
  simp only [Int.toNat_natCast, Nat.mul_one] at iA iR
  have W2b : base ≤ w2.heap.size := Nat.le_trans hb (Nat.le_trans g0.size G2.size)
  obtain ⟨V', w3, w4, p1, p2, hd4, G4, k4⟩ := al2.hd.push_b (x := .slice A2 xs.length xs.length) rfl (by simpa using hl) W2b
  obtain ⟨q1, hd5, G5⟩ := hd4.num (n + xs.length)
  have e1 : IntKind.i64.wrap (n + xs.length) = n + xs.length := wrap_i64 (by omega) (by omega)
  skip
  have row2 : Rows w2 base 5 (bs ++ [(.slice A2 xs.length xs.length, xs)]) := al2.rb.push o2 fun j hj hf => by
    have h1 := (h0.rb.ge hf).2
    have h2 := hv j hj
    omega
  have G45 : Grew (fun k => k = Wb ∨ VB.ownBlock = some k) w2 _ := G4.step (G5.weak fun k hk => .inl (.inl hk))
  have dm : ∀ j, (j = Wb ∨ VB.ownBlock = some j) → ¬ rfp mk j := by
    rintro j (rfl | hj)
    · exact al2.rm.ne_blk al2.hd.blk (by decide)
    · exact al2.rm.ne_own al2.hd.ob (by decide) hj
  have db : ∀ j, (j = Wb ∨ VB.ownBlock = some j) → ¬ rfp (bs ++ [(.slice A2 xs.length xs.length, xs)]) j := by
    rintro j (rfl | hj)
    · exact row2.ne_blk al2.hd.blk (by decide)
    · exact row2.ne_own al2.hd.ob (by decide) hj
  have ds : ∀ j, (j = Wb ∨ VB.ownBlock = some j) → ¬ rfp ss j := by
    rintro j (rfl | hj)
    · exact al2.rs.ne_blk al2.hd.blk (by decide)
    · exact al2.rs.ne_own al2.hd.ob (by decide) hj
  have da : ∀ j, (j = Wb ∨ VB.ownBlock = some j) → ¬ afp (ar.set k x') j := by
    rintro j hj ⟨y, hy, e⟩
    have hyo := al2.ars.ok y hy
    rcases hj with rfl | hj
    · rcases e with e | e
      · have h1 := al2.hd.blk; have h2 := hyo.ar; unfold Ar at h2; rw [← e] at h2; unfold Blk at h1 h2; rw [h1] at h2; simp at h2
      · have h1 := al2.hd.blk; have h2 := hyo.rf; unfold Rf at h2; rw [← e] at h2; unfold Blk at h1 h2; rw [h1] at h2; simp at h2
    · rcases e with rfl | rfl
      · exact own_blk_ne al2.hd.ob hyo.ar (by decide) hj
      · exact own_blk_ne al2.hd.ob hyo.rf (by decide) hj
  refine ⟨V', _, x', .slice A2 xs.length xs.length, xs, f28.run rfl ?_, ⟨by simpa using hd5, al2.ars.grew G45 (fun j h1 h2 => da j h2 h1), al2.rm.grew G45 (fun j h1 h2 => dm j h2 h1), row2.grew G45 (fun j h1 h2 => db j h2 h1), al2.rs.grew G45 (fun j h1 h2 => ds j h2 h1), by simpa using al2.ml, al2.mz, (fun p hp => by simp only [List.mem_append, List.mem_singleton] at hp; rcases hp with hp | rfl; exact al2.bz p hp; exact ⟨hz, hxs, A2, rfl⟩), al2.sz⟩, hxs, ?_⟩
  · rcases hcase with ⟨rfl, rfl⟩ | ⟨hne, hx0⟩
    · simp [f28, box_any, Value.cells, addL, ← hW0, b0.cell_eq 2 rfl, b0.cell_eq 0 rfl, a1, h0.hd.blk.cell_eq 0 rfl, iA, cellA, An.pa, a2, hd1.blk.cell_eq 1 rfl, iR, cellR, An.pr, a3, al2.hd.blk.cell_eq 3 rfl, bs51_1, p1, p2, hd4.blk.cell_eq 5 rfl, e1,  q1]
    · subst hx0
      simp at e1 q1 p1
      simp [f28, box_any, Value.cells, addL, ← hW0, b0.cell_eq 2 rfl, b0.cell_eq 0 rfl, a1, h0.hd.blk.cell_eq 0 rfl, iA, cellA, An.pa, a2, hd1.blk.cell_eq 1 rfl, iR, cellR, An.pr, a3, hne, al2.hd.blk.cell_eq 3 rfl, bs51_1, p1, p2, hd4.blk.cell_eq 5 rfl, show IntKind.i64.wrap 0 = 0 from rfl, e1, q1]
  · refine (grew_new g0).step (((G2.weak (S := fun k => base ≤ k) fun j hj => ?_)).step (G45.weak fun j hj => ?_))
    · rcases hj with rfl | rfl
      · exact .inl hx.ha
      · exact .inl hx.hr
    · rcases hj with rfl | hj
      · exact .inl h.hd.hW
      · exact .inl (al2.hd.ob.lt j hj).1

theorem gives_s {w : World} {base Wb : Nat} {VA VR VM VB VS : Value} {ar : List An} {mk bs ss : List (Value × List Value)} {n : Int} (h : Al w base Wb VA VR VM VB VS ar mk bs ss n) (hb : base ≤ w.heap.size) {k : Nat} {x : An} (hk : ar[k]? = some x) (o N : Int)
    (N0 : -9223372036854775808 ≤ N) (N1 : N ≤ 9223372036854775807) (hn0 : 0 ≤ n) (hn : n ≤ 2147483647) (hal : ar.length ≤ maxLen) (hl : (ss.length + 1) * 24 ≤ 140737488355328) :
    ∃ V' w' x' v xs, C 28 #[.pointer (some ⟨Wb, 0, none⟩), .int .i64 k, .agg #[.int .i64 3, .int .i64 o, .int .i64 N]] w = some (.bool true, w') ∧ Al w' base Wb VA VR VM VB V' (ar.set k x') mk bs (ss ++ [(v, xs)]) (n + 2 * xs.length) ∧ xs.length ≤ 1073741824 ∧ Grew (fun k => base ≤ k) w w' := by
  have hx := h.ars.ok x (List.mem_of_getElem? hk)
  have hkl := (List.getElem?_eq_some_iff.mp hk).1
  obtain ⟨W0, hW0⟩ : ∃ W0, W0 = w.alloc (.cells #[.int .i64 3, .int .i64 o, .int .i64 N] 57) := ⟨_, rfl⟩
  have g0 : w.grownBy W0 none := hW0 ▸ World.grownBy_alloc w _ none
  have b0 : Blk W0 w.heap.size 57 [.int .i64 3, .int .i64 o, .int .i64 N] := hW0 ▸ Blk.new w 57 [.int .i64 3, .int .i64 o, .int .i64 N]
  have h0 := h.new g0
  have hx0 := h0.ars.ok x (List.mem_of_getElem? hk)
  obtain ⟨r, a1, r0, r1⟩ := asked_ok N N0 N1 W0
  obtain ⟨v, xs, e, w1, w2, x', a2, a3, ok2, ea, er, G1, G2, o2, hz, hv, ⟨A2, rfl⟩, hxs, hcase⟩ := take_s hx0 (Nat.le_trans hb g0.size) r r0 r1
  have al2 := h0.an hk ea er G2 ok2
  obtain ⟨aA, cA, rfl, cellA⟩ := h0.arena hk
  have hd1 := h0.hd_an hx0 G1
  obtain ⟨aR, cR, rfl, _⟩ := h0.ref hk
  have cellR : w1.cell? (aR.add k) = some x.pr := by
    have := hd1.orr
    simp only [List.length_map] at this
    obtain ⟨a, e, hc⟩ := own_cell this (j := k) (v := x.pr) (by simp [hk])
    cases e
    exact hc
  have iA := ix48 aA ar.length cA .i64 k (by omega) (by omega)
  have iR := ix49 aR ar.length cR .i64 k (by omega) (by omega)
  simp only [Int.toNat_natCast, Nat.mul_one] at iA iR
  have W2b : base ≤ w2.heap.size := Nat.le_trans hb (Nat.le_trans g0.size G2.size)
  obtain ⟨V', w3, w4, p1, p2, hd4, G4, k4⟩ := al2.hd.push_s (x := .slice A2 xs.length xs.length) rfl (by simpa using hl) W2b
  obtain ⟨q1, hd5, G5⟩ := hd4.num (n + 2 * xs.length)
  have e1 : IntKind.i64.wrap (n + 2 * xs.length) = n + 2 * xs.length := wrap_i64 (by omega) (by omega)
  have e3 : IntKind.i64.wrap (2 * (xs.length : Int)) = 2 * xs.length := wrap_i64 (by omega) (by omega)
  have row2 : Rows w2 base 43 (ss ++ [(.slice A2 xs.length xs.length, xs)]) := al2.rs.push o2 fun j hj hf => by
    have h1 := (h0.rs.ge hf).2
    have h2 := hv j hj
    omega
  have G45 : Grew (fun k => k = Wb ∨ VS.ownBlock = some k) w2 _ := G4.step (G5.weak fun k hk => .inl (.inl hk))
  have dm : ∀ j, (j = Wb ∨ VS.ownBlock = some j) → ¬ rfp mk j := by
    rintro j (rfl | hj)
    · exact al2.rm.ne_blk al2.hd.blk (by decide)
    · exact al2.rm.ne_own al2.hd.os (by decide) hj
  have db : ∀ j, (j = Wb ∨ VS.ownBlock = some j) → ¬ rfp bs j := by
    rintro j (rfl | hj)
    · exact al2.rb.ne_blk al2.hd.blk (by decide)
    · exact al2.rb.ne_own al2.hd.os (by decide) hj
  have ds : ∀ j, (j = Wb ∨ VS.ownBlock = some j) → ¬ rfp (ss ++ [(.slice A2 xs.length xs.length, xs)]) j := by
    rintro j (rfl | hj)
    · exact row2.ne_blk al2.hd.blk (by decide)
    · exact row2.ne_own al2.hd.os (by decide) hj
  have da : ∀ j, (j = Wb ∨ VS.ownBlock = some j) → ¬ afp (ar.set k x') j := by
    rintro j hj ⟨y, hy, e⟩
    have hyo := al2.ars.ok y hy
    rcases hj with rfl | hj
    · rcases e with e | e
      · have h1 := al2.hd.blk; have h2 := hyo.ar; unfold Ar at h2; rw [← e] at h2; unfold Blk at h1 h2; rw [h1] at h2; simp at h2
      · have h1 := al2.hd.blk; have h2 := hyo.rf; unfold Rf at h2; rw [← e] at h2; unfold Blk at h1 h2; rw [h1] at h2; simp at h2
    · rcases e with rfl | rfl
      · exact own_blk_ne al2.hd.os hyo.ar (by decide) hj
      · exact own_blk_ne al2.hd.os hyo.rf (by decide) hj
  refine ⟨V', _, x', .slice A2 xs.length xs.length, xs, f28.run rfl ?_, ⟨by simpa using hd5, al2.ars.grew G45 (fun j h1 h2 => da j h2 h1), al2.rm.grew G45 (fun j h1 h2 => dm j h2 h1), al2.rb.grew G45 (fun j h1 h2 => db j h2 h1), row2.grew G45 (fun j h1 h2 => ds j h2 h1), by simpa using al2.ml, al2.mz, al2.bz, (fun p hp => by simp only [List.mem_append, List.mem_singleton] at hp; rcases hp with hp | rfl; exact al2.sz p hp; exact ⟨hz, hxs, A2, rfl⟩)⟩, hxs, ?_⟩
  · rcases hcase with ⟨rfl, rfl⟩ | ⟨hne, hx0⟩
    · simp [f28, box_any, Value.cells, addL, ← hW0, b0.cell_eq 2 rfl, b0.cell_eq 0 rfl, a1, h0.hd.blk.cell_eq 0 rfl, iA, cellA, An.pa, a2, hd1.blk.cell_eq 1 rfl, iR, cellR, An.pr, a3, al2.hd.blk.cell_eq 4 rfl, bs52_1, p1, p2, hd4.blk.cell_eq 5 rfl, e1, e3, q1]
    · subst hx0
      simp at e1 q1 p1
      simp [f28, box_any, Value.cells, addL, ← hW0, b0.cell_eq 2 rfl, b0.cell_eq 0 rfl, a1, h0.hd.blk.cell_eq 0 rfl, iA, cellA, An.pa, a2, hd1.blk.cell_eq 1 rfl, iR, cellR, An.pr, a3, hne, al2.hd.blk.cell_eq 4 rfl, bs52_1, p1, p2, hd4.blk.cell_eq 5 rfl, show IntKind.i64.wrap 0 = 0 from rfl, e1, q1]
  · refine (grew_new g0).step (((G2.weak (S := fun k => base ≤ k) fun j hj => ?_)).step (G45.weak fun j hj => ?_))
    · rcases hj with rfl | rfl
      · exact .inl hx.ha
      · exact .inl hx.hr
    · rcases hj with rfl | hj
      · exact .inl h.hd.hW
      · exact .inl (al2.hd.os.lt j hj).1
end Go.Sh.Ytocijepcfannnaa
