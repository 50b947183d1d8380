/- ArenaPlays, first part: the document's arena, the script's world. Conditions: those of each statement. -/
import Derived.Test.YtocijepcfannnaaAR
import Derived.Test.YtocijepcfannnaaShOwn
namespace Go.Sh.Ytocijepcfannnaa
open Go Go.Proofs Go.RowKit
set_option linter.unusedVariables false
set_option linter.unusedSimpArgs false

/-! ### the document's arena -/
def Rf (w : World) (b : Nat) (m g k : Int) : Prop := Blk w b 73 [.int .i64 m, .int .i64 g, .int .i64 k]
theorem Rf.c0 {w : World} {b : Nat} {m g k : Int} (h : Rf w b m g k) : w.cell? ⟨b, 0, none⟩ = some (.int .i64 m) := Blk.cell_eq h 0 rfl
theorem Rf.c1 {w : World} {b : Nat} {m g k : Int} (h : Rf w b m g k) : w.cell? ⟨b, 1, none⟩ = some (.int .i64 g) := Blk.cell_eq h 1 rfl
theorem Rf.c2 {w : World} {b : Nat} {m g k : Int} (h : Rf w b m g k) : w.cell? ⟨b, 2, none⟩ = some (.int .i64 k) := Blk.cell_eq h 2 rfl
theorem build73 (m : Int) : prun Try.prog (Instr.build 73 #[(0, .int .i64 m)]) = some (.agg #[.int .i64 m, .int .i64 0, .int .i64 0]) := id (by kernel_rfl)
theorem rnew_bad (m : Int) (w : World) (h : ¬ (0 ≤ m ∧ m ≤ 1073741824)) : C 27 #[.int .i64 m] w = some (.tuple #[.pointer none, .int .i64 1], w) := by
  refine f27.run rfl ?_
  by_cases h1 : m < 0
  · simp [f27, h1]
  · have h2 : m > 1073741824 := by omega
    simp [f27, h1, h2]
theorem rnew_ok (m : Int) (w : World) (h0 : 0 ≤ m) (h1 : m ≤ 1073741824) :
    ∃ w', C 27 #[.int .i64 m] w = some (.tuple #[.pointer (some ⟨w.heap.size, 0, none⟩), .int .i64 0], w') ∧ Rf w' w.heap.size m 0 0 ∧ w.grownBy w' none := by
  refine ⟨w.alloc (.cells #[.int .i64 m, .int .i64 0, .int .i64 0] 73), f27.run rfl ?_, Blk.new w 73 [.int .i64 m, .int .i64 0, .int .i64 0], World.grownBy_alloc w _ none⟩
  simp (disch := omega) [f27, lt_f, build73, box_any, Value.cells]
theorem rrel_bad {w : World} {b : Nat} {m g k : Int} (h : Rf w b m g k) (x : Int) (hx : ¬ (0 ≤ x ∧ x ≤ g)) : C 29 #[.pointer (some ⟨b, 0, none⟩), .int .i64 x] w = some (.int .i64 1, w) := by
  refine f29.run rfl ?_
  by_cases h1 : x < 0
  · simp [f29, h1]
  · have h2 : x > g := by omega
    simp [f29, h1, addL, h.c1, h2]
theorem rrel_ok {w : World} {b : Nat} {m g k : Int} (h : Rf w b m g k) (x : Int) (h0 : 0 ≤ x) (h1 : x ≤ g) :
    ∃ w', C 29 #[.pointer (some ⟨b, 0, none⟩), .int .i64 x] w = some (.int .i64 0, w') ∧ Rf w' b m x k ∧ w.grownBy w' (some b) := by
  refine ⟨w.setCell ⟨b, 1, none⟩ (.int .i64 x), f29.run rfl ?_, Blk.set h 1 _, grown_set b 1 _⟩
  have hs := st3 (v := .int .i64 x) rfl rfl h.c1 (Blk.frozen h 1)
  simp (disch := omega) [f29, addL, h.c1, lt_f, hs]
theorem rtake_neg {w : World} {b : Nat} (n s : Int) (hn : n < 0) : C 31 #[.pointer (some ⟨b, 0, none⟩), .int .i64 n, .int .i64 s] w = some (.int .i64 1, w) := by
  refine f31.run rfl ?_
  simp [f31, hn]
theorem rtake_no {w : World} {b : Nat} {m g k : Int} (h : Rf w b m g k) (hg : 0 ≤ g) (hm : g ≤ m) (hM : m ≤ 1073741824) (n : Int) (s : Int) (hs : s = 1 ∨ s = 2) (hn : 0 ≤ n) (hx : m - g < s * n) :
    C 31 #[.pointer (some ⟨b, 0, none⟩), .int .i64 n, .int .i64 s] w = some (.int .i64 111, w.drew) := by
  refine f31.run rfl ?_
  have e1 : IntKind.i64.wrap (m - g) = m - g := wrap_i64 (by omega) (by omega)
  have e2 : (m - g).tdiv s = (m - g) / s := Int.tdiv_eq_ediv_of_nonneg (by omega)
  have s0 : s ≠ 0 := by omega
  have e4 : IntKind.i64.wrap ((m - g) / s) = (m - g) / s := by rcases hs with rfl | rfl <;> exact wrap_i64 (by omega) (by omega)
  have hgt : (m - g) / s < n := by rcases hs with rfl | rfl <;> omega
  simp (disch := omega) [f31, addL, h.c0, h.c1, e1, bin_quo, s0, e2, e4, lt_f, lt_t]
theorem rtake_ok {w : World} {b : Nat} {m g k : Int} (h : Rf w b m g k) (hg : 0 ≤ g) (hm : g ≤ m) (hM : m ≤ 1073741824) (n : Nat) (s : Int) (hs : s = 1 ∨ s = 2) (hx : s * (n : Int) ≤ m - g) :
    ∃ w', C 31 #[.pointer (some ⟨b, 0, none⟩), .int .i64 n, .int .i64 s] w = some (.int .i64 0, w') ∧ Rf w' b m (g + s * n) (max k (g + s * n)) ∧ w.grownBy w' (some b) := by
  have e1 : IntKind.i64.wrap (m - g) = m - g := wrap_i64 (by omega) (by omega)
  have e2 : (m - g).tdiv s = (m - g) / s := Int.tdiv_eq_ediv_of_nonneg (by omega)
  have s0 : s ≠ 0 := by omega
  have e4 : IntKind.i64.wrap ((m - g) / s) = (m - g) / s := by rcases hs with rfl | rfl <;> exact wrap_i64 (by omega) (by omega)
  have hgt : (n : Int) ≤ (m - g) / s := by rcases hs with rfl | rfl <;> omega
  have hsn : 0 ≤ s * (n : Int) := by rcases hs with rfl | rfl <;> omega
  obtain ⟨y, hy⟩ : ∃ y, y = s * (n : Int) := ⟨_, rfl⟩
  rw [← hy] at hx hsn ⊢
  have e5 : IntKind.i64.wrap y = y := wrap_i64 (by omega) (by omega)
  have e6 : IntKind.i64.wrap (g + y) = g + y := wrap_i64 (by omega) (by omega)
  have mx : (if g + y > k then g + y else k) = max k (g + y) := by omega
  obtain ⟨W1, hW1⟩ : ∃ W1, W1 = w.drew.setCell ⟨b, 1, none⟩ (.int .i64 (g + y)) := ⟨_, rfl⟩
  have hd : Rf w.drew b m g k := h
  have s1 := st3 (v := .int .i64 (g + y)) rfl rfl hd.c1 (Blk.frozen hd 1)
  have A1 : Rf W1 b m (g + y) k := hW1 ▸ Blk.set hd 1 _
  have G1 : w.grownBy W1 (some b) := hW1 ▸ grown_step (grown_drew w _) (grown_set b 1 _)
  rw [← hW1] at s1
  have hd1 : Rf W1.drew b m (g + y) k := A1
  have s2 := st3 (v := .int .i64 (max k (g + y))) rfl rfl hd1.c2 (Blk.frozen hd1 2)
  refine ⟨_, f31.run rfl ?_, Blk.set hd1 2 _, grown_step G1 (grown_step (grown_drew W1 _) (grown_set b 2 (.int .i64 (max k (g + y)))))⟩
  simp (disch := omega) [f31, addL, h.c0, h.c1, e1, bin_quo, s0, e2, e4, lt_f, ← hy, e5, e6, s1, A1.c1, A1.c2, max3, mx, s2]
theorem asked_ok (n : Int) (h0 : -9223372036854775808 ≤ n) (h1 : n ≤ 9223372036854775807) (w : World) : ∃ r : Int, C 30 #[.int .i64 n] w = some (.int .i64 r, w) ∧ -9223372036854775808 ≤ r ∧ r ≤ 9223372036854775807 := by
  by_cases c1 : 262144 ≤ n
  · by_cases c2 : n ≤ 2147483648
    · have e : n.tmod 262144 = n % 262144 := Int.tmod_eq_emod_of_nonneg (by omega)
      refine ⟨n % 262144, f30.run rfl ?_, by omega, by omega⟩
      simp (disch := omega) [f30, c1, c2, bin_rem, e]
    · refine ⟨n, f30.run rfl ?_, h0, h1⟩
      simp [f30, c1, c2]
  · refine ⟨n, f30.run rfl ?_, h0, h1⟩
    simp [f30, c1]

/-! ### the script's world -/
structure An where
  a : Nat
  r : Nat
  m : Int
  g : Int
  t : Int
def An.pa (x : An) : Value := .pointer (some ⟨x.a, 0, none⟩)
def An.pr (x : An) : Value := .pointer (some ⟨x.r, 0, none⟩)
structure An.ok (x : An) (w : World) (base : Nat) : Prop where
  ar : Ar w x.a x.m x.g x.t
  rf : Rf w x.r x.m x.g x.t
  ha : base ≤ x.a
  hr : base ≤ x.r
  g0 : 0 ≤ x.g
  gm : x.g ≤ x.m
  mM : x.m ≤ 1073741824
/-- all arenas -/
structure Ars (w : World) (base : Nat) (l : List An) : Prop where
  ok : ∀ x ∈ l, x.ok w base
  dis : ∀ (i j : Nat) x y, l[i]? = some x → l[j]? = some y → i ≠ j → x.a ≠ y.a ∧ x.r ≠ y.r
section
variable {w w' : World} {base : Nat} {l : List An} {S : Nat → Prop}
theorem An.ok.ne {x y : An} (hx : x.ok w base) (hy : y.ok w base) : x.a ≠ y.r := fun e => by
  have h1 := hx.ar; have h2 := hy.rf
  unfold Ar Rf at *
  rw [e] at h1
  unfold Blk at h1 h2
  rw [h1] at h2
  simp at h2
theorem An.ok.grew {x : An} (h : x.ok w base) (hg : Grew S w w') (h1 : ¬ S x.a) (h2 : ¬ S x.r) : x.ok w' base := ⟨Blk.grew h.ar hg h1, Blk.grew h.rf hg h2, h.ha, h.hr, h.g0, h.gm, h.mM⟩
def afp (l : List An) : Nat → Prop := fun k => ∃ x ∈ l, k = x.a ∨ k = x.r
theorem Ars.grew (h : Ars w base l) (hg : Grew S w w') (hn : ∀ k, afp l k → ¬ S k) : Ars w' base l := ⟨fun x hx => (h.ok x hx).grew hg (hn _ ⟨x, hx, .inl rfl⟩) (hn _ ⟨x, hx, .inr rfl⟩), h.dis⟩
theorem Ars.push (h : Ars w base l) {x : An} (hx : x.ok w base) (hn : ¬ afp l x.a ∧ ¬ afp l x.r) : Ars w base (l ++ [x]) := by
  refine ⟨fun y hy => ?_, fun i j y z hi hj hne => ?_⟩
  · simp only [List.mem_append, List.mem_singleton] at hy
    rcases hy with hy | rfl
    · exact h.ok y hy
    · exact hx
  · have li := (List.getElem?_eq_some_iff.mp hi).1
    have lj := (List.getElem?_eq_some_iff.mp hj).1
    simp only [List.length_append, List.length_singleton] at li lj
    by_cases i1 : i < l.length
    · rw [List.getElem?_append_left i1] at hi
      by_cases j1 : j < l.length
      · rw [List.getElem?_append_left j1] at hj
        exact h.dis i j y z hi hj hne
      · rw [List.getElem?_append_right (by omega), show j - l.length = 0 by omega] at hj
        simp at hj
        subst hj
        exact ⟨fun e => hn.1 ⟨y, List.mem_of_getElem? hi, .inl e.symm⟩, fun e => hn.2 ⟨y, List.mem_of_getElem? hi, .inr e.symm⟩⟩
    · rw [List.getElem?_append_right (by omega), show i - l.length = 0 by omega] at hi
      simp at hi
      subst hi
      by_cases j1 : j < l.length
      · rw [List.getElem?_append_left j1] at hj
        exact ⟨fun e => hn.1 ⟨z, List.mem_of_getElem? hj, .inl e⟩, fun e => hn.2 ⟨z, List.mem_of_getElem? hj, .inr e⟩⟩
      · omega
theorem Ars.set (h : Ars w base l) {i : Nat} {x x' : An} (hi : l[i]? = some x) (ea : x'.a = x.a) (er : x'.r = x.r) (hg : Grew (fun k => k = x.a ∨ k = x.r) w w') (hx : x'.ok w' base) : Ars w' base (l.set i x') := by
  have hil := (List.getElem?_eq_some_iff.mp hi).1
  have hxo := h.ok x (List.mem_of_getElem? hi)
  refine ⟨fun y hy => ?_, fun a b y z ha hb hne => ?_⟩
  · obtain ⟨j, hj⟩ := List.getElem?_of_mem hy
    by_cases hij : i = j
    · subst hij
      rw [List.getElem?_set_self hil] at hj
      cases hj
      exact hx
    · rw [List.getElem?_set_ne hij] at hj
      have hd := h.dis i j x y hi hj hij
      have hyo := h.ok y (List.mem_of_getElem? hj)
      refine hyo.grew hg ?_ ?_
      · rintro (e | e)
        · exact hd.1 e.symm
        · exact hyo.ne hxo e
      · rintro (e | e)
        · exact hxo.ne hyo e.symm
        · exact hd.2 e.symm
  · by_cases hia : i = a
    · subst hia
      rw [List.getElem?_set_self hil] at ha
      cases ha
      rw [List.getElem?_set_ne hne] at hb
      rw [ea, er]
      exact h.dis i b x z hi hb hne
    · rw [List.getElem?_set_ne hia] at ha
      by_cases hib : i = b
      · subst hib
        rw [List.getElem?_set_self hil] at hb
        cases hb
        rw [ea, er]
        exact h.dis a i y x ha hi hne
      · rw [List.getElem?_set_ne hib] at hb
        exact h.dis a b y z ha hb hne
theorem Ars.lt (h : Ars w base l) {k : Nat} (hk : afp l k) : base ≤ k ∧ k < w.heap.size := by
  obtain ⟨x, hx, rfl | rfl⟩ := hk
  · exact ⟨(h.ok x hx).ha, Blk.lt (h.ok x hx).ar⟩
  · exact ⟨(h.ok x hx).hr, Blk.lt (h.ok x hx).rf⟩
end
/-- the head: the world's struct, and the lists that it holds -/
structure Hd (w : World) (base Wb : Nat) (VA VR VM VB VS : Value) (la lr lm lb ls : List Value) (n : Int) : Prop where
  blk : Blk w Wb 54 [VA, VR, VM, VB, VS, .int .i64 n]
  hW : base ≤ Wb
  oa : w.ownsRow base 34 1 VA la.length la
  orr : w.ownsRow base 68 1 VR lr.length lr
  om : w.ownsRow base 24 1 VM lm.length lm
  ob : w.ownsRow base 23 1 VB lb.length lb
  os : w.ownsRow base 37 1 VS ls.length ls
def hfp (Wb : Nat) (VA VR VM VB VS : Value) : Nat → Prop := fun k => k = Wb ∨ VA.ownBlock = some k ∨ VR.ownBlock = some k ∨ VM.ownBlock = some k ∨ VB.ownBlock = some k ∨ VS.ownBlock = some k
section
variable {w w' : World} {base Wb : Nat} {VA VR VM VB VS : Value} {la lr lm lb ls : List Value} {n : Int} {S : Nat → Prop}
theorem Hd.grew (h : Hd w base Wb VA VR VM VB VS la lr lm lb ls n) (hg : Grew S w w') (hn : ∀ k, hfp Wb VA VR VM VB VS k → ¬ S k) : Hd w' base Wb VA VR VM VB VS la lr lm lb ls n :=
  ⟨h.blk.grew hg (hn _ (.inl rfl)), h.hW, own_grew h.oa hg fun k hk => hn k (.inr (.inl hk)), own_grew h.orr hg fun k hk => hn k (.inr (.inr (.inl hk))), own_grew h.om hg fun k hk => hn k (.inr (.inr (.inr (.inl hk)))),
    own_grew h.ob hg fun k hk => hn k (.inr (.inr (.inr (.inr (.inl hk))))), own_grew h.os hg fun k hk => hn k (.inr (.inr (.inr (.inr (.inr hk)))))⟩
theorem Hd.ge (h : Hd w base Wb VA VR VM VB VS la lr lm lb ls n) {k : Nat} (hk : hfp Wb VA VR VM VB VS k) : base ≤ k ∧ k < w.heap.size := by
  rcases hk with rfl | hk | hk | hk | hk | hk
  · exact ⟨h.hW, h.blk.lt⟩
  · exact h.oa.lt k hk
  · exact h.orr.lt k hk
  · exact h.om.lt k hk
  · exact h.ob.lt k hk
  · exact h.os.lt k hk
/-- no part of the head is a block of another type -/
theorem Hd.ne (h : Hd w base Wb VA VR VM VB VS la lr lm lb ls n) {b : Nat} {e : TypeId} {cs : List Value} (hb : Blk w b e cs) (h1 : e ≠ 54) (h2 : e ≠ 34) (h3 : e ≠ 68) (h4 : e ≠ 24) (h5 : e ≠ 23) (h6 : e ≠ 37) : ¬ hfp Wb VA VR VM VB VS b := by
  rintro (hk | hk | hk | hk | hk | hk)
  · subst hk
    have a1 := h.blk; unfold Blk at a1 hb
    rw [a1] at hb
    simp only [Option.some.injEq, Obj.cells.injEq] at hb
    exact h1 hb.2.1.symm
  · exact own_blk_ne h.oa hb (Ne.symm h2) hk
  · exact own_blk_ne h.orr hb (Ne.symm h3) hk
  · exact own_blk_ne h.om hb (Ne.symm h4) hk
  · exact own_blk_ne h.ob hb (Ne.symm h5) hk
  · exact own_blk_ne h.os hb (Ne.symm h6) hk
theorem Hd.ne_own (h : Hd w base Wb VA VR VM VB VS la lr lm lb ls n) {base' size m k : Nat} {e : TypeId} {v : Value} {xs : List Value} (ho : w.ownsRow base' e size v m xs) (hv : v.ownBlock = some k) (h1 : e ≠ 54) (h2 : e ≠ 34) (h3 : e ≠ 68) (h4 : e ≠ 24) (h5 : e ≠ 23) (h6 : e ≠ 37) : ¬ hfp Wb VA VR VM VB VS k := by
  rintro (hk | hk | hk | hk | hk | hk)
  · subst hk; exact own_blk_ne ho h.blk h1 hv
  · exact own_own_ne ho h.oa h2 hv hk
  · exact own_own_ne ho h.orr h3 hv hk
  · exact own_own_ne ho h.om h4 hv hk
  · exact own_own_ne ho h.ob h5 hv hk
  · exact own_own_ne ho h.os h6 hv hk
end
end Go.Sh.Ytocijepcfannnaa
