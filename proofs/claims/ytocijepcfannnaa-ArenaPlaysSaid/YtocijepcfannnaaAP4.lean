/- ArenaPlays, fourth part: a step. Conditions: those of each statement. -/
import Derived.Test.YtocijepcfannnaaAP3
namespace Go.Sh.Ytocijepcfannnaa
open Go Go.Proofs Go.RowKit
set_option linter.unusedVariables false
set_option linter.unusedSimpArgs false
section
variable {w w' : World} {base Wb : Nat} {VA VR VM VB VS : Value} {ar : List An} {mk bs ss : List (Value × List Value)} {n : Int}
theorem Al.afp_hfp (h : Al w base Wb VA VR VM VB VS ar mk bs ss n) {k : Nat} (hk : afp ar k) : ¬ hfp Wb VA VR VM VB VS k := by
  obtain ⟨x, hx, rfl | rfl⟩ := hk
  · exact h.hd.ne (h.ars.ok x hx).ar (by decide) (by decide) (by decide) (by decide) (by decide) (by decide)
  · exact h.hd.ne (h.ars.ok x hx).rf (by decide) (by decide) (by decide) (by decide) (by decide) (by decide)
theorem Al.rm_hfp (h : Al w base Wb VA VR VM VB VS ar mk bs ss n) {k : Nat} (hk : rfp mk k) : ¬ hfp Wb VA VR VM VB VS k := by
  obtain ⟨p, hp, hv⟩ := hk
  exact h.hd.ne_own (h.rm.own p hp) hv (by decide) (by decide) (by decide) (by decide) (by decide) (by decide)
theorem Al.rb_hfp (h : Al w base Wb VA VR VM VB VS ar mk bs ss n) {k : Nat} (hk : rfp bs k) : ¬ hfp Wb VA VR VM VB VS k := by
  obtain ⟨p, hp, hv⟩ := hk
  exact h.hd.ne_own (h.rb.own p hp) hv (by decide) (by decide) (by decide) (by decide) (by decide) (by decide)
theorem Al.rs_hfp (h : Al w base Wb VA VR VM VB VS ar mk bs ss n) {k : Nat} (hk : rfp ss k) : ¬ hfp Wb VA VR VM VB VS k := by
  obtain ⟨p, hp, hv⟩ := hk
  exact h.hd.ne_own (h.rs.own p hp) hv (by decide) (by decide) (by decide) (by decide) (by decide) (by decide)
/-- the state, however it is made up -/
def AlE (W w : World) (Wb L : Nat) (N : Int) : Prop := ∃ VA VR VM VB VS ar mk bs ss n, Al w W.heap.size Wb VA VR VM VB VS ar mk bs ss n ∧ W.grownBy w none ∧ ar ≠ [] ∧ ar.length ≤ L ∧ bs.length ≤ L ∧ ss.length ≤ L ∧ (∀ p ∈ mk, p.2.length ≤ L) ∧ 0 ≤ n ∧ n ≤ N
theorem grown_ge {W : World} (G : W.grownBy w none) (hg : Grew (fun k => W.heap.size ≤ k) w w') : W.grownBy w' none :=
  ((grew_new (S := fun _ => False) G).trans hg fun k hk => .inr hk).toNew fun _ h => h.elim
/-- New -/
theorem step_new (h : Al w base Wb VA VR VM VB VS ar mk bs ss n) (hb : base ≤ w.heap.size) (o N : Int) (hal : (ar.length + 1) * 24 ≤ 140737488355328) :
    ∃ VA' VR' VM' ar' mk' w', C 19 #[.pointer (some ⟨Wb, 0, none⟩), .agg #[.int .i64 1, .int .i64 o, .int .i64 N]] w = some (.bool true, w') ∧ Al w' base Wb VA' VR' VM' VB VS ar' mk' bs ss n ∧ Grew (fun k => base ≤ k) w w' ∧
      ((0 ≤ N ∧ N ≤ 1073741824 ∧ ar'.length = ar.length + 1 ∧ ∀ p ∈ mk', p ∈ mk ∨ p.2.length = 1) ∨ (¬ (0 ≤ N ∧ N ≤ 1073741824) ∧ ar' = ar ∧ mk' = mk)) := by
  obtain ⟨W0, hW0⟩ : ∃ W0, W0 = w.alloc (.cells #[.int .i64 1, .int .i64 o, .int .i64 N] 57) := ⟨_, rfl⟩
  have g0 : w.grownBy W0 none := hW0 ▸ World.grownBy_alloc w _ none
  have b0 : Blk W0 w.heap.size 57 [.int .i64 1, .int .i64 o, .int .i64 N] := hW0 ▸ Blk.new w 57 [.int .i64 1, .int .i64 o, .int .i64 N]
  have h0 := h.new g0
  by_cases hN : 0 ≤ N ∧ N ≤ 1073741824
  · obtain ⟨w1, a1, A1, g1, _⟩ := new_ok N W0 hN.1 hN.2
    have b1 := b0.grown g1 (by simp)
    obtain ⟨w2, a2, R2, g2⟩ := rnew_ok N w1 hN.1 hN.2
    have A2 : Ar w2 W0.heap.size N 0 0 := Blk.grown A1 g2 (by simp)
    have h2 := (h0.new g1).new g2
    have hb2 : base ≤ w2.heap.size := Nat.le_trans hb (Nat.le_trans g0.size (Nat.le_trans g1.size g2.size))
    obtain ⟨VA', w3, w4, p1, p2, hd4, G4, k4⟩ := h2.hd.push_a (x := .pointer (some ⟨W0.heap.size, 0, none⟩)) rfl (by simp; omega) hb2
    obtain ⟨VR', w5, w6, p3, p4, hd6, G6, k6⟩ := hd4.push_r (x := .pointer (some ⟨w1.heap.size, 0, none⟩)) rfl (by simp; omega) (Nat.le_trans hb2 G4.size)
    obtain ⟨W7, hW7⟩ : ∃ W7, W7 = w6.alloc (.cells #[.int .i64 0] 3) := ⟨_, rfl⟩
    have g7 : w6.grownBy W7 none := hW7 ▸ World.grownBy_alloc w6 _ none
    have b7 : Blk W7 w6.heap.size 3 [.int .i64 0] := hW7 ▸ Blk.new w6 3 [.int .i64 0]
    have hd7 := hd6.grew (grew_new (S := fun _ => False) g7) (fun _ _ h => h)
    have hb6 : base ≤ w6.heap.size := Nat.le_trans hb2 (Nat.le_trans G4.size G6.size)
    obtain ⟨VM', w8, w9, p5, p6, hd9, G9, k9⟩ := hd7.push_m (x := .slice (some ⟨w6.heap.size, 0, none⟩) 1 1) rfl (by simp; rw [h0.ml]; omega) (Nat.le_trans hb6 g7.size)
    have S4 : Grew (hfp Wb VA VR VM VB VS) w2 w4 := G4.weak fun k hk => .inl (hk.imp id .inl)
    have S6 : Grew (hfp Wb VA VR VM VB VS) w4 w6 := G6.weak fun k hk => .inl (hk.imp id fun h => .inr (.inl h))
    have S9 : Grew (hfp Wb VA VR VM VB VS) W7 w9 := G9.weak fun k hk => .inl (hk.imp id fun h => .inr (.inr (.inl h)))
    have S29 : Grew (hfp Wb VA VR VM VB VS) w2 w9 := ((S4.step S6).step (grew_new g7)).step S9
    have hsz : W0.heap.size < w2.heap.size := Blk.lt A2
    have hsz1 : w1.heap.size < w2.heap.size := Blk.lt R2
    have ok9 : An.ok ⟨W0.heap.size, w1.heap.size, N, 0, 0⟩ w9 base := by
      refine ⟨Blk.grew A2 S29 (h2.hd.ne A2 (by decide) (by decide) (by decide) (by decide) (by decide) (by decide)), Blk.grew R2 S29 (h2.hd.ne R2 (by decide) (by decide) (by decide) (by decide) (by decide) (by decide)), Nat.le_trans hb g0.size, Nat.le_trans hb (Nat.le_trans g0.size g1.size), (show (0 : Int) ≤ 0 by omega), hN.1, hN.2⟩
    have ars9 := (h2.ars.grew S29 fun k h1 => h2.afp_hfp h1).push ok9 ⟨fun hf => by have h1 := (h0.ars.lt hf).2; exact absurd h1 (Nat.lt_irrefl _), fun hf => by have h1 := (h0.ars.lt hf).2; have h2 := g1.size; have h3 : w1.heap.size < W0.heap.size := h1; omega⟩
    have o9 : w9.ownsRow base 3 1 (.slice (some ⟨w6.heap.size, 0, none⟩) 1 1) 1 [.int .i64 0] := by
      have o7 := blk_own (base := base) (size := 1) (n := 1) b7 rfl hb6 (by simp [maxLen])
      refine own_grew o7 G9 fun k hk hs => ?_
      simp [Value.ownBlock] at hk
      subst hk
      rcases hs with h | h
      · have := hd6.blk.lt; omega
      · have := (hd6.om.lt _ h).2; omega
    have rm9 := (h2.rm.grew S29 fun k h1 => h2.rm_hfp h1).push (p := (.slice (some ⟨w6.heap.size, 0, none⟩) 1 1, [.int .i64 0])) o9 fun k hk hf => by
      simp [Value.ownBlock] at hk
      have h1 := (h2.rm.ge hf).2
      have h3 := G4.size
      have h4 := G6.size
      omega
    refine ⟨VA', VR', VM', _, _, w9, f19.run rfl ?_, ⟨by simpa [An.pa, An.pr] using hd9, ars9, rm9, h2.rb.grew S29 fun k h1 => h2.rb_hfp h1, h2.rs.grew S29 fun k h1 => h2.rs_hfp h1, by simp [h0.ml], ?_, h.bz, h.sz⟩, ?_, .inl ⟨hN.1, hN.2, by simp, ?_⟩⟩
    · rw [show W7.heap.size = w6.heap.size + 1 by rw [hW7]; simp] at p5
      simp [f19, box_any, Value.cells, addL, ← hW0, b0.cell_eq 0 rfl, b0.cell_eq 2 rfl, a1, b1.cell_eq 2 rfl, a2, h2.hd.blk.cell_eq 0 rfl, bs48_1, p1, p2, hd4.blk.cell_eq 1 rfl, bs49_1, p3, p4, hd6.blk.cell_eq 2 rfl, bs24_1, bs50_1, ← hW7, p5, p6]
    · intro p hp
      simp only [List.mem_append, List.mem_singleton] at hp
      rcases hp with hp | rfl
      · exact h.mz p hp
      · exact ⟨[0], rfl, by simp, by simp⟩
    · refine (((grew_new g0).step (grew_new g1)).step (grew_new g2)).step (S29.weak fun k hk => .inl (h2.hd.ge hk).1)
    · intro p hp
      simp only [List.mem_append, List.mem_singleton] at hp
      rcases hp with hp | rfl
      · exact .inl hp
      · exact .inr rfl
  · have a1 := new_bad N W0 hN
    have a2 := rnew_bad N W0 hN
    refine ⟨VA, VR, VM, ar, mk, W0, f19.run rfl ?_, h0, grew_new g0, .inr ⟨hN, rfl, rfl⟩⟩
    simp [f19, box_any, Value.cells, addL, ← hW0, b0.cell_eq 0 rfl, b0.cell_eq 2 rfl, a1, a2]
/-- Release of an arena and of its twin -/
theorem rel_both {x : An} (hx : x.ok w base) (z : Int) : ∃ (e : Int) (w1 w2 : World) (x' : An), C 14 #[.pointer (some ⟨x.a, 0, none⟩), .int .i64 z] w = some (.int .i64 e, w1) ∧ C 29 #[.pointer (some ⟨x.r, 0, none⟩), .int .i64 z] w1 = some (.int .i64 e, w2) ∧ x'.ok w2 base ∧ x'.a = x.a ∧ x'.r = x.r ∧
    Grew (fun k => k = x.a ∨ k = x.r) w w1 ∧ Grew (fun k => k = x.a ∨ k = x.r) w w2 := by
  by_cases hz : 0 ≤ z ∧ z ≤ x.g
  · obtain ⟨w1, a1, A1, g1, _⟩ := release_ok hx.ar z hz.1 hz.2
    have hne := hx.ne hx
    have G1 : Grew (fun k => k = x.a ∨ k = x.r) w w1 := grew_of g1 fun k hk => by cases hk; exact .inl (.inl rfl)
    have R1 : Rf w1 x.r x.m x.g x.t := Blk.grown hx.rf g1 (by simp; exact hne)
    obtain ⟨w2, a2, R2, g2⟩ := rrel_ok R1 z hz.1 hz.2
    have A2 : Ar w2 x.a x.m z x.t := Blk.grown A1 g2 (by simp; exact fun e => hne e.symm)
    have gm := hx.gm
    exact ⟨0, w1, w2, ⟨x.a, x.r, x.m, z, x.t⟩, a1, a2, ⟨A2, R2, hx.ha, hx.hr, hz.1, (show z ≤ x.m by omega), hx.mM⟩, rfl, rfl, G1, G1.step (grew_of g2 fun k hk => by cases hk; exact .inl (.inr rfl))⟩
  · exact ⟨1, w, w, x, release_bad hx.ar z hz, rrel_bad hx.rf z hz, hx, rfl, rfl, Grew.refl _ _, Grew.refl _ _⟩
theorem set_map_fst {q : List (Value × List Value)} {k : Nat} {p : Value × List Value} : (q.set k p).map (·.1) = (q.map (·.1)).set k p.1 := by rw [List.map_set]
/-- a mark is kept -/
theorem mark_kept (h : Al w base Wb VA VR VM VB VS ar mk bs ss n) (hb : base ≤ w.heap.size) {k : Nat} {p : Value × List Value} (hk : mk[k]? = some p) (g : Int) (g0 : -9223372036854775808 ≤ g) (g1 : g ≤ 9223372036854775807) (hl : (p.2.length + 1) * 8 ≤ 140737488355328) :
    ∃ aM cM w1 w2 v', VM = .slice (some aM) mk.length cM ∧ w.cell? (aM.add k) = some p.1 ∧ erun Try.prog (Builtin.append_ #[24, 24] 24 #[p.1, .slice (some ⟨w.heap.size, 0, none⟩) 1 1]) (w.alloc (.cells #[.int .i64 g] 3)) = some (v', w1) ∧
      erun Try.prog (Instr.storeAt 24 (.pointer (some (aM.add k))) v') w1 = some ((), w2) ∧ Al w2 base Wb VA VR VM VB VS ar (mk.set k (v', p.2 ++ [.int .i64 g])) bs ss n ∧ Grew (fun k => base ≤ k) w w2 ∧ w1.cell? ⟨Wb, 2, none⟩ = some VM ∧ w1.cell? (aM.add k) = some p.1 := by
  have hkl := (List.getElem?_eq_some_iff.mp hk).1
  have op := h.rm.part hk
  obtain ⟨AM, cM, hVM, hcM, _⟩ := own_form h.hd.om
  rw [List.length_map] at hVM
  subst hVM
  have om := h.hd.om
  simp only [List.length_map] at om
  obtain ⟨aM, rfl, cell⟩ := own_cell om (j := k) (v := p.1) (by simp [hk])
  obtain ⟨v', w1, h1, o1, gr1, k1⟩ := own_push (P := Try.prog) (ty := 24) Try.underlying24 inf3 zero3 size3 bytes3 rfl op (x := .int .i64 g) rfl (by simp [maxLen]; omega) hl hb
  have G1 : Grew (fun j => p.1.ownBlock = some j) w w1 := grew_of gr1 fun j hj => .inl hj
  have hrow : ∀ j, p.1.ownBlock = some j → rfp mk j := fun j hj => ⟨p, List.mem_of_getElem? hk, hj⟩
  have hd1 := h.hd.grew G1 fun j hj hp => h.rm_hfp (hrow j hp) hj
  have om1 := hd1.om
  simp only [List.length_map] at om1
  have cell1 : w1.cell? (aM.add k) = some p.1 := by
    obtain ⟨a, e, hc⟩ := own_cell om1 (j := k) (v := p.1) (by simp [hk])
    cases e
    exact hc
  obtain ⟨A', c', rfl, _⟩ := own_form o1
  obtain ⟨a, w2, e, hba, s2, om2, g2⟩ := own_store (P := Try.prog) om1 (t := 24) inf24 size24 hkl (v := .slice A' (p.2.length + 1) c') rfl rfl
  cases e
  have G2 : Grew (fun j => j = aM.block) w1 w2 := grew_of g2 fun j hj => by cases hj; exact .inl rfl
  have hM : (Value.slice (some aM) mk.length cM).ownBlock = some aM.block := rfl
  have hdM : hfp Wb VA VR (.slice (some aM) mk.length cM) VB VS aM.block := .inr (.inr (.inr (.inl rfl)))
  have hd2 : Hd w2 base Wb VA VR (.slice (some aM) mk.length cM) VB VS (ar.map An.pa) (ar.map An.pr) ((mk.set k (.slice A' (p.2.length + 1) c', p.2 ++ [.int .i64 g])).map (·.1)) (bs.map (·.1)) (ss.map (·.1)) n := by
    refine ⟨hd1.blk.grew G2 (fun e => own_blk_ne om1 hd1.blk (by decide) (by rw [hM, e])), hd1.hW, own_grew hd1.oa G2 (fun j hj e => own_own_ne hd1.oa om1 (by decide) hj (by rw [hM, e])), own_grew hd1.orr G2 (fun j hj e => own_own_ne hd1.orr om1 (by decide) hj (by rw [hM, e])), ?_, own_grew hd1.ob G2 (fun j hj e => own_own_ne hd1.ob om1 (by decide) hj (by rw [hM, e])), own_grew hd1.os G2 (fun j hj e => own_own_ne hd1.os om1 (by decide) hj (by rw [hM, e]))⟩
    rw [set_map_fst]
    simpa using om2
  have rm1 : Rows w1 base 3 (mk.set k (.slice A' (p.2.length + 1) c', p.2 ++ [.int .i64 g])) := h.rm.set hk G1 (by simpa using o1) k1
  have nb : ∀ {e : TypeId} {q : List (Value × List Value)}, Rows w1 base e q → e ≠ 24 → ∀ j, rfp q j → ¬ (j = aM.block) := fun {e q} hq he j hj e2 => hq.ne_own om1 he (by rw [hM, e2]) hj
  have ars1 := h.ars.grew G1 fun j hj hp => by
    obtain ⟨x, hx, e⟩ := hj
    have hxo := h.ars.ok x hx
    rcases e with rfl | rfl
    · exact own_blk_ne op hxo.ar (by decide) hp
    · exact own_blk_ne op hxo.rf (by decide) hp
  refine ⟨aM, cM, w1, w2, _, rfl, cell, h1, s2, ⟨hd2, ars1.grew G2 fun j hj e => ?_, rm1.grew G2 (nb rm1 (by decide)), ?_, ?_, by simpa using h.ml, ?_, h.bz, h.sz⟩, ?_, hd1.blk.cell_eq 2 rfl, cell1⟩
  · subst e
    obtain ⟨x, hx, e⟩ := hj
    have hxo := ars1.ok x hx
    rcases e with e | e
    · exact own_blk_ne om1 (e ▸ hxo.ar : Blk w1 aM.block 65 _) (by decide) hM
    · exact own_blk_ne om1 (e ▸ hxo.rf : Blk w1 aM.block 73 _) (by decide) hM
  · have rb1 := h.rb.grew G1 fun j hj hp => h.rb.ne_own op (by decide) hp hj
    exact rb1.grew G2 (nb rb1 (by decide))
  · have rs1 := h.rs.grew G1 fun j hj hp => h.rs.ne_own op (by decide) hp hj
    exact rs1.grew G2 (nb rs1 (by decide))
  · intro q hq
    obtain ⟨i, hi⟩ := List.getElem?_of_mem hq
    by_cases hik : k = i
    · subst hik
      rw [List.getElem?_set_self hkl] at hi
      cases hi
      obtain ⟨zs, e1, e2, e3⟩ := h.mz p (List.mem_of_getElem? hk)
      refine ⟨zs ++ [g], by simp [e1], by simp, fun z hz => ?_⟩
      simp only [List.mem_append, List.mem_singleton] at hz
      rcases hz with hz | rfl
      · exact e3 z hz
      · exact ⟨g0, g1⟩
    · rw [List.getElem?_set_ne hik] at hi
      exact h.mz q (List.mem_of_getElem? hi)
  · refine (G1.weak fun j hj => .inl (op.lt j hj).1).step (G2.weak fun j hj => ?_)
    subst hj
    exact .inl hba
end

theorem AlE.more {W w : World} {Wb L L' : Nat} {N N' : Int} (h : AlE W w Wb L N) (hL : L ≤ L') (hN : N ≤ N') : AlE W w Wb L' N' := by
  obtain ⟨VA, VR, VM, VB, VS, ar, mk, bs, ss, n, h1, h2, h3, h4, h5, h6, h7, h8, h9⟩ := h
  exact ⟨VA, VR, VM, VB, VS, ar, mk, bs, ss, n, h1, h2, h3, by omega, by omega, by omega, fun p hp => Nat.le_trans (h7 p hp) hL, h8, by omega⟩
theorem step_ok {W w : World} {Wb L : Nat} (h : AlE W w Wb L 2147483647) (hL : (L + 1) * 24 ≤ 140737488355328) (kd o N : Int) (o0 : -9223372036854775808 ≤ o) (o1 : o ≤ 9223372036854775807) (N0 : -9223372036854775808 ≤ N) (N1 : N ≤ 9223372036854775807) :
    ∃ w', C 19 #[.pointer (some ⟨Wb, 0, none⟩), .agg #[.int .i64 kd, .int .i64 o, .int .i64 N]] w = some (.bool true, w') ∧ AlE W w' Wb (L + 1) 4294967295 := by
  obtain ⟨VA, VR, VM, VB, VS, ar, mk, bs, ss, n, h, G, hne, la, lb, ls, lm, n0, nN⟩ := h
  have hb := G.size
  by_cases k1 : kd = 1
  · subst k1
    obtain ⟨VA', VR', VM', ar', mk', w', a1, al, g1, hc⟩ := step_new h hb o N (by omega)
    refine ⟨w', a1, VA', VR', VM', VB, VS, ar', mk', bs, ss, n, al, grown_ge G g1, ?_, ?_, by omega, by omega, ?_, n0, by omega⟩
    · rcases hc with ⟨_, _, hl, _⟩ | ⟨_, rfl, _⟩
      · intro e; subst e; simp at hl
      · exact hne
    · rcases hc with ⟨_, _, hl, _⟩ | ⟨_, rfl, _⟩ <;> omega
    · intro p hp
      rcases hc with ⟨_, _, _, hm⟩ | ⟨_, _, rfl⟩
      · rcases hm p hp with hp | hp
        · have := lm p hp; omega
        · omega
      · have := lm p hp; omega
  · obtain ⟨W0, hW0⟩ : ∃ W0, W0 = w.alloc (.cells #[.int .i64 kd, .int .i64 o, .int .i64 N] 57) := ⟨_, rfl⟩
    have g0 : w.grownBy W0 none := hW0 ▸ World.grownBy_alloc w _ none
    have b0 : Blk W0 w.heap.size 57 [.int .i64 kd, .int .i64 o, .int .i64 N] := hW0 ▸ Blk.new w 57 [.int .i64 kd, .int .i64 o, .int .i64 N]
    have h0 := h.new g0
    have hal : 0 < ar.length := List.length_pos_iff.mpr hne
    obtain ⟨u, hu⟩ : ∃ u, u = W0.drew := ⟨_, rfl⟩
    have gu : W0.grownBy u none := hu ▸ grown_drew W0 none
    have hu0 := h0.new gu
    have bu := b0.grown gu (by simp)
    obtain ⟨r, a1, r0, r1⟩ := pick_ok o ar.length (by omega) (by omega) o0 o1 u
    obtain ⟨k, rfl⟩ := Int.eq_ofNat_of_zero_le r0
    have hk : k < ar.length := by omega
    obtain ⟨x, hx⟩ : ∃ x, x = ar[k] := ⟨_, rfl⟩
    have hkx : ar[k]? = some x := by rw [hx]; exact List.getElem?_eq_getElem hk
    obtain ⟨aA, cA, hVA, cellA⟩ := hu0.arena hkx
    subst hVA
    obtain ⟨aR, cR, hVR, cellR⟩ := hu0.ref hkx
    subst hVR
    have G0 : W.grownBy u none := grown_trans (grown_trans G g0 (by simp)) gu (by simp)
    have hbu := G0.size
    have mu : ar.length ≤ maxLen := by unfold maxLen; omega
    have l0 := ld57 (w := u) (a := ⟨w.heap.size, 0, none⟩) (v0 := .int .i64 kd) (v1 := .int .i64 o) (v2 := .int .i64 N) (by rw [addL]; exact bu.cell_eq 0 rfl) (by rw [addL]; exact bu.cell_eq 1 rfl) (by rw [addL]; exact bu.cell_eq 2 rfl)
    have kk := h.hd.blk
    have iA := ix48 aA ar.length cA .i64 k (by omega) (by omega)
    have iR := ix49 aR ar.length cR .i64 k (by omega) (by omega)
    simp only [Int.toNat_natCast, Nat.mul_one] at iA iR
    by_cases k2 : kd = 2
    · subst k2
      obtain ⟨V', w', x', v, xs, a2, al, hxs, g2⟩ := gives_b hu0 hbu hkx o N N0 N1 n0 nN mu (by omega)
      refine ⟨w', f19.run rfl ?_, _, _, _, _, _, _, _, _, _, _, al, grown_ge G0 g2, (fun e => by simp at e; exact hne e), by simp; omega, by simp; omega, by omega, (fun p hp => by have := lm p hp; omega), by omega, by omega⟩
      simp [f19, box_any, Value.cells, addL, ← hW0, ← hu, b0.cell_eq 0 rfl, bu.cell_eq 1 rfl, bu.cell_eq 0 rfl, h0.hd.blk.cell_eq 0 rfl, b0.cell_eq 1 rfl, hu0.hd.blk.cell_eq 0 rfl, a1, l0, a2]
    by_cases k3 : kd = 3
    · subst k3
      obtain ⟨V', w', x', v, xs, a2, al, hxs, g2⟩ := gives_s hu0 hbu hkx o N N0 N1 n0 nN mu (by omega)
      refine ⟨w', f19.run rfl ?_, _, _, _, _, _, _, _, _, _, _, al, grown_ge G0 g2, (fun e => by simp at e; exact hne e), by simp; omega, by omega, by simp; omega, (fun p hp => by have := lm p hp; omega), by omega, by omega⟩
      simp [f19, box_any, Value.cells, addL, ← hW0, ← hu, b0.cell_eq 0 rfl, bu.cell_eq 1 rfl, bu.cell_eq 0 rfl, h0.hd.blk.cell_eq 0 rfl, b0.cell_eq 1 rfl, hu0.hd.blk.cell_eq 0 rfl, a1, l0, a2]
    have hml : mk.length = ar.length := h.ml
    obtain ⟨p, hp⟩ : ∃ p, p = mk[k]'(by omega) := ⟨_, rfl⟩
    have hkp : mk[k]? = some p := by rw [hp]; exact List.getElem?_eq_getElem (by omega)
    have lp := lm p (List.mem_of_getElem? hkp)
    obtain ⟨u1, hu1⟩ : ∃ u1, u1 = u.drew := ⟨_, rfl⟩
    have gu1 : u.grownBy u1 none := hu1 ▸ grown_drew u none
    have h1 := hu0.new gu1
    have bu1 := bu.grown gu1 (by simp)
    have G1 : W.grownBy u1 none := grown_trans G0 gu1 (by simp)
    have x1 := h1.ars.ok x (List.mem_of_getElem? hkx)
    have cellA1 : u1.cell? (aA.add k) = some x.pa := by rw [hu1]; exact cellA
    have cellR1 : u1.cell? (aR.add k) = some x.pr := by rw [hu1]; exact cellR
    by_cases k4 : kd = 4
    · subst k4
      have a2 := mark_ok x1.ar
      have g0 := x1.g0
      have gm := x1.gm
      have mM := x1.mM
      obtain ⟨aM, cM, w1, w2, v', hVM, cellM, p1, p2, al2, g2, cW, cM1⟩ := mark_kept h1 G1.size hkp x.g (by omega) (by omega) (by omega)
      subst hVM
      have iM := ix50 aM mk.length cM .i64 k (by omega) (by omega)
      simp only [Int.toNat_natCast, Nat.mul_one] at iM
      obtain ⟨u2, hu2⟩ : ∃ u2, u2 = w2.drew := ⟨_, rfl⟩
      have al3 := al2.new (hu2 ▸ grown_drew w2 none : w2.grownBy u2 none)
      obtain ⟨aA', cA', hVA', cellA2⟩ := al3.arena hkx
      obtain ⟨aR', cR', hVR', cellR2⟩ := al3.ref hkx
      cases hVA'
      cases hVR'
      have x2 := al3.ars.ok x (List.mem_of_getElem? hkx)
      have a3 := mark_ok x2.ar
      have ca : (u1.alloc (.cells #[.int .i64 x.g] 3)).cell? ⟨Wb, 2, none⟩ = some (.slice (some aM) mk.length cM) := (h1.new (World.grownBy_alloc u1 _ none)).hd.blk.cell_eq 2 rfl
      have cb : (u1.alloc (.cells #[.int .i64 x.g] 3)).cell? (aM.add k) = some p.1 := by
        have om := (h1.new (World.grownBy_alloc u1 (.cells #[.int .i64 x.g] 3) none)).hd.om
        obtain ⟨a, e, hc⟩ := own_cell (A := some aM) (n := (mk.map (·.1)).length) (c := cM) (by simpa using om) (j := k) (v := p.1) (by simp [hkp])
        cases e
        exact hc
      have cMu : u.cell? (aM.add k) = some p.1 := by rw [hu1] at cellM; exact cellM
      have cVMu : u.cell? ⟨Wb, 2, none⟩ = some (.slice (some aM) mk.length cM) := hu0.hd.blk.cell_eq 2 rfl
      have cA2 : w2.cell? (aA.add k) = some x.pa := by rw [hu2] at cellA2; exact cellA2
      have cR2 : w2.cell? (aR.add k) = some x.pr := by rw [hu2] at cellR2; exact cellR2
      have x2' := al2.ars.ok x (List.mem_of_getElem? hkx)
      refine ⟨u2, f19.run rfl ?_, _, _, _, _, _, _, _, _, _, _, al3, grown_step (grown_ge G1 g2) (hu2 ▸ grown_drew w2 none), hne, by omega, by omega, by omega, ?_, n0, by omega⟩
      · simp [f19, box_any, Value.cells, addL, ← hW0, ← hu, b0.cell_eq 0 rfl, bu.cell_eq 1 rfl, bu.cell_eq 0 rfl, h0.hd.blk.cell_eq 0 rfl, b0.cell_eq 1 rfl, hu0.hd.blk.cell_eq 0 rfl, a1, ← hu1, cVMu, cMu, cellA, cellR, cA2, cR2, x2'.rf.c1, al2.hd.blk.cell_eq 0 rfl, al2.hd.blk.cell_eq 1 rfl, h1.hd.blk.cell_eq 2 rfl, h1.hd.blk.cell_eq 0 rfl, iM, cellM, iA, cellA1, An.pa, a2, bs24_1, p1, p2, cW, cM1, ca, cb, ← hu2, al3.hd.blk.cell_eq 0 rfl, al3.hd.blk.cell_eq 1 rfl, cellA2, a3, iR, cellR2, An.pr, x2.rf.c1]
      · intro q hq
        obtain ⟨i, hi⟩ := List.getElem?_of_mem hq
        by_cases hik : k = i
        · subst hik
          rw [List.getElem?_set_self (by omega)] at hi
          cases hi
          simp; omega
        · rw [List.getElem?_set_ne hik] at hi
          have := lm q (List.mem_of_getElem? hi); omega
    by_cases k6 : kd = 6
    · subst k6
      obtain ⟨e, w1, w2, x', a2, a3, ok2, ea, er, G2a, G2⟩ := rel_both x1 N
      have al2 := h1.an hkx ea er G2 ok2
      have hd1 := h1.hd_an x1 G2a
      have nb : ∀ j, (j = x.a ∨ j = x.r) → ¬ j = w.heap.size := by
        rintro j (rfl | rfl) e
        · have := Blk.lt (h.ars.ok x (List.mem_of_getElem? hkx)).ar; omega
        · have := Blk.lt (h.ars.ok x (List.mem_of_getElem? hkx)).rf; omega
      have bw1 := bu1.grew G2a (fun hs => nb _ hs rfl)
      have cR1 : w1.cell? (aR.add k) = some x.pr := by
        have := hd1.orr
        simp only [List.length_map] at this
        obtain ⟨a, e, hc⟩ := own_cell this (j := k) (v := x.pr) (by simp [hkx])
        cases e
        exact hc
      refine ⟨w2, f19.run rfl ?_, _, _, _, _, _, _, _, _, _, _, al2, grown_ge G1 (G2.weak fun j hj => ?_), (fun e => by simp at e; exact hne e), by simp; omega, by omega, by omega, (fun p hp => by have := lm p hp; omega), n0, by omega⟩
      · simp [f19, box_any, Value.cells, addL, ← hW0, ← hu, b0.cell_eq 0 rfl, bu.cell_eq 1 rfl, bu.cell_eq 0 rfl, h0.hd.blk.cell_eq 0 rfl, b0.cell_eq 1 rfl, hu0.hd.blk.cell_eq 0 rfl, hu0.hd.blk.cell_eq 1 rfl, bu.cell_eq 2 rfl, a1, cellA, cellR, ← hu1, h1.hd.blk.cell_eq 0 rfl, iA, cellA1, An.pa, bu1.cell_eq 2 rfl, a2, hd1.blk.cell_eq 1 rfl, h1.hd.blk.cell_eq 1 rfl, iR, cR1, cellR1, An.pr, bw1.cell_eq 2 rfl, a3]
      · rcases hj with rfl | rfl
        · exact .inl x1.ha
        · exact .inl x1.hr
    by_cases k5 : kd = 5
    · subst k5
      have hz := h1.mz p (List.mem_of_getElem? hkp)
      obtain ⟨zs, ez, ezne, ezw⟩ := hz
      have hzl : 0 < zs.length := List.length_pos_iff.mpr ezne
      have hpl : p.2.length = zs.length := by rw [ez]; simp
      have op := h1.rm.part hkp
      obtain ⟨Ap, cp, hpv, _⟩ := own_form op
      obtain ⟨aM, cM, hVM, cellM⟩ : ∃ aM cM, VM = .slice (some aM) mk.length cM ∧ u1.cell? (aM.add k) = some p.1 := by
        obtain ⟨AM, cM, hVM, _⟩ := own_form h1.hd.om
        rw [List.length_map] at hVM
        subst hVM
        have om := h1.hd.om
        simp only [List.length_map] at om
        obtain ⟨aM, rfl, cell⟩ := own_cell om (j := k) (v := p.1) (by simp [hkp])
        exact ⟨aM, cM, rfl, cell⟩
      subst hVM
      have cMu : u.cell? (aM.add k) = some p.1 := by rw [hu1] at cellM; exact cellM
      obtain ⟨j, a2, j0, j1⟩ := pick_ok N zs.length (by omega) (by omega) N0 N1 u1
      obtain ⟨j, rfl⟩ := Int.eq_ofNat_of_zero_le j0
      have hj : j < zs.length := by omega
      obtain ⟨z, hz⟩ : ∃ z, z = zs[j] := ⟨_, rfl⟩
      have hpj : p.2[j]? = some (.int .i64 z) := by rw [ez, List.getElem?_map, List.getElem?_eq_getElem hj, ← hz]; rfl
      rw [hpv] at op
      obtain ⟨ap, rfl, cellZ⟩ := own_cell op hpj
      rw [hpl] at hpv op
      have iM := ix50 aM mk.length cM .i64 k (by omega) (by omega)
      have iZ := ix24 ap zs.length cp .i64 j (by omega) (by omega)
      simp only [Int.toNat_natCast, Nat.mul_one] at iM iZ
      obtain ⟨u2, hu2⟩ : ∃ u2, u2 = u1.drew := ⟨_, rfl⟩
      have gu2 : u1.grownBy u2 none := hu2 ▸ grown_drew u1 none
      have h2 := h1.new gu2
      have x2 := h2.ars.ok x (List.mem_of_getElem? hkx)
      have cellA2 : u2.cell? (aA.add k) = some x.pa := by rw [hu2]; exact cellA1
      have cellR2' : u2.cell? (aR.add k) = some x.pr := by rw [hu2]; exact cellR1
      obtain ⟨e, w1, w2, x', a3, a4, ok2, ea, er, G2a, G2⟩ := rel_both x2 z
      have al2 := h2.an hkx ea er G2 ok2
      have hd1 := h2.hd_an x2 G2a
      have cR1 : w1.cell? (aR.add k) = some x.pr := by
        have := hd1.orr
        simp only [List.length_map] at this
        obtain ⟨a, e, hc⟩ := own_cell this (j := k) (v := x.pr) (by simp [hkx])
        cases e
        exact hc
      rw [hpv] at cellM cMu
      have cellZu : u.cell? (ap.add j) = some (.int .i64 z) := by rw [hu1] at cellZ; exact cellZ
      refine ⟨w2, f19.run rfl ?_, _, _, _, _, _, _, _, _, _, _, al2, grown_ge (grown_trans G1 gu2 (by simp)) (G2.weak fun j hj => ?_), (fun e => by simp at e; exact hne e), by simp; omega, by omega, by omega, (fun p hp => by have := lm p hp; omega), n0, by omega⟩
      · simp [f19, box_any, Value.cells, addL, ← hW0, ← hu, b0.cell_eq 0 rfl, bu.cell_eq 1 rfl, bu.cell_eq 0 rfl, h0.hd.blk.cell_eq 0 rfl, b0.cell_eq 1 rfl, hu0.hd.blk.cell_eq 0 rfl, hu0.hd.blk.cell_eq 1 rfl, hu0.hd.blk.cell_eq 2 rfl, bu.cell_eq 2 rfl, a1, cellA, cellR, ← hu1, h1.hd.blk.cell_eq 0 rfl, h1.hd.blk.cell_eq 1 rfl, h1.hd.blk.cell_eq 2 rfl, iM, cellM, cMu, bu1.cell_eq 2 rfl, a2, iZ, cellZ, cellZu, ← hu2, h2.hd.blk.cell_eq 0 rfl, h2.hd.blk.cell_eq 1 rfl, cellR2', iA, cellA1, cellA2, An.pa, a3, hd1.blk.cell_eq 1 rfl, iR, cR1, cellR1, An.pr, a4]
      · rcases hj with rfl | rfl
        · exact .inl x1.ha
        · exact .inl x1.hr
    · refine ⟨u, f19.run rfl ?_, _, _, _, _, _, _, _, _, _, _, hu0, G0, hne, by omega, by omega, by omega, (fun p hp => by have := lm p hp; omega), n0, by omega⟩
      simp [f19, box_any, Value.cells, addL, ← hW0, ← hu, b0.cell_eq 0 rfl, bu.cell_eq 1 rfl, bu.cell_eq 0 rfl, h0.hd.blk.cell_eq 0 rfl, b0.cell_eq 1 rfl, hu0.hd.blk.cell_eq 0 rfl, a1, k1, k2, k3, k4, k5, k6]
end Go.Sh.Ytocijepcfannnaa
