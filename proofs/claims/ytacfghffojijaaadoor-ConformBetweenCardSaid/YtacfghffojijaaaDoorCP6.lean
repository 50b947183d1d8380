/- conform.Mix: what it answers, whole. Conditions: those of each statement. -/
import Derived.Test.YtacfghffojijaaaDoorCP5
namespace Go.Sh.YtacfghffojijaaaDoor
open Go Go.Proofs Go.RowKit
set_option linter.unusedVariables false
set_option linter.unusedSimpArgs false
set_option maxRecDepth 100000
/-- how far the planes are mixed -/
def Mid (part of : Int) (qa qb : List Pl) (q : List (Value × List Value)) (i : Nat) : Prop := ∀ (p : Nat) r x y, q[p]? = some r → qa[p]? = some x → qb[p]? = some y → (∃ P, r.1 = .slice P x.l.length x.l.length) ∧ r.2.length = x.l.length ∧ (p < i → r.2 = uv (mixl part of x.l y.l))
section
variable {part of : Int} (hof : 1 ≤ of) (hof' : of ≤ 101) (hp0 : 0 ≤ part) (hp1 : part ≤ of)
include hof hof' hp0 hp1
theorem mix_l2 {w0 : World} {A B : Option Addr} {ca cb : Nat} {qa qb : List Pl} (ra : Rd w0 A (qa.map Pl.v)) (rb : Rd w0 B (qb.map Pl.v)) (oa : ∀ x ∈ qa, x.ok w0) (ob : ∀ x ∈ qb, x.ok w0) {a b : Nat} {W H D W' H' D' : Int} {al al' : Bool}
    (v8 v13 : Value) (hqa : qa.length ≤ 4) (hqb : qb.length = qa.length) (hlen : ∀ (p : Nat) x y, qa[p]? = some x → qb[p]? = some y → x.l.length = y.l.length) {w1 : World} (G01 : w0.grownBy w1 none) {V : Value} {base : Nat} (hb0 : w0.heap.size ≤ base) {cV : Nat} {AV : Option Addr} (q0 : List (Value × List Value)) :
    ∀ (d : Nat) (st : List Value) (w : World), (∃ (i : Nat) (q : List (Value × List Value)), st = [.int .i64 part, .int .i64 of, .pointer (some ⟨a, 0, none⟩), .pointer (some ⟨b, 0, none⟩), v8, v13, .slice AV qa.length cV, .int .i64 qa.length, .int .i64 i] ∧ i + d = qa.length ∧ q.length = qa.length ∧ Mid part of qa qb q i ∧ Fr w base (.slice AV qa.length cV) q ∧
        Blk w a 30 (fcs W H D al (.slice A qa.length ca)) ∧ Blk w b 30 (fcs W' H' D' al' (.slice B qb.length cb)) ∧ w0.grownBy w none ∧ Grew (fun k => rfp q0 k) w1 w ∧ (∀ k, rfp q k → rfp q0 k)) →
    ∃ r, iter (f8.l2 C) st w = some r ∧ ∃ q w', r = .exit 2 [v8, v13] w' ∧ q.length = qa.length ∧ Mid part of qa qb q qa.length ∧ Fr w' base (.slice AV qa.length cV) q ∧ w0.grownBy w' none ∧ Grew (fun k => rfp q0 k) w1 w' := by
  refine iter_down _ _ ?_
  rintro d st w ⟨i, q, rfl, hi, hq, hmid, F, ba, bb, G, Gw, hq0⟩
  cases d with
  | zero =>
    obtain rfl : i = qa.length := by omega
    exact .inr ⟨_, by simp [f8.l2], ⟨q, w, rfl, hq, hmid, F, G, Gw⟩, by simp⟩
  | succ d =>
    have hia : i < qa.length := by omega
    obtain ⟨x, hx⟩ : ∃ x, x = qa[i] := ⟨_, rfl⟩
    have hix : qa[i]? = some x := by rw [hx]; exact List.getElem?_eq_getElem hia
    obtain ⟨y, hy⟩ : ∃ y, y = qb[i]'(by omega) := ⟨_, rfl⟩
    have hiy : qb[i]? = some y := by rw [hy]; exact List.getElem?_eq_getElem (by omega)
    obtain ⟨p, hp⟩ : ∃ p, p = q[i]'(by omega) := ⟨_, rfl⟩
    have hiq : i < q.length := by omega
    have hip : q[i]? = some p := by rw [hp]; exact List.getElem?_eq_getElem hiq
    obtain ⟨⟨P, hP⟩, hpl, _⟩ := hmid i p x y hip hix hiy
    have hxy := hlen i x y hix hiy
    have op := F.pl.part hip
    obtain ⟨w2, a2, E2, G2⟩ := mix_l1 hof hof' hp0 hp1 ra rb oa ob (ca := ca) (cb := cb) v8 v13 (.slice AV qa.length cV) (.int .i64 qa.length) hix hiy hxy hqa (by omega) hip hP hpl (by omega) G hb0 F.pl ba bb
    have hrow := F.row
    rw [hq] at hrow
    obtain ⟨aV, rfl, cell⟩ := own_cell hrow (j := i) (v := p.1) (by simp [hip])
    have ix := ix28 aV qa.length cV .i64 i (by omega) (by omega)
    simp only [Int.toNat_natCast, Nat.mul_one] at ix
    have e3 : IntKind.i64.wrap ((i : Int) + 1) = ((i + 1 : Nat) : Int) := (wrap_i64 (by omega) (by omega)).trans (by omega)
    have hml := mixl_length part of hxy
    have hm : ∀ y : List Value, (q.set i (p.1, y)).map (·.1) = q.map (·.1) := fun y => by
      rw [List.map_set]
      apply List.ext_getElem?
      intro k
      by_cases hk : i = k
      · subst hk; rw [List.getElem?_set_self (by simpa using hiq)]; simp [hip]
      · rw [List.getElem?_set_ne hk]
    have hrf : ∀ k, rfp (q.set i (p.1, uv (mixl part of x.l y.l))) k ↔ rfp q k := fun k => by
      constructor
      · rintro ⟨r, hr, hk⟩
        obtain ⟨j, hj⟩ := List.getElem?_of_mem hr
        by_cases hij : i = j
        · subst hij
          rw [List.getElem?_set_self hiq] at hj
          cases hj
          exact ⟨p, List.mem_of_getElem? hip, hk⟩
        · rw [List.getElem?_set_ne hij] at hj
          exact ⟨r, List.mem_of_getElem? hj, hk⟩
      · rintro ⟨r, hr, hk⟩
        obtain ⟨j, hj⟩ := List.getElem?_of_mem hr
        by_cases hij : i = j
        · subst hij
          rw [hip] at hj
          cases hj
          exact ⟨_, List.mem_of_getElem? (List.getElem?_set_self hiq), hk⟩
        · exact ⟨r, List.mem_of_getElem? (by rw [List.getElem?_set_ne hij]; exact hj), hk⟩
    refine .inl ⟨d, _, w2, by omega, ?_, ⟨i + 1, q.set i (p.1, uv (mixl part of x.l y.l)), rfl, by omega, by simpa using hq, ?_, ⟨?_, E2⟩, ba.grew G2 (fun e => own_blk_ne op ba (by decide) e), bb.grew G2 (fun e => own_blk_ne op bb (by decide) e), ?_, ?_⟩⟩
    · rw [hP] at a2 cell
      simp (disch := omega) [f8.l2, lt_t, ix, cell, a2, e3]
    · intro k r x' y' hr hx' hy'
      by_cases hk : i = k
      · subst hk
        rw [List.getElem?_set_self hiq] at hr
        cases hr
        rw [hix] at hx'
        rw [hiy] at hy'
        cases hx'
        cases hy'
        exact ⟨⟨P, hP⟩, by simp [uv, hml], fun _ => rfl⟩
      · rw [List.getElem?_set_ne hk] at hr
        obtain ⟨h1, h2, h3⟩ := hmid k r x' y' hr hx' hy'
        exact ⟨h1, h2, fun h => h3 (by omega)⟩
    · have := own_grew F.row G2 (fun k h1 h2 => own_own_ne F.row op (by decide) h1 h2)
      rw [List.length_set, hm]
      exact this
    · exact ((grew_new (S := fun k => base ≤ k) G).step (G2.weak fun k hk => .inl (op.lt k hk).1)).none2 hb0
    · exact ⟨Gw.step (G2.weak fun k hk => .inl (hq0 k ⟨p, List.mem_of_getElem? hip, hk⟩)), fun k hk => hq0 k ((hrf k).mp hk)⟩
end
open Classical in
noncomputable def mcode (W H D : Int) (al : Bool) (qa : List Pl) (W' H' D' : Int) (al' : Bool) (qb : List Pl) : Int :=
  if vcode W H D al qa ≠ 0 then vcode W H D al qa else if vcode W' H' D' al' qb ≠ 0 then vcode W' H' D' al' qb else if W = W' ∧ H = H' ∧ D = D' ∧ al = al' then 0 else 204
theorem vcode_zero {W H D : Int} {al : Bool} {q : List Pl} (h : vcode W H D al q = 0) : Shd W H D al ∧ q.length = pl al ∧ (∀ p x, q[p]? = some x → (x.l.length : Int) = wd W p * H) ∧ ∀ x ∈ q, ∀ v ∈ x.l, v < (2 : Int) ^ D.toNat := by
  unfold vcode at h
  split at h
  · cases h
  · rename_i h1
    split at h
    · cases h
    · rename_i h2
      split at h
      · cases h
      · rename_i h3
        split at h
        · cases h
        · rename_i h4
          refine ⟨Classical.not_not.mp h1, Classical.not_not.mp h2, fun p x hp => ?_, fun x hx v hv => ?_⟩
          · apply Classical.byContradiction
            intro hn
            exact h3 ⟨p, x, hp, hn⟩
          · apply Classical.byContradiction
            intro hn
            exact h4 ⟨x, hx, v, hv, by omega⟩
theorem loads_two {w : World} {b : Nat} {W H D : Int} {al : Bool} {A : Option Addr} {n c : Nat} (h : Blk w b 30 (fcs W H D al (.slice A n c))) (s t : Nat) (v : Value) : loadsOf Tryd.prog [.cell s 30, .tmp t] [.pointer (some ⟨b, 0, none⟩), v] w = some [fv W H D al A n c, v] := by
  simp [ld30b h]
theorem mix_ok {part of : Int} (hof : 1 ≤ of) (hof' : of ≤ 101) (hp0 : 0 ≤ part) (hp1 : part ≤ of) {w : World} {W H D : Int} {al : Bool} {A : Option Addr} {ca : Nat} {qa : List Pl} {W' H' D' : Int} {al' : Bool} {B : Option Addr} {cb : Nat} {qb : List Pl}
    (ra : Rd w A (qa.map Pl.v)) (rb : Rd w B (qb.map Pl.v)) (oa : ∀ x ∈ qa, x.ok w) (ob : ∀ x ∈ qb, x.ok w) (la : qa.length ≤ maxLen) (lb : qb.length ≤ maxLen) :
    ∃ v w', C 8 #[fv W H D al A qa.length ca, fv W' H' D' al' B qb.length cb, .int .i64 part, .int .i64 of] w = some (.tuple #[v, .int .i64 (mcode W H D al qa W' H' D' al' qb)], w') ∧ w.grownBy w' none ∧
      ((mcode W H D al qa W' H' D' al' qb ≠ 0 ∧ v = fv 0 0 0 false none 0 0) ∨ (mcode W H D al qa W' H' D' al' qb = 0 ∧ ∃ AV cV q, v = fv W H D al AV q.length cV ∧ q.length = qa.length ∧ Mid part of qa qb q qa.length ∧ Fr w' w.heap.size (.slice AV q.length cV) q)) := by
  obtain ⟨W0, hW0⟩ : ∃ W0, W0 = w.alloc (.cells #[.int .i64 W, .int .i64 H, .int .i64 D, .bool al, .slice A qa.length ca] 30) := ⟨_, rfl⟩
  have g0 : w.grownBy W0 none := hW0 ▸ World.grownBy_alloc w _ none
  have b0 : Blk W0 w.heap.size 30 (fcs W H D al (.slice A qa.length ca)) := hW0 ▸ Blk.new w 30 (fcs W H D al (.slice A qa.length ca))
  obtain ⟨W1, hW1⟩ : ∃ W1, W1 = W0.alloc (.cells #[.int .i64 W', .int .i64 H', .int .i64 D', .bool al', .slice B qb.length cb] 30) := ⟨_, rfl⟩
  have g1 : W0.grownBy W1 none := hW1 ▸ World.grownBy_alloc W0 _ none
  have b1 : Blk W1 W0.heap.size 30 (fcs W' H' D' al' (.slice B qb.length cb)) := hW1 ▸ Blk.new W0 30 (fcs W' H' D' al' (.slice B qb.length cb))
  obtain ⟨W2, hW2⟩ : ∃ W2, W2 = W1.alloc (.cells #[.int .i64 0, .int .i64 0, .int .i64 0, .bool false, .slice none 0 0] 30) := ⟨_, rfl⟩
  have g2 : W1.grownBy W2 none := hW2 ▸ World.grownBy_alloc W1 _ none
  have b2 : Blk W2 W1.heap.size 30 (fcs 0 0 0 false (.slice none 0 0)) := hW2 ▸ Blk.new W1 30 (fcs 0 0 0 false (.slice none 0 0))
  have hs0 : W0.heap.size = w.heap.size + 1 := by rw [hW0]; simp
  have hs1 : W1.heap.size = w.heap.size + 2 := by rw [hW1]; simp [hs0]
  have b02 := (b0.grown g1 (by simp)).grown g2 (by simp)
  have b12 := b1.grown g2 (by simp)
  have G2 : w.grownBy W2 none := grown_trans (grown_trans g0 g1 (by simp)) g2 (by simp)
  rw [hs0] at b12
  rw [hs1] at b2
  have sizes : W0.heap.size = w.heap.size + 1 ∧ W1.heap.size = w.heap.size + 1 + 1 := ⟨hs0, by omega⟩
  have first := mix_l0 (part := part) (of := of) (v4 := .pointer (some ⟨w.heap.size, 0, none⟩)) (v5 := .pointer (some ⟨w.heap.size + 1, 0, none⟩)) (i := 0) (.inl rfl) (index53_0 _ _ _ _ _ (.int .i64 W') (.int .i64 H') (.int .i64 D') (.bool al') (.slice B qb.length cb)) (c := ca) (W := W) (H := H) (D := D) (al := al) (ra.grown G2) (fun x hx => (oa x hx).grown G2) la (v := undef) b2
  have cond1 : (of < 1) = False := eq_false (by omega)
  have cond2 : (101 < of) = False := eq_false (by omega)
  have cond3 : (part < 0) = False := eq_false (by omega)
  have cond4 : (of < part) = False := eq_false (by omega)
  rcases first with ⟨va, w3, l3, g3⟩ | ⟨va, w3, l3, b3, g3⟩
  · have G3 := grown_trans G2 g3 (by simp)
    have b3 := b2.grown g3 (by simp)
    have second := mix_l0 (part := part) (of := of) (v4 := .pointer (some ⟨w.heap.size, 0, none⟩)) (v5 := .pointer (some ⟨w.heap.size + 1, 0, none⟩)) (i := 1) (.inr rfl) (index53_1 (.int .i64 W) (.int .i64 H) (.int .i64 D) (.bool al) (.slice A qa.length ca) _ _ _ _ _) (c := cb) (W := W') (H := H') (D := D') (al := al') (rb.grown G3) (fun x hx => (ob x hx).grown G3) lb (v := undef) b3
    rcases second with ⟨vb, w4, l4, g4⟩ | ⟨vb, w4, l4, b4, g4⟩
    · have G4 := grown_trans G3 g4 (by simp)
      have b4 := b3.grown g4 (by simp)
      have ba4 := (b02.grown g3 (by simp)).grown g4 (by simp)
      have bb4 := (b12.grown g3 (by simp)).grown g4 (by simp)
      have l5 : f8.l0 C [.int .i64 part, .int .i64 of, .pointer (some ⟨w.heap.size, 0, none⟩), .pointer (some ⟨w.heap.size + 1, 0, none⟩), .pointer (some ⟨w.heap.size + 2, 0, none⟩), .agg #[.int .i64 W, .int .i64 H, .int .i64 D, .bool al, .slice A qa.length ca, .int .i64 W', .int .i64 H', .int .i64 D', .bool al', .slice B qb.length cb], .int .i64 (1 + 1)] w4 = some (.exit 0 [.int .i64 part, .int .i64 of, .pointer (some ⟨w.heap.size, 0, none⟩), .pointer (some ⟨w.heap.size + 1, 0, none⟩), .pointer (some ⟨w.heap.size + 2, 0, none⟩)] w4) := by simp [f8.l0]
      have it : iter (f8.l0 C) [.int .i64 part, .int .i64 of, .pointer (some ⟨w.heap.size, 0, none⟩), .pointer (some ⟨w.heap.size + 1, 0, none⟩), .pointer (some ⟨w.heap.size + 2, 0, none⟩), .agg #[.int .i64 W, .int .i64 H, .int .i64 D, .bool al, .slice A qa.length ca, .int .i64 W', .int .i64 H', .int .i64 D', .bool al', .slice B qb.length cb], .int .i64 0] W2 = some (.exit 0 [.int .i64 part, .int .i64 of, .pointer (some ⟨w.heap.size, 0, none⟩), .pointer (some ⟨w.heap.size + 1, 0, none⟩), .pointer (some ⟨w.heap.size + 2, 0, none⟩)] w4) :=
        iter_of_rounds (.more l3 (.more l4 (.exit l5)))
      by_cases hsh : W = W' ∧ H = H' ∧ D = D' ∧ al = al'
      · obtain ⟨rfl, rfl, rfl, rfl⟩ := hsh
        have hm : mcode W H D al qa W H D al qb = 0 := by unfold mcode; rw [if_neg (fun h => h va), if_neg (fun h => h vb), if_pos ⟨rfl, rfl, rfl, rfl⟩]
        obtain ⟨hS, hla, hea, _⟩ := vcode_zero va
        obtain ⟨_, hlb, heb, _⟩ := vcode_zero vb
        obtain ⟨An, cn, qn, w5, a5, hqn, hall, F5, g5⟩ := new_ok (al := al) hS w4
        have b5 := b4.grown g5 (by simp)
        have ba5 := ba4.grown g5 (by simp)
        have bb5 := bb4.grown g5 (by simp)
        have G5 := grown_trans G4 g5 (by simp)
        obtain ⟨W6, hW6⟩ : ∃ W6, W6 = w5.alloc (.cells #[.int .i64 0, .int .i64 0, .int .i64 0, .bool false, .slice none 0 0] 30) := ⟨_, rfl⟩
        have g6 : w5.grownBy W6 none := hW6 ▸ World.grownBy_alloc w5 _ none
        have b6 : Blk W6 w5.heap.size 30 (fcs 0 0 0 false (.slice none 0 0)) := hW6 ▸ Blk.new w5 30 (fcs 0 0 0 false (.slice none 0 0))
        obtain ⟨w7, s7, b7, g7⟩ := st30 b6 rfl W H D al An (pl al) cn
        have hb2lt := b5.lt
        have ba7 := (ba5.grown g6 (by simp)).grown g7 (by simp; omega)
        have bb7 := (bb5.grown g6 (by simp)).grown g7 (by simp; omega)
        have br7 := (b5.grown g6 (by simp)).grown g7 (by simp; omega)
        have F6 := F5.new g6
        have F7 := F6.grew (grew_of (S := fun k => k = w5.heap.size) g7 fun k hk => by cases hk; exact .inl rfl) fun k hk e => by have := (F5.ge hk).2; omega
        have G7 : w.grownBy w7 none := grown_trans (grown_trans G5 g6 (by simp)) g7 fun k hk => by cases hk; have := G5.size; omega
        have hle := pl_le al
        rw [← hla] at F7 hqn s7 b7 a5
        obtain ⟨r, h8, q, w8, rfl, hq8, mid8, F8, G8, Gw8⟩ := mix_l2 hof hof' hp0 hp1 ra rb oa ob (ca := ca) (cb := cb) (a := w.heap.size) (b := w.heap.size + 1) (W := W) (H := H) (D := D) (W' := W) (H' := H) (D' := D) (al := al) (al' := al) (.pointer (some ⟨w.heap.size + 2, 0, none⟩)) (.pointer (some ⟨w5.heap.size, 0, none⟩)) (by omega) (by omega)
          (fun p x y hx hy => by have h1 := hea p x hx; have h2 := heb p y hy; omega) G7 (V := undef) (base := w4.heap.size) G4.size qn qa.length _ w7 ⟨0, qn, rfl, by omega, hqn, (fun p r x y hr hx hy => by
            obtain ⟨A', n', hn', rfl⟩ := hall p r hr
            have h1 := hea p x hx
            have : n' = x.l.length := by omega
            subst this
            exact ⟨⟨A', rfl⟩, by simp [zp], fun h => by omega⟩), F7, ba7, bb7, G7, Grew.refl _ _, fun _ h => h⟩
        have br8 := br7.grew Gw8 fun hk => by
          have := (F7.pl.ge hk).1
          have := b4.lt
          omega
        have b8 : Blk w8 w5.heap.size 30 (fcs W H D al (.slice An qa.length cn)) := b7.grew Gw8 fun hk => F7.pl.ne_blk b7 (by decide) hk
        obtain ⟨w9, s9, b9, g9⟩ := st30 br8 rfl W H D al An qa.length cn
        have F9 := F8.grew (grew_of (S := fun k => k = w.heap.size + 2) g9 fun k hk => by cases hk; exact .inl rfl) fun k hk e => by have := (F8.ge hk).1; have := b4.lt; omega
        have F9' : Fr w9 w.heap.size (.slice An qa.length cn) q := ⟨own_base F9.row G4.size, ⟨fun p hp => own_base (F9.pl.own p hp) G4.size, F9.pl.dis⟩⟩
        refine ⟨fv W H D al An qa.length cn, w9, f8.run rfl ?_, grown_trans G8 g9 fun k hk => by cases hk; omega, .inr ⟨hm, An, cn, q, by rw [hq8], hq8, mid8, by rw [hq8]; exact F9'⟩⟩
        rw [hm]
        simp only [f8]
        simp at h8
        simp [box_any, Value.cells, ← hW0, ← hW1, alloc30, ← hW2, hs0, sizes, cond1, cond2, cond3, cond4, ld30b b02, ld30b b12, build53, it, addL, ld27b ba4 rfl, ld27b bb4 rfl, a5, ← hW6, s7, b7.cell_eq 4 rfl, h8, ld30b b8, s9, loads_two b9]
      · have hm : mcode W H D al qa W' H' D' al' qb = 204 := by unfold mcode; rw [if_neg (fun h => h va), if_neg (fun h => h vb), if_neg hsh]
        obtain ⟨w9, s9, b9, g9⟩ := st30 b4 rfl 0 0 0 false none 0 0
        refine ⟨fv 0 0 0 false none 0 0, w9, f8.run rfl ?_, grown_trans G4 g9 fun k hk => by cases hk; omega, .inl ⟨by rw [hm]; decide, rfl⟩⟩
        rw [hm]
        have hne : (W == W' && (H == H' && (D == D' && al == al'))) = false := by
          apply Bool.eq_false_iff.mpr
          intro h
          simp only [Bool.and_eq_true, beq_iff_eq] at h
          exact hsh h
        have hne' : (W == W' && H == H' && D == D' && al == al') = false := by rw [Bool.and_assoc, Bool.and_assoc]; exact hne
        simp only [f8]
        simp [box_any, Value.cells, ← hW0, ← hW1, alloc30, ← hW2, hs0, sizes, cond1, cond2, cond3, cond4, ld30b b02, ld30b b12, build53, it, addL, ld27b ba4 rfl, ld27b bb4 rfl, hne, hne', build30z, s9, loads_two b9, - Bool.and_eq_true]
    · have hm : mcode W H D al qa W' H' D' al' qb = vcode W' H' D' al' qb := by unfold mcode; rw [if_neg (fun h => h va), if_pos vb]
      have it : iter (f8.l0 C) [.int .i64 part, .int .i64 of, .pointer (some ⟨w.heap.size, 0, none⟩), .pointer (some ⟨w.heap.size + 1, 0, none⟩), .pointer (some ⟨w.heap.size + 2, 0, none⟩), .agg #[.int .i64 W, .int .i64 H, .int .i64 D, .bool al, .slice A qa.length ca, .int .i64 W', .int .i64 H', .int .i64 D', .bool al', .slice B qb.length cb], .int .i64 0] W2 = some (.ret [.pointer (some ⟨w.heap.size + 2, 0, none⟩), .int .i64 (vcode W' H' D' al' qb)] w4) :=
        iter_of_rounds (.more l3 (.ret l4))
      refine ⟨fv 0 0 0 false none 0 0, w4, f8.run rfl ?_, grown_trans G3 g4 fun k hk => by cases hk; omega, .inl ⟨by rw [hm]; exact vb, rfl⟩⟩
      rw [hm]
      simp only [f8]
      simp [box_any, Value.cells, ← hW0, ← hW1, alloc30, ← hW2, hs0, sizes, cond1, cond2, cond3, cond4, ld30b b02, ld30b b12, build53, it, loads_two b4]
  · have hm : mcode W H D al qa W' H' D' al' qb = vcode W H D al qa := by unfold mcode; rw [if_pos va]
    have it : iter (f8.l0 C) [.int .i64 part, .int .i64 of, .pointer (some ⟨w.heap.size, 0, none⟩), .pointer (some ⟨w.heap.size + 1, 0, none⟩), .pointer (some ⟨w.heap.size + 2, 0, none⟩), .agg #[.int .i64 W, .int .i64 H, .int .i64 D, .bool al, .slice A qa.length ca, .int .i64 W', .int .i64 H', .int .i64 D', .bool al', .slice B qb.length cb], .int .i64 0] W2 = some (.ret [.pointer (some ⟨w.heap.size + 2, 0, none⟩), .int .i64 (vcode W H D al qa)] w3) :=
      iter_of_rounds (.ret l3)
    refine ⟨fv 0 0 0 false none 0 0, w3, f8.run rfl ?_, grown_trans G2 g3 fun k hk => by cases hk; omega, .inl ⟨by rw [hm]; exact va, rfl⟩⟩
    rw [hm]
    simp only [f8]
    simp [box_any, Value.cells, ← hW0, ← hW1, alloc30, ← hW2, hs0, sizes, cond1, cond2, cond3, cond4, ld30b b02, ld30b b12, build53, it, loads_two b3]
end Go.Sh.YtacfghffojijaaaDoor
