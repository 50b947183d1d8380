/- dailieslaw20.Between: what it answers, of frames that are there. Conditions: those of each statement. -/
import Derived.Test.YtacfghffojijaaaDoorCPC
namespace Go.Sh.YtacfghffojijaaaDoor
open Go Go.Proofs Go.RowKit
set_option linter.unusedVariables false
set_option linter.unusedSimpArgs false
set_option maxRecDepth 100000
theorem hold (w : World) (W H D : Int) (al : Bool) (A : Option Addr) (n c : Nat) :
    ∃ W1 w2, erun Tryd.prog (Instr.alloc 30 true (.tuple #[])) w = some (.pointer (some ⟨w.heap.size, 0, none⟩), W1) ∧ erun Tryd.prog (Instr.storeAt 30 (.pointer (some ⟨w.heap.size, 0, none⟩)) (fv W H D al A n c)) W1 = some ((), w2) ∧ Blk w2 w.heap.size 30 (fcs W H D al (.slice A n c)) ∧ w.grownBy w2 none := by
  have g1 : w.grownBy (w.alloc (.cells #[.int .i64 0, .int .i64 0, .int .i64 0, .bool false, .slice none 0 0] 30)) none := World.grownBy_alloc w _ none
  have b1 : Blk (w.alloc (.cells #[.int .i64 0, .int .i64 0, .int .i64 0, .bool false, .slice none 0 0] 30)) w.heap.size 30 (fcs 0 0 0 false (.slice none 0 0)) := Blk.new w 30 (fcs 0 0 0 false (.slice none 0 0))
  obtain ⟨w2, s2, b2, g2⟩ := st30 b1 rfl W H D al A n c
  exact ⟨_, w2, alloc30 w, s2, b2, grown_trans g1 g2 fun k hk => by cases hk; omega⟩
theorem mcode_zero {W H D : Int} {al : Bool} {qa : List Pl} {W' H' D' : Int} {al' : Bool} {qb : List Pl} (h : mcode W H D al qa W' H' D' al' qb = 0) : vcode W H D al qa = 0 ∧ vcode W' H' D' al' qb = 0 ∧ W = W' ∧ H = H' ∧ D = D' ∧ al = al' := by
  unfold mcode at h
  split at h
  · rename_i h1; exact absurd h h1
  · rename_i h1
    split at h
    · rename_i h2; exact absurd h h2
    · rename_i h2
      split at h
      · rename_i h3
        exact ⟨Classical.not_not.mp h1, Classical.not_not.mp h2, h3⟩
      · cases h
theorem mcode_self {W H D : Int} {al : Bool} {qa : List Pl} (h : vcode W H D al qa = 0) : mcode W H D al qa W H D al qa = 0 := by
  unfold mcode
  rw [if_neg (fun h' => h' h), if_neg (fun h' => h' h), if_pos ⟨rfl, rfl, rfl, rfl⟩]
section
variable {w : World} {W H D : Int} {al : Bool} {A : Option Addr} {ca : Nat} {qa : List Pl} {B : Option Addr} {cb : Nat} {qb : List Pl}
    (ra : Rd w A (qa.map Pl.v)) (rb : Rd w B (qb.map Pl.v)) (oa : ∀ x ∈ qa, x.ok w) (ob : ∀ x ∈ qb, x.ok w) (la : qa.length ≤ maxLen) (lb : qb.length ≤ maxLen)
include ra rb oa ob la lb
/-- a mix, held in a variable -/
theorem mix_hold {part of : Int} (hof : 1 ≤ of) (hof' : of ≤ 101) (hp0 : 0 ≤ part) (hp1 : part ≤ of) (hm : mcode W H D al qa W H D al qb = 0) (ca cb : Nat) :
    ∃ (M : Option Addr) (cM : Nat) (q : List Pl) (w1 W2 w3 : World), C 8 #[fv W H D al A qa.length ca, fv W H D al B qb.length cb, .int .i64 part, .int .i64 of] w = some (.tuple #[fv W H D al M q.length cM, .int .i64 0], w1) ∧
      erun Tryd.prog (Instr.alloc 30 true (.tuple #[])) w1 = some (.pointer (some ⟨w1.heap.size, 0, none⟩), W2) ∧ erun Tryd.prog (Instr.storeAt 30 (.pointer (some ⟨w1.heap.size, 0, none⟩)) (fv W H D al M q.length cM)) W2 = some ((), w3) ∧
      Blk w3 w1.heap.size 30 (fcs W H D al (.slice M q.length cM)) ∧ w.grownBy w3 none ∧ q.length = qa.length ∧ Rd w3 M (q.map Pl.v) ∧ (∀ x ∈ q, x.ok w3) ∧
      ∀ (p : Nat) (x y z : Pl), qa[p]? = some x → qb[p]? = some y → q[p]? = some z → z.l = mixl part of x.l y.l := by
  obtain ⟨va, vb, _⟩ := mcode_zero hm
  obtain ⟨_, l1, e1, _⟩ := vcode_zero va
  obtain ⟨_, l2, e2, _⟩ := vcode_zero vb
  obtain ⟨v, w1, a1, g1, hcase⟩ := mix_ok hof hof' hp0 hp1 (W := W) (H := H) (D := D) (al := al) (ca := ca) (W' := W) (H' := H) (D' := D) (al' := al) (cb := cb) ra rb oa ob la lb
  rw [hm] at a1 hcase
  rcases hcase with ⟨h0, _⟩ | ⟨_, M, cM, q, rfl, lq, mid, F⟩
  · exact absurd rfl h0
  obtain ⟨ql, k1, k2, k3, k4⟩ := fr_pl F (fun p => mixl part of ((qa[p]?.map Pl.l).getD []) ((qb[p]?.map Pl.l).getD [])) (fun p r hr => by
    have hp := (List.getElem?_eq_some_iff.mp hr).1
    obtain ⟨x, hx⟩ : ∃ x, qa[p]? = some x := ⟨_, List.getElem?_eq_getElem (by omega)⟩
    obtain ⟨y, hy⟩ : ∃ y, qb[p]? = some y := ⟨_, List.getElem?_eq_getElem (by omega)⟩
    obtain ⟨⟨P, hP⟩, hrl, hru⟩ := mid p r x y hr hx hy
    have hru := hru (by omega)
    have hxy : x.l.length = y.l.length := by have h1 := e1 p x hx; have h2 := e2 p y hy; omega
    have hml := mixl_length part of hxy
    simp only [hx, hy, Option.map_some, Option.getD_some]
    refine ⟨⟨P, by rw [hml]; exact hP⟩, hru, by rw [hml]; exact (oa x (List.mem_of_getElem? hx)).len, fun v hv => ?_⟩
    obtain ⟨s, hs, r, hr, rfl⟩ := zip_mem hv
    obtain ⟨s0, s1⟩ := (oa x (List.mem_of_getElem? hx)).rng s hs
    obtain ⟨r0, r1⟩ := (ob y (List.mem_of_getElem? hy)).rng r hr
    exact mv_range hof hp0 hp1 s0 s1 r0 r1)
  obtain ⟨W2, w3, s2, s3, b3, g3⟩ := hold w1 W H D al M ql.length cM
  rw [← k1] at a1
  refine ⟨M, cM, ql, w1, W2, w3, a1, s2, s3, b3, grown_trans g1 g3 (by simp), by omega, k3.grown g3, fun x hx => (k4 x hx).grown g3, fun p x y z hx hy hz => ?_⟩
  rw [k2 p z hz]
  simp only [hx, hy, Option.map_some, Option.getD_some]
end
theorem ldp4 {w : World} {b : Nat} {W H D : Int} {al : Bool} {A : Option Addr} {n c : Nat} (h : Blk w b 30 (fcs W H D al (.slice A n c))) : w.cell? ⟨b, 4, none⟩ = some (.slice A n c) := h.cell_eq 4 rfl
theorem between_ok {w : World} (hT : Tb w) {W H D : Int} {al : Bool} {A : Option Addr} {ca : Nat} {qa : List Pl} {W' H' D' : Int} {al' : Bool} {B : Option Addr} {cb : Nat} {qb : List Pl}
    (ra : Rd w A (qa.map Pl.v)) (rb : Rd w B (qb.map Pl.v)) (oa : ∀ x ∈ qa, x.ok w) (ob : ∀ x ∈ qb, x.ok w) (la : qa.length ≤ maxLen) (lb : qb.length ≤ maxLen)
    {x y : Int} (x0 : -9223372036854775808 ≤ x) (x1 : x ≤ 9223372036854775807) (y0 : -9223372036854775808 ≤ y) (y1 : y ≤ 9223372036854775807) :
    ∃ w', C 4 #[fv W H D al A qa.length ca, fv W' H' D' al' B qb.length cb, .int .i64 x, .int .i64 y] w = some (.bool true, w') ∧ w.grownBy w' none := by
  obtain ⟨W0, hW0⟩ : ∃ W0, W0 = w.alloc (.cells #[.int .i64 W, .int .i64 H, .int .i64 D, .bool al, .slice A qa.length ca] 30) := ⟨_, rfl⟩
  have g0 : w.grownBy W0 none := hW0 ▸ World.grownBy_alloc w _ none
  have b0 : Blk W0 w.heap.size 30 (fcs W H D al (.slice A qa.length ca)) := hW0 ▸ Blk.new w 30 (fcs W H D al (.slice A qa.length ca))
  obtain ⟨W1, hW1⟩ : ∃ W1, W1 = W0.alloc (.cells #[.int .i64 W', .int .i64 H', .int .i64 D', .bool al', .slice B qb.length cb] 30) := ⟨_, rfl⟩
  have g1 : W0.grownBy W1 none := hW1 ▸ World.grownBy_alloc W0 _ none
  have b1 : Blk W1 W0.heap.size 30 (fcs W' H' D' al' (.slice B qb.length cb)) := hW1 ▸ Blk.new W0 30 (fcs W' H' D' al' (.slice B qb.length cb))
  have b01 := b0.grown g1 (by simp)
  have G1 := grown_trans g0 g1 (by simp)
  obtain ⟨w2, a2, g2⟩ := awake_ok (hT.grown G1)
  have G2 := grown_trans G1 g2 (by simp)
  have ba2 := b01.grown g2 (by simp)
  have bb2 := b1.grown g2 (by simp)
  obtain ⟨rr, p1, r0, r1⟩ := pick_ok y 101 (by omega) (by omega) y0 y1 w2
  have e1 : IntKind.i64.wrap (1 + rr) = 1 + rr := wrap_i64 (by omega) (by omega)
  obtain ⟨of, hof⟩ : ∃ of, of = 1 + rr := ⟨_, rfl⟩
  rw [← hof] at e1
  have of1 : 1 ≤ of := by omega
  have of2 : of ≤ 101 := by omega
  obtain ⟨part, p2, pt0, pt1⟩ := pick_ok x of (by omega) (by omega) x0 x1 w2
  have e2 : IntKind.i64.wrap (part + 1) = part + 1 := wrap_i64 (by omega) (by omega)
  by_cases hm : mcode W H D al qa W' H' D' al' qb = 0
  · obtain ⟨va, vb, rfl, rfl, rfl, rfl⟩ := mcode_zero hm
    obtain ⟨_, l1, k1, _⟩ := vcode_zero va
    obtain ⟨_, l2, k2, _⟩ := vcode_zero vb
    have lab : qb.length = qa.length := by omega
    have hxy : ∀ (p : Nat) (x y : Pl), qa[p]? = some x → qb[p]? = some y → x.l.length = y.l.length := fun p x y hx hy => by have h1 := k1 p x hx; have h2 := k2 p y hy; omega
    obtain ⟨M, cM, qm, w3, W4, w5, a3, a4, a5, b5, g5, lm, rm, om, hmm⟩ := mix_hold (ra.grown G2) (rb.grown G2) (fun x hx => (oa x hx).grown G2) (fun x hx => (ob x hx).grown G2) la lb of1 of2 pt0 (by omega) hm ca cb
    have G5 := grown_trans G2 g5 (by simp)
    have ba5 := ba2.grown g5 (by simp)
    have bb5 := bb2.grown g5 (by simp)
    obtain ⟨N, cN, qn, w6, W7, w8, a6, a7, a8, b8, g8, ln, rn, on, hmn⟩ := mix_hold (ra.grown G5) (rb.grown G5) (fun x hx => (oa x hx).grown G5) (fun x hx => (ob x hx).grown G5) la lb (part := part + 1) of1 of2 (by omega) (by omega) hm ca cb
    have G8 := grown_trans G5 g8 (by simp)
    have ba8 := ba5.grown g8 (by simp)
    have bb8 := bb5.grown g8 (by simp)
    obtain ⟨O, cO, qo, w9, W10, w11, a9, a10, a11, b11, g11, lo, ro, oo, hmo⟩ := mix_hold (ra.grown G8) (rb.grown G8) (fun x hx => (oa x hx).grown G8) (fun x hx => (ob x hx).grown G8) la lb (part := 0) of1 of2 (by omega) (by omega) hm ca cb
    have G11 := grown_trans G8 g11 (by simp)
    have ba11 := ba8.grown g11 (by simp)
    have bb11 := bb8.grown g11 (by simp)
    obtain ⟨P, cP, qp, w12, W13, w14, a12, a13, a14, b14, g14, lp, rp, op, hmp⟩ := mix_hold (ra.grown G11) (rb.grown G11) (fun x hx => (oa x hx).grown G11) (fun x hx => (ob x hx).grown G11) la lb (part := of) of1 of2 (by omega) (by omega) hm ca cb
    have G14 := grown_trans G11 g14 (by simp)
    have ba14 := ba11.grown g14 (by simp)
    have bb14 := bb11.grown g14 (by simp)
    obtain ⟨Q, cQ, qq, w15, W16, w17, a15, a16, a17, b17, g17, lq, rq, oq, hmq⟩ := mix_hold (ra.grown G14) (ra.grown G14) (fun x hx => (oa x hx).grown G14) (fun x hx => (oa x hx).grown G14) la la (part := part) of1 of2 (by omega) (by omega) (mcode_self va) ca ca
    have G17 := grown_trans G14 g17 (by simp)
    have ba17 := ba14.grown g17 (by simp)
    have bb17 := bb14.grown g17 (by simp)
    have b11_17 := (b11.grown g14 (by simp)).grown g17 (by simp)
    obtain ⟨w18, a18, g18⟩ := same_ok ((ro.grown g14).grown g17) (ra.grown G17) (fun x hx => ((oo x hx).grown g14).grown g17) (fun x hx => (oa x hx).grown G17) (ca := cO) (cb := ca) W H D al (by omega) (by omega) (fun p z x hz hx => by
      have hp := (List.getElem?_eq_some_iff.mp hx).1
      obtain ⟨y, hy⟩ : ∃ y, qb[p]? = some y := ⟨_, List.getElem?_eq_getElem (by omega)⟩
      rw [hmo p x y z hx hy hz]
      exact zip_left _ _ _ (hxy p x y hx hy) fun s hs r hr => by
        obtain ⟨s0, s1⟩ := (oa x (List.mem_of_getElem? hx)).rng s hs
        obtain ⟨r0, r1⟩ := (ob y (List.mem_of_getElem? hy)).rng r hr
        exact mv_zero of1 s0 s1 r0 r1)
    have G18 := grown_trans G17 g18 (by simp)
    have b14_18 := (b14.grown g17 (by simp)).grown g18 (by simp)
    have bb18 := bb17.grown g18 (by simp)
    have ba18 := ba17.grown g18 (by simp)
    obtain ⟨w19, a19, g19⟩ := same_ok ((rp.grown g17).grown g18) (rb.grown G18) (fun x hx => ((op x hx).grown g17).grown g18) (fun x hx => (ob x hx).grown G18) (ca := cP) (cb := cb) W H D al (by omega) (by omega) (fun p z y hz hy => by
      have hp := (List.getElem?_eq_some_iff.mp hy).1
      obtain ⟨x, hx⟩ : ∃ x, qa[p]? = some x := ⟨_, List.getElem?_eq_getElem (by omega)⟩
      rw [hmp p x y z hx hy hz]
      exact zip_right _ _ _ (hxy p x y hx hy) fun s hs r hr => by
        obtain ⟨s0, s1⟩ := (oa x (List.mem_of_getElem? hx)).rng s hs
        obtain ⟨r0, r1⟩ := (ob y (List.mem_of_getElem? hy)).rng r hr
        exact mv_all of1 s0 s1 r0 r1)
    have G19 := grown_trans G18 g19 (by simp)
    have b17_19 := (b17.grown g18 (by simp)).grown g19 (by simp)
    have ba19 := ba18.grown g19 (by simp)
    obtain ⟨w20, a20, g20⟩ := same_ok ((rq.grown g18).grown g19) (ra.grown G19) (fun x hx => ((oq x hx).grown g18).grown g19) (fun x hx => (oa x hx).grown G19) (ca := cQ) (cb := ca) W H D al (by omega) (by omega) (fun p z x hz hx => by
      rw [hmq p x x z hx hx hz]
      exact zip_self _ _ fun s hs => by
        obtain ⟨s0, s1⟩ := (oa x (List.mem_of_getElem? hx)).rng s hs
        exact mv_self of1 pt0 (by omega) s0 s1)
    have G20 := grown_trans G19 g20 (by simp)
    have g8_20 : w8.grownBy w20 none := grown_trans (grown_trans (grown_trans (grown_trans (grown_trans g11 g14 (by simp)) g17 (by simp)) g18 (by simp)) g19 (by simp)) g20 (by simp)
    have g5_20 := grown_trans g8 g8_20 (by simp)
    have ba20 := ba19.grown g20 (by simp)
    have bb20 := (bb18.grown g19 (by simp)).grown g20 (by simp)
    obtain ⟨w21, a21, g21⟩ := bet_l1 of1 pt0 pt1 (ra.grown G20) (rb.grown G20) (rm.grown g5_20) (rn.grown g8_20) (fun x hx => (oa x hx).grown G20) (fun x hx => (ob x hx).grown G20) (fun x hx => (om x hx).grown g5_20) (fun x hx => (on x hx).grown g8_20) ba20 bb20 (b5.grown g5_20 (by simp)) (b8.grown g8_20 (by simp)) la lab lm ln hxy hmm hmn (grown_refl _ _)
    refine ⟨w21, f4.run rfl ?_, grown_trans G20 g21 (by simp)⟩
    simp only [f4]
    simp [box_any, Value.cells, ← hW0, ← hW1, a2, p1, ← hof, e1, p2, e2, ld30b ba2, ld30b bb2, a3, ext2_0, ext2_1, a4, a5, ld30b ba5, ld30b bb5, a6, a7, a8, bool_not, ld30b ba8, ld30b bb8, a9, a10, a11, ld30b ba11, ld30b bb11, a12, a13, a14, ld30b ba14, ld30b bb14, a15, a16, a17, ld30b ba17, ld30b bb17, ld30b b11_17, a18, ld30b b14_18, ld30b bb18, a19, ld30b b17_19, ld30b ba19, a20, a21]
  · obtain ⟨v3, w3, a3, g3, c3⟩ := mix_ok of1 of2 pt0 (by omega) (W := W) (H := H) (D := D) (al := al) (ca := ca) (W' := W') (H' := H') (D' := D') (al' := al') (cb := cb) (ra.grown G2) (rb.grown G2) (fun x hx => (oa x hx).grown G2) (fun x hx => (ob x hx).grown G2) la lb
    rcases c3 with ⟨_, rfl⟩ | ⟨h, _⟩
    · obtain ⟨W4, w5, a4, a5, b5, g5⟩ := hold w3 0 0 0 false none 0 0
      have G5' := grown_trans g3 g5 (by simp)
      have G5 := grown_trans G2 G5' (by simp)
      have ba5 := ba2.grown G5' (by simp)
      have bb5 := bb2.grown G5' (by simp)
      obtain ⟨v6, w6, a6, g6, c6⟩ := mix_ok of1 of2 (part := part + 1) (by omega) (by omega) (W := W) (H := H) (D := D) (al := al) (ca := ca) (W' := W') (H' := H') (D' := D') (al' := al') (cb := cb) (ra.grown G5) (rb.grown G5) (fun x hx => (oa x hx).grown G5) (fun x hx => (ob x hx).grown G5) la lb
      rcases c6 with ⟨_, rfl⟩ | ⟨h, _⟩
      · obtain ⟨W7, w8, a7, a8, b8, g8⟩ := hold w6 0 0 0 false none 0 0
        have G8' := grown_trans g6 g8 (by simp)
        have G8 := grown_trans G5 G8' (by simp)
        have b58 := b5.grown G8' (by simp)
        refine ⟨w8, f4.run rfl ?_, G8⟩
        simp only [f4]
        simp [box_any, Value.cells, ← hW0, ← hW1, a2, p1, ← hof, e1, p2, e2, ld30b ba2, ld30b bb2, a3, ext2_0, ext2_1, a4, a5, ld30b ba5, ld30b bb5, a6, a7, a8, bool_not, hm, addL, ldp4 b58, ldp4 b8]
      · exact absurd h hm
    · exact absurd h hm
end Go.Sh.YtacfghffojijaaaDoor
