/- conform.Mix: what it answers. Conditions: those of each statement. -/
import Derived.Test.YtacfghffojijaaaDoorCP4
namespace Go.Sh.YtacfghffojijaaaDoor
open Go Go.Proofs Go.RowKit
set_option linter.unusedVariables false
set_option linter.unusedSimpArgs false
set_option maxRecDepth 100000
theorem build53 (W H D : Int) (al : Bool) (A : Option Addr) (n c : Nat) (W' H' D' : Int) (al' : Bool) (A' : Option Addr) (n' c' : Nat) : prun Tryd.prog (Instr.build 53 #[(0, fv W H D al A n c), (1, fv W' H' D' al' A' n' c')]) =
    some (.agg #[.int .i64 W, .int .i64 H, .int .i64 D, .bool al, .slice A n c, .int .i64 W', .int .i64 H', .int .i64 D', .bool al', .slice A' n' c']) := id (by kernel_rfl)
theorem index53_0 (v0 v1 v2 v3 v4 v5 v6 v7 v8 v9 : Value) : prun Tryd.prog (Instr.index 53 (.agg #[v0, v1, v2, v3, v4, v5, v6, v7, v8, v9]) (.int .i64 0)) = some (.agg #[v0, v1, v2, v3, v4]) := id (by kernel_rfl)
theorem index53_1 (v0 v1 v2 v3 v4 v5 v6 v7 v8 v9 : Value) : prun Tryd.prog (Instr.index 53 (.agg #[v0, v1, v2, v3, v4, v5, v6, v7, v8, v9]) (.int .i64 1)) = some (.agg #[v5, v6, v7, v8, v9]) := id (by kernel_rfl)
theorem cv39_3 (a : Int) : prun Tryd.prog (convert 39 3 (.int .u16 a)) = some (.int .i64 (IntKind.i64.wrap a)) := id (by kernel_rfl)
theorem cv3_39 (a : Int) : prun Tryd.prog (convert 3 39 (.int .i64 a)) = some (.int .u16 (IntKind.u16.wrap a)) := id (by kernel_rfl)
/-- one sample, mixed -/
def mv (part of x y : Int) : Int := IntKind.u16.wrap ((x * (of - part) + y * part + of.tdiv 2).tdiv of)
theorem prodb {a b m k : Int} (a0 : 0 ≤ a) (a1 : a ≤ m) (b0 : 0 ≤ b) (b1 : b ≤ k) (hm : 0 ≤ m) : 0 ≤ a * b ∧ a * b ≤ m * k := by
  refine ⟨Int.mul_nonneg a0 b0, ?_⟩
  exact Int.le_trans (Int.mul_le_mul_of_nonneg_right a1 b0) (Int.mul_le_mul_of_nonneg_left b1 hm)
/-- one look at one of the two frames -/
theorem mix_l0 {part of : Int} {v4 v5 v36 : Value} {R : Nat} {W H D : Int} {al : Bool} {A : Option Addr} {c : Nat} {q : List Pl} {w : World} {i : Int} (hi : i = 0 ∨ i = 1) (hx : prun Tryd.prog (Instr.index 53 v36 (.int .i64 i)) = some (fv W H D al A q.length c)) (hr : Rd w A (q.map Pl.v)) (hq : ∀ x ∈ q, x.ok w) (hlen : q.length ≤ maxLen)
    {v : Value} (hR : Blk w R 30 (fcs 0 0 0 false (.slice none 0 0))) :
    (vcode W H D al q = 0 ∧ ∃ w', f8.l0 C [.int .i64 part, .int .i64 of, v4, v5, .pointer (some ⟨R, 0, none⟩), v36, .int .i64 i] w = some (.norm [.int .i64 part, .int .i64 of, v4, v5, .pointer (some ⟨R, 0, none⟩), v36, .int .i64 (i + 1)] w') ∧ w.grownBy w' none) ∨
    (vcode W H D al q ≠ 0 ∧ ∃ w', f8.l0 C [.int .i64 part, .int .i64 of, v4, v5, .pointer (some ⟨R, 0, none⟩), v36, .int .i64 i] w = some (.ret [.pointer (some ⟨R, 0, none⟩), .int .i64 (vcode W H D al q)] w') ∧ Blk w' R 30 (fcs 0 0 0 false (.slice none 0 0)) ∧ w.grownBy w' (some R)) := by
  obtain ⟨W1, hW1⟩ : ∃ W1, W1 = w.alloc (.cells #[.int .i64 0, .int .i64 0, .int .i64 0, .bool false, .slice none 0 0] 30) := ⟨_, rfl⟩
  have g1 : w.grownBy W1 none := hW1 ▸ World.grownBy_alloc w _ none
  have b1 : Blk W1 w.heap.size 30 (fcs 0 0 0 false (.slice none 0 0)) := hW1 ▸ Blk.new w 30 (fcs 0 0 0 false (.slice none 0 0))
  obtain ⟨w2, s2, b2, g2⟩ := st30 b1 rfl W H D al A q.length c
  have G2 : w.grownBy w2 none := grown_trans g1 g2 fun k hk => by cases hk; omega
  obtain ⟨w3, a3, g3⟩ := valid_ok (W := W) (H := H) (D := D) (al := al) (c := c) (hr.grown G2) (fun x hx => (hq x hx).grown G2) hlen
  have G3 := grown_trans G2 g3 (by simp)
  have e1 : IntKind.i64.wrap (i + 1) = i + 1 := by rcases hi with rfl | rfl <;> rfl
  have hlt : (i < 2) = True := eq_true (by omega)
  by_cases hv : vcode W H D al q = 0
  · refine .inl ⟨hv, w3, ?_, G3⟩
    rw [hv] at a3
    simp [f8.l0, hlt, hx, alloc30, ← hW1, s2, ld30b b2, a3, e1]
  · have hR3 := hR.grown G3 (by simp)
    obtain ⟨w4, s4, b4, g4⟩ := st30 hR3 rfl 0 0 0 false none 0 0
    refine .inr ⟨hv, w4, ?_, b4, grown_step (grown_weak G3 _) g4⟩
    simp [f8.l0, hlt, hx, alloc30, ← hW1, s2, ld30b b2, a3, hv, build30z, s4]
/-- the samples of a plane, mixed -/
def mixl (part of : Int) (la lb : List Int) : List Int := List.zipWith (mv part of) la lb
theorem mixl_length (part of : Int) {la lb : List Int} (h : la.length = lb.length) : (mixl part of la lb).length = la.length := by simp [mixl, h]
section
variable {part of : Int} (hof : 1 ≤ of) (hof' : of ≤ 101) (hp0 : 0 ≤ part) (hp1 : part ≤ of)
include hof hof' hp0 hp1
/-- one plane is mixed -/
theorem mix_l1 {w0 : World} {A B : Option Addr} {ca cb : Nat} {qa qb : List Pl} (ra : Rd w0 A (qa.map Pl.v)) (rb : Rd w0 B (qb.map Pl.v)) (oa : ∀ x ∈ qa, x.ok w0) (ob : ∀ x ∈ qb, x.ok w0) {a b : Nat} {W H D W' H' D' : Int} {al al' : Bool}
    (v8 v13 v60 v61 : Value) {i : Nat} {x y : Pl} (hx : qa[i]? = some x) (hy : qb[i]? = some y) (hxy : x.l.length = y.l.length) (hqa : qa.length ≤ 4) (hqb : qb.length ≤ 4) {q : List (Value × List Value)} {p : Value × List Value} (hip : q[i]? = some p) {P : Option Addr} (hP : p.1 = .slice P x.l.length x.l.length) (hpl : p.2.length = x.l.length) (hq4 : q.length ≤ 4)
    {w : World} (G0 : w0.grownBy w none) {base : Nat} (hb0 : w0.heap.size ≤ base) (hr : Rows w base 39 q) (ba : Blk w a 30 (fcs W H D al (.slice A qa.length ca))) (bb : Blk w b 30 (fcs W' H' D' al' (.slice B qb.length cb))) :
    ∃ w', iter (f8.l1 C) [.int .i64 part, .int .i64 of, .pointer (some ⟨a, 0, none⟩), .pointer (some ⟨b, 0, none⟩), v8, v13, .int .i64 i, p.1, v60, v61, .int .i64 i, .int .i64 x.l.length, .int .i64 0] w = some (.exit 4 [.int .i64 part, .int .i64 of, .pointer (some ⟨a, 0, none⟩), .pointer (some ⟨b, 0, none⟩), v8, v13, v60, v61, .int .i64 i] w') ∧
      Rows w' base 39 (q.set i (p.1, uv (mixl part of x.l y.l))) ∧ Grew (fun k => p.1.ownBlock = some k) w w' := by
  have hil := (List.getElem?_eq_some_iff.mp hip).1
  have hia := (List.getElem?_eq_some_iff.mp hx).1
  have hib := (List.getElem?_eq_some_iff.mp hy).1
  have hxo := oa x (List.mem_of_getElem? hx)
  have hyo := ob y (List.mem_of_getElem? hy)
  have hml := mixl_length part of hxy
  have hlen := hxo.len
  have op := hr.part hip
  have key := iter_down (f := f8.l1 C) (fun d st w1 => ∃ (j : Nat) (xs' : List Value), st = [.int .i64 part, .int .i64 of, .pointer (some ⟨a, 0, none⟩), .pointer (some ⟨b, 0, none⟩), v8, v13, .int .i64 i, p.1, v60, v61, .int .i64 i, .int .i64 x.l.length, .int .i64 j] ∧ j + d = x.l.length ∧ xs'.length = d ∧
      Rows w1 base 39 (q.set i (p.1, (uv (mixl part of x.l y.l)).take j ++ xs')) ∧ Grew (fun k => p.1.ownBlock = some k) w w1)
    (fun r => ∃ w1, r = .exit 4 [.int .i64 part, .int .i64 of, .pointer (some ⟨a, 0, none⟩), .pointer (some ⟨b, 0, none⟩), v8, v13, v60, v61, .int .i64 i] w1 ∧ Rows w1 base 39 (q.set i (p.1, uv (mixl part of x.l y.l))) ∧ Grew (fun k => p.1.ownBlock = some k) w w1) (by
      rintro d st w1 ⟨j, xs', rfl, hj, hxs, E, G⟩
      have hget : (q.set i (p.1, (uv (mixl part of x.l y.l)).take j ++ xs'))[i]? = some (p.1, (uv (mixl part of x.l y.l)).take j ++ xs') := List.getElem?_set_self hil
      cases d with
      | zero =>
        obtain rfl : j = x.l.length := by omega
        have : xs' = [] := by simpa using hxs
        subst this
        have ht : (uv (mixl part of x.l y.l)).take x.l.length = uv (mixl part of x.l y.l) := List.take_of_length_le (by simp [uv, hml])
        rw [ht, List.append_nil] at E
        exact .inr ⟨_, by simp [f8.l1], ⟨w1, rfl, E, G⟩, by simp⟩
      | succ d =>
        cases xs' with
        | nil => simp at hxs
        | cons z xs' =>
          have hjl : j < x.l.length := by omega
          have hjy : j < y.l.length := by omega
          obtain ⟨s, hs⟩ : ∃ s, s = x.l[j] := ⟨_, rfl⟩
          obtain ⟨t, ht⟩ : ∃ t, t = y.l[j] := ⟨_, rfl⟩
          have hxs1 : x.l[j]? = some s := by rw [hs]; exact List.getElem?_eq_getElem hjl
          have hyt : y.l[j]? = some t := by rw [ht]; exact List.getElem?_eq_getElem hjy
          obtain ⟨s0, s1⟩ := hxo.rng s (List.mem_of_getElem? hxs1)
          obtain ⟨t0, t1⟩ := hyo.rng t (List.mem_of_getElem? hyt)
          obtain ⟨u, hu⟩ : ∃ u, u = w1.drew := ⟨_, rfl⟩
          have gu : w1.grownBy u none := hu ▸ grown_drew w1 none
          have Gall : Grew (fun k => base ≤ k) w u := (G.weak fun k hk => .inl (op.lt k hk).1).step (grew_new gu)
          have G0u : w0.grownBy u none := ((grew_new (S := fun k => base ≤ k) G0).step Gall).none2 hb0
          have bau : Blk u a 30 (fcs W H D al (.slice A qa.length ca)) := (ba.grew G (fun e => own_blk_ne op ba (by decide) e)).grown gu (by simp)
          have bbu : Blk u b 30 (fcs W' H' D' al' (.slice B qb.length cb)) := (bb.grew G (fun e => own_blk_ne op bb (by decide) e)).grown gu (by simp)
          have ba1 : Blk w1 a 30 (fcs W H D al (.slice A qa.length ca)) := ba.grew G (fun e => own_blk_ne op ba (by decide) e)
          have bb1 : Blk w1 b 30 (fcs W' H' D' al' (.slice B qb.length cb)) := bb.grew G (fun e => own_blk_ne op bb (by decide) e)
          have hva : (qa.map Pl.v)[i]? = some x.v := by simp [hx]
          have hvb : (qb.map Pl.v)[i]? = some y.v := by simp [hy]
          have hua : (uv x.l)[j]? = some (.int .u16 s) := by simp [uv, hxs1]
          have hub : (uv y.l)[j]? = some (.int .u16 t) := by simp [uv, hyt]
          have o := E.part hget
          have hl2 : ((uv (mixl part of x.l y.l)).take j ++ z :: xs').length = x.l.length := by simp [uv, hml] at hxs ⊢; omega
          rw [hl2] at o
          simp only at o
          rw [hP] at o
          have o' := own_new o gu
          obtain ⟨pa, w2, e, hba, s2, o2, g2⟩ := own_store (P := Tryd.prog) o' (t := 39) inf39 size39 hjl (v := .int .u16 (mv part of s t)) rfl rfl
          subst e
          have hset : ((uv (mixl part of x.l y.l)).take j ++ z :: xs').set j (.int .u16 (mv part of s t)) = (uv (mixl part of x.l y.l)).take (j + 1) ++ xs' := by
            have hm : (uv (mixl part of x.l y.l))[j]? = some (.int .u16 (mv part of s t)) := by
              unfold uv mixl
              rw [List.getElem?_map, List.getElem?_zipWith, hxs1, hyt]
              rfl
            have hlj : ((uv (mixl part of x.l y.l)).take j).length = j := by simp [uv, hml]; omega
            rw [List.set_append_right _ _ (by omega), hlj, Nat.sub_self, List.set_cons_zero, List.take_add_one, hm]
            simp
          rw [hset] at o2
          cases A with
          | none => have h : qa.map Pl.v = [] := ra; rw [h] at hva; simp at hva
          | some aA =>
            cases B with
            | none => have h : qb.map Pl.v = [] := rb; rw [h] at hvb; simp at hvb
            | some aB =>
              have c1 := (ra.grown G0u) i _ hva
              have c2 := (rb.grown G0u) i _ hvb
              have r1 := hxo.rd.grown G0u
              have r2 := hyo.rd.grown G0u
              obtain ⟨X, cx, lx⟩ := x
              obtain ⟨Y, cy, ly⟩ := y
              simp only at *
              cases X with
              | none => have h : uv lx = [] := r1; rw [h] at hua; simp at hua
              | some aX =>
                cases Y with
                | none => have h : uv ly = [] := r2; rw [h] at hub; simp at hub
                | some aY =>
                  have d1 := r1 j _ hua
                  have d2 := r2 j _ hub
                  unfold Pl.v at c1 c2
                  simp only at c1 c2
                  have i1 := ix28 aA qa.length ca .i64 i (by omega) (by omega)
                  have i2 := ix28 aB qb.length cb .i64 i (by omega) (by omega)
                  have i3 := ix38 aX lx.length cx .i64 j (by omega) (by omega)
                  have i4 := ix38 aY ly.length cy .i64 j (by omega) (by omega)
                  have i5 := ix38 pa lx.length lx.length .i64 j (by omega) (by omega)
                  simp only [Int.toNat_natCast, Nat.mul_one] at i1 i2 i3 i4 i5
                  have m1 := prodb (a := s) (b := of - part) (m := 65535) (k := 101) s0 s1 (by omega) (by omega) (by omega)
                  have m2 := prodb (a := t) (b := part) (m := 65535) (k := 101) t0 t1 hp0 (by omega) (by omega)
                  have e1 : IntKind.i64.wrap (of - part) = of - part := wrap_i64 (by omega) (by omega)
                  have e2 : IntKind.i64.wrap s = s := wrap_i64 (by omega) (by omega)
                  have e2' : IntKind.i64.wrap t = t := wrap_i64 (by omega) (by omega)
                  have e3 : IntKind.i64.wrap (s * (of - part)) = s * (of - part) := wrap_i64 (by omega) (by omega)
                  have e4 : IntKind.i64.wrap (t * part) = t * part := wrap_i64 (by omega) (by omega)
                  have e5 : IntKind.i64.wrap (s * (of - part) + t * part) = s * (of - part) + t * part := wrap_i64 (by omega) (by omega)
                  have f1 : of.tdiv 2 = of / 2 := Int.tdiv_eq_ediv_of_nonneg (by omega)
                  have e6 : IntKind.i64.wrap (of / 2) = of / 2 := wrap_i64 (by omega) (by omega)
                  have e7 : IntKind.i64.wrap (s * (of - part) + t * part + of / 2) = s * (of - part) + t * part + of / 2 := wrap_i64 (by omega) (by omega)
                  have f2 : (s * (of - part) + t * part + of / 2).tdiv of = (s * (of - part) + t * part + of / 2) / of := Int.tdiv_eq_ediv_of_nonneg (by omega)
                  have hle : (s * (of - part) + t * part + of / 2) / of ≤ s * (of - part) + t * part + of / 2 := Int.ediv_le_self _ (by omega)
                  have hge : 0 ≤ (s * (of - part) + t * part + of / 2) / of := Int.ediv_nonneg (by omega) (by omega)
                  have e8 : IntKind.i64.wrap ((s * (of - part) + t * part + of / 2) / of) = (s * (of - part) + t * part + of / 2) / of := wrap_i64 (by omega) (by omega)
                  have hmv : mv part of s t = IntKind.u16.wrap ((s * (of - part) + t * part + of / 2) / of) := by unfold mv; rw [f1, f2]
                  rw [hmv] at s2
                  have ne0 : of ≠ 0 := by omega
                  have e9 : IntKind.i64.wrap ((j : Int) + 1) = ((j + 1 : Nat) : Int) := (wrap_i64 (by omega) (by omega)).trans (by omega)
                  have Gs : Grew (fun k => p.1.ownBlock = some k) w1 w2 := (grew_new gu).step (grew_of g2 fun k hk => .inl (by rw [hP]; exact hk))
                  have E2 := E.set hget Gs (p' := (p.1, (uv (mixl part of lx ly)).take (j + 1) ++ xs')) (by
                    have hl3 : ((uv (mixl part of lx ly)).take (j + 1) ++ xs').length = lx.length := by simp [uv, hml] at hxs ⊢; omega
                    rw [hl3]
                    simp only
                    rw [hP]
                    exact o2) (fun k hk => .inl hk)
                  rw [List.set_set] at E2
                  refine .inl ⟨d, _, w2, by omega, ?_, ⟨j + 1, xs', rfl, by omega, by simpa using hxs, E2, G.step Gs⟩⟩
                  rw [hP]
                  have c1w : w1.cell? (aA.add i) = some (.slice (some aX) lx.length cx) := by rw [hu] at c1; exact c1
                  have c2w : w1.cell? (aB.add i) = some (.slice (some aY) ly.length cy) := by rw [hu] at c2; exact c2
                  have d1w : w1.cell? (aX.add j) = some (.int .u16 s) := by rw [hu] at d1; exact d1
                  have d2w : w1.cell? (aY.add j) = some (.int .u16 t) := by rw [hu] at d2; exact d2
                  simp (disch := omega) [f8.l1, lt_t, ← hu, addL, ba1.cell_eq 4 rfl, bb1.cell_eq 4 rfl, bau.cell_eq 4 rfl, bbu.cell_eq 4 rfl, i1, i2, i3, i4, i5, c1, c2, d1, d2, c1w, c2w, d1w, d2w, cv39_3, e1, e2, e2', e3, e4, e5, bin_quo, f1, e6, e7, ne0, f2, e8, cv3_39, s2, e9]) x.l.length _ w ⟨0, p.2, rfl, by omega, hpl, by
        have : q.set i (p.1, (uv (mixl part of x.l y.l)).take 0 ++ p.2) = q := by
          apply List.ext_getElem?
          intro k
          by_cases hk : i = k
          · subst hk; rw [List.getElem?_set_self hil, hip]; simp
          · rw [List.getElem?_set_ne hk]
        rw [this]; exact hr, Grew.refl _ _⟩
  obtain ⟨r, h1, w1, rfl, E, G⟩ := key
  exact ⟨w1, by simpa using h1, E, G⟩
end
end Go.Sh.YtacfghffojijaaaDoor
