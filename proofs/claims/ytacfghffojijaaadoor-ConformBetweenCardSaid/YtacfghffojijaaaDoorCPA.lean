/- dailieslaw20.sameFrame of equal frames: what it answers. Conditions: those of each statement. -/
import Derived.Test.YtacfghffojijaaaDoorCP9
namespace Go.Sh.YtacfghffojijaaaDoor
open Go Go.Proofs Go.RowKit
set_option linter.unusedVariables false
set_option linter.unusedSimpArgs false
set_option maxRecDepth 100000
/-- a sample of a plane of a frame is found -/
theorem at_ok {w : World} {A : Option Addr} {q : List Pl} (hr : Rd w A (q.map Pl.v)) (ho : ∀ x ∈ q, x.ok w) {i j : Nat} {x : Pl} (hx : q[i]? = some x) (hj : j < x.l.length) (hq : q.length ≤ maxLen) {v : Int} (hv : x.l[j]? = some v) (c : Nat) :
    ∃ aA aX : Addr, A = some aA ∧ prun Tryd.prog (Instr.indexAt 28 (.slice (some aA) q.length c) (.int .i64 i)) = some (.pointer (some (aA.add i))) ∧ w.cell? (aA.add i) = some (.slice (some aX) x.l.length x.c) ∧
      prun Tryd.prog (Instr.indexAt 38 (.slice (some aX) x.l.length x.c) (.int .i64 j)) = some (.pointer (some (aX.add j))) ∧ w.cell? (aX.add j) = some (.int .u16 v) := by
  have hmx : (maxLen : Int) = 9223372036854775807 := by simp [maxLen]
  have hil := (List.getElem?_eq_some_iff.mp hx).1
  have hxo := ho x (List.mem_of_getElem? hx)
  have hxl := hxo.len
  have hva : (q.map Pl.v)[i]? = some x.v := by simp [hx]
  have hua : (uv x.l)[j]? = some (.int .u16 v) := by simp [uv, hv]
  cases A with
  | none => have h : q.map Pl.v = [] := hr; rw [h] at hva; simp at hva
  | some aA =>
    have c1 := hr i _ hva
    have r1 := hxo.rd
    obtain ⟨X, cx, lx⟩ := x
    simp only at *
    cases X with
    | none => have h : uv lx = [] := r1; rw [h] at hua; simp at hua
    | some aX =>
      have d1 := r1 j _ hua
      have i1 := ix28 aA q.length c .i64 i (by omega) (by omega)
      have i3 := ix38 aX lx.length cx .i64 j (by omega) (by omega)
      simp only [Int.toNat_natCast, Nat.mul_one] at i1 i3
      exact ⟨aA, aX, rfl, i1, c1, i3, d1⟩
/-- a plane of a frame is found -/
theorem plane_at {w : World} {A : Option Addr} {q : List Pl} (hr : Rd w A (q.map Pl.v)) {i : Nat} {x : Pl} (hx : q[i]? = some x) (hq : q.length ≤ maxLen) (c : Nat) :
    ∃ aA : Addr, A = some aA ∧ prun Tryd.prog (Instr.indexAt 28 (.slice (some aA) q.length c) (.int .i64 i)) = some (.pointer (some (aA.add i))) ∧ w.cell? (aA.add i) = some (.slice x.A x.l.length x.c) := by
  have hmx : (maxLen : Int) = 9223372036854775807 := by simp [maxLen]
  have hil := (List.getElem?_eq_some_iff.mp hx).1
  have hva : (q.map Pl.v)[i]? = some x.v := by simp [hx]
  cases A with
  | none => have h : q.map Pl.v = [] := hr; rw [h] at hva; simp at hva
  | some aA =>
    have c1 := hr i _ hva
    have i1 := ix28 aA q.length c .i64 i (by omega) (by omega)
    simp only [Int.toNat_natCast, Nat.mul_one] at i1
    exact ⟨aA, rfl, i1, c1⟩
section
variable {w0 : World} {A B : Option Addr} {ca cb : Nat} {qa qb : List Pl} (ra : Rd w0 A (qa.map Pl.v)) (rb : Rd w0 B (qb.map Pl.v)) (oa : ∀ x ∈ qa, x.ok w0) (ob : ∀ x ∈ qb, x.ok w0) {a b : Nat} {W H D : Int} {al : Bool}
    (ba : Blk w0 a 30 (fcs W H D al (.slice A qa.length ca))) (bb : Blk w0 b 30 (fcs W H D al (.slice B qb.length cb))) (la : qa.length ≤ maxLen) (lb : qb.length = qa.length) (heq : ∀ (p : Nat) (x y : Pl), qa[p]? = some x → qb[p]? = some y → x.l = y.l)
include ra rb oa ob ba bb la lb heq
theorem same_l0 {i : Nat} {x y : Pl} (hx : qa[i]? = some x) (hy : qb[i]? = some y) {w : World} (G0 : w0.grownBy w none) :
    ∃ w', iter (f12.l0 C) [.pointer (some ⟨a, 0, none⟩), .pointer (some ⟨b, 0, none⟩), .int .i64 i, .int .i64 0] w = some (.exit 2 [.pointer (some ⟨a, 0, none⟩), .pointer (some ⟨b, 0, none⟩), .int .i64 i] w') ∧ w0.grownBy w' none := by
  have hxl := (oa x (List.mem_of_getElem? hx)).len
  have hxy := heq i x y hx hy
  have key := iter_down (f := f12.l0 C) (fun d st w1 => ∃ j : Nat, st = [.pointer (some ⟨a, 0, none⟩), .pointer (some ⟨b, 0, none⟩), .int .i64 i, .int .i64 j] ∧ j + d = x.l.length ∧ w0.grownBy w1 none)
    (fun r => ∃ w1, r = .exit 2 [.pointer (some ⟨a, 0, none⟩), .pointer (some ⟨b, 0, none⟩), .int .i64 i] w1 ∧ w0.grownBy w1 none) (by
      rintro d st w1 ⟨j, rfl, hj, G⟩
      have ba1 := ba.grown G (by simp)
      have bb1 := bb.grown G (by simp)
      cases d with
      | zero =>
        obtain rfl : j = x.l.length := by omega
        obtain ⟨aA, rfl, i1, c1⟩ := plane_at (ra.grown G) hx la ca
        exact .inr ⟨_, by simp [f12.l0, addL, ba1.cell_eq 4 rfl, i1, c1], ⟨w1, rfl, G⟩, by simp⟩
      | succ d =>
        have hjl : j < x.l.length := by omega
        obtain ⟨s, hs⟩ : ∃ s, s = x.l[j] := ⟨_, rfl⟩
        have hxs : x.l[j]? = some s := by rw [hs]; exact List.getElem?_eq_getElem hjl
        have hys : y.l[j]? = some s := by rw [← hxy]; exact hxs
        obtain ⟨u, hu⟩ : ∃ u, u = w1.drew := ⟨_, rfl⟩
        have gu : w1.grownBy u none := hu ▸ grown_drew w1 none
        have Gu := grown_trans G gu (by simp)
        have bau := ba.grown Gu (by simp)
        have bbu := bb.grown Gu (by simp)
        obtain ⟨aA, aX, e1, i1, c1, i2, d1⟩ := at_ok (ra.grown Gu) (fun x hx => (oa x hx).grown Gu) hx hjl la hxs ca
        obtain ⟨aB, aY, e2, i3, c2, i4, d2⟩ := at_ok (rb.grown Gu) (fun x hx => (ob x hx).grown Gu) hy (by rw [← hxy]; exact hjl) (by rw [lb]; exact la) hys cb
        obtain ⟨aA', e1', i1', c1'⟩ := plane_at (ra.grown G) hx la ca
        subst e1
        subst e2
        cases e1'
        have c1'' : w1.cell? (aA.add i) = some (.slice (some aX) x.l.length x.c) := by rw [hu] at c1; exact c1
        have e3 : IntKind.i64.wrap ((j : Int) + 1) = ((j + 1 : Nat) : Int) := (wrap_i64 (by omega) (by omega)).trans (by omega)
        refine .inl ⟨d, _, u, by omega, ?_, ⟨j + 1, rfl, by omega, Gu⟩⟩
        simp (disch := omega) [f12.l0, lt_t, ← hu, addL, ba1.cell_eq 4 rfl, bau.cell_eq 4 rfl, bbu.cell_eq 4 rfl, i1, i2, i3, i4, c1, c2, c1'', d1, d2, e3]) x.l.length _ w ⟨0, rfl, by omega, G0⟩
  obtain ⟨r, h1, w1, rfl, G1⟩ := key
  exact ⟨w1, h1, G1⟩
theorem same_l1 {w : World} (G0 : w0.grownBy w none) :
    ∃ w', iter (f12.l1 C) [.pointer (some ⟨a, 0, none⟩), .pointer (some ⟨b, 0, none⟩), .int .i64 0] w = some (.exit 0 [] w') ∧ w0.grownBy w' none := by
  have hmx : (maxLen : Int) = 9223372036854775807 := by simp [maxLen]
  have key := iter_down (f := f12.l1 C) (fun d st w1 => ∃ i : Nat, st = [.pointer (some ⟨a, 0, none⟩), .pointer (some ⟨b, 0, none⟩), .int .i64 i] ∧ i + d = qa.length ∧ w0.grownBy w1 none)
    (fun r => ∃ w1, r = .exit 0 [] w1 ∧ w0.grownBy w1 none) (by
      rintro d st w1 ⟨i, rfl, hi, G⟩
      have ba1 := ba.grown G (by simp)
      have bb1 := bb.grown G (by simp)
      cases d with
      | zero =>
        obtain rfl : i = qa.length := by omega
        exact .inr ⟨_, by simp [f12.l1, addL, ba1.cell_eq 4 rfl], ⟨w1, rfl, G⟩, by simp⟩
      | succ d =>
        have hil : i < qa.length := by omega
        obtain ⟨x, hx⟩ : ∃ x, qa[i]? = some x := ⟨_, List.getElem?_eq_getElem hil⟩
        obtain ⟨y, hy⟩ : ∃ y, qb[i]? = some y := ⟨_, List.getElem?_eq_getElem (by omega)⟩
        have hxy := heq i x y hx hy
        obtain ⟨u, hu⟩ : ∃ u, u = w1.drew := ⟨_, rfl⟩
        have gu : w1.grownBy u none := hu ▸ grown_drew w1 none
        have Gu := grown_trans G gu (by simp)
        have bau := ba.grown Gu (by simp)
        have bbu := bb.grown Gu (by simp)
        obtain ⟨aA, e1, i1, c1⟩ := plane_at (ra.grown Gu) hx la ca
        obtain ⟨aB, e2, i3, c2⟩ := plane_at (rb.grown Gu) hy (by rw [lb]; exact la) cb
        subst e1
        subst e2
        obtain ⟨w2, l2, G2⟩ := same_l0 ra rb oa ob ba bb la lb heq hx hy Gu
        have e3 : IntKind.i64.wrap ((i : Int) + 1) = ((i + 1 : Nat) : Int) := (wrap_i64 (by omega) (by omega)).trans (by omega)
        refine .inl ⟨d, _, w2, by omega, ?_, ⟨i + 1, rfl, by omega, G2⟩⟩
        rw [lb] at i3 bbu
        rw [← hxy] at c2
        simp (disch := omega) [f12.l1, lt_t, ← hu, addL, ba1.cell_eq 4 rfl, bau.cell_eq 4 rfl, bbu.cell_eq 4 rfl, i1, i3, c1, c2, l2, e3]) qa.length _ w ⟨0, rfl, by omega, G0⟩
  obtain ⟨r, h1, w1, rfl, G1⟩ := key
  exact ⟨w1, h1, G1⟩
end
theorem same_ok {w : World} {A B : Option Addr} {ca cb : Nat} {qa qb : List Pl} (ra : Rd w A (qa.map Pl.v)) (rb : Rd w B (qb.map Pl.v)) (oa : ∀ x ∈ qa, x.ok w) (ob : ∀ x ∈ qb, x.ok w) (W H D : Int) (al : Bool)
    (la : qa.length ≤ maxLen) (lb : qb.length = qa.length) (heq : ∀ (p : Nat) (x y : Pl), qa[p]? = some x → qb[p]? = some y → x.l = y.l) :
    ∃ w', C 12 #[fv W H D al A qa.length ca, fv W H D al B qb.length cb] w = some (.bool true, w') ∧ w.grownBy w' none := by
  obtain ⟨W0, hW0⟩ : ∃ W0, W0 = w.alloc (.cells #[.int .i64 W, .int .i64 H, .int .i64 D, .bool al, .slice A qa.length ca] 30) := ⟨_, rfl⟩
  have g0 : w.grownBy W0 none := hW0 ▸ World.grownBy_alloc w _ none
  have b0 : Blk W0 w.heap.size 30 (fcs W H D al (.slice A qa.length ca)) := hW0 ▸ Blk.new w 30 (fcs W H D al (.slice A qa.length ca))
  obtain ⟨W1, hW1⟩ : ∃ W1, W1 = W0.alloc (.cells #[.int .i64 W, .int .i64 H, .int .i64 D, .bool al, .slice B qb.length cb] 30) := ⟨_, rfl⟩
  have g1 : W0.grownBy W1 none := hW1 ▸ World.grownBy_alloc W0 _ none
  have b1 : Blk W1 W0.heap.size 30 (fcs W H D al (.slice B qb.length cb)) := hW1 ▸ Blk.new W0 30 (fcs W H D al (.slice B qb.length cb))
  have hs0 : W0.heap.size = w.heap.size + 1 := by rw [hW0]; simp
  have G1 := grown_trans g0 g1 (by simp)
  have b01 := b0.grown g1 (by simp)
  obtain ⟨w2, l2, g2⟩ := same_l1 (ra.grown G1) (rb.grown G1) (fun x hx => (oa x hx).grown G1) (fun x hx => (ob x hx).grown G1) b01 b1 la lb heq (grown_refl _ _)
  refine ⟨w2, f12.run rfl ?_, grown_trans G1 g2 (by simp)⟩
  rw [hs0] at b1 l2
  rw [lb] at b1 hW1
  rw [lb]
  simp [f12, box_any, Value.cells, ← hW0, ← hW1, hs0, ld27b b01 rfl, ld27b b1 rfl, addL, b01.cell_eq 4 rfl, b1.cell_eq 4 rfl, l2]
end Go.Sh.YtacfghffojijaaaDoor
