/- ConformBetween: the walk: of arguments that came in. Conditions: those of each statement. -/
import Derived.Test.YtacfghffojijaaaDoorCPD
import Derived.Test.YtacfghffojijaaaDoorRows
import Derived.Test.YtacfghffojijaaaDoorShLaid
import Derived.Below
import Derived.MakeChecks
import Derived.OpenShut
namespace Go.Sh.YtacfghffojijaaaDoor
open Go Go.Proofs Go.RowKit Go.ChangeShapes Go.WideShapes
set_option linter.unusedVariables false
set_option linter.unusedSimpArgs false
set_option maxRecDepth 100000
theorem table_ok {W : World} (h : laidMetH Tryd.prog Go.Proofs.YtacfghffojijaaaDoor.Rows.conformBetweenRow.laid W) : Tb W := by
  rw [MakeChecks.laidMetH_plain _ _ _ (by kernel_rfl)] at h
  obtain ⟨ps, ⟨_, _, _, _, _, _, _, _, _, _, ⟨g, t, cs, fuel, p, q, hg, ht, hv, hd, _, _⟩, _⟩, _, _⟩ := h
  obtain rfl := Option.some.inj ((show Tryd.prog.globalNamed "dailies/timecode.table" = some 2 by kernel_rfl).symm.trans hg)
  obtain rfl := Option.some.inj ((show (Tryd.prog.globals[2]?).map (·.type) = some 105 by kernel_rfl).symm.trans ht)
  have hcell := fun j => World.var?_cell (show Tryd.prog.globalNamed "dailies/timecode.table" = some 2 by kernel_rfl) hv j
  obtain ⟨xs, m, _, ex, _, hl, hel⟩ := DataW.trod_array Tryd.underlying105 hd
  have c95 : Tryd.prog.cellsOf 95 = 4 := by kernel_rfl
  have c3 : Tryd.prog.cellsOf 3 = 1 := by kernel_rfl
  have e3 := (DataW.agg.inj (Prod.mk.inj ex).1)
  have hE := hel 2 (by omega)
  rw [c95, List.getElem?_eq_getElem (by omega)] at hE
  have e4 : (xs[2]'(by omega)).1 = .agg [.lit (.int .i64 25), .lit (.int .i64 25), .lit (.int .i64 1), .lit (.int .i64 0)] := by
    have e5 : (xs.map (·.1))[2]? = some (.agg [.lit (.int .i64 25), .lit (.int .i64 25), .lit (.int .i64 1), .lit (.int .i64 0)]) := by rw [← e3]; rfl
    rw [List.getElem?_map, List.getElem?_eq_getElem (by omega)] at e5
    exact Option.some.inj e5
  obtain ⟨ys, m', _, ey, hlen, hyl, hf⟩ := DataW.trod_struct Tryd.underlying95 hE
  rw [ey] at e4
  have e6 := DataW.agg.inj e4
  have h0 := hf 0 _ rfl
  have h1 := hf 1 _ rfl
  have h2 := hf 2 _ rfl
  have h3 := hf 3 _ rfl
  erw [c3] at h0 h1 h2 h3
  match ys, hyl with
  | [y0, y1, y2, y3], _ =>
    obtain ⟨n0, a0, b0, _⟩ := DataW.trod_int Tryd.underlying3 h0
    obtain ⟨n1, a1, b1, _⟩ := DataW.trod_int Tryd.underlying3 h1
    obtain ⟨n2, a2, b2, _⟩ := DataW.trod_int Tryd.underlying3 h2
    obtain ⟨n3, a3, b3, _⟩ := DataW.trod_int Tryd.underlying3 h3
    subst b0
    subst b1
    subst b2
    subst b3
    simp only [List.map_cons, List.map_nil, List.cons.injEq, DataW.lit.injEq, Lit.int.injEq, true_and, and_true] at e6
    obtain ⟨rfl, rfl, rfl, rfl⟩ := e6
    have key : ∀ (j : Nat) (v : Value), j < 4 → ((((cs.toList.drop (2 * 4)).take 4).drop j).take 1) = [v] → W.cell? ⟨2, 8 + j, none⟩ = some v := by
      intro j v hj hv
      rw [hcell, ← Array.getElem?_toList]
      have e : ((((cs.toList.drop (2 * 4)).take 4).drop j).take 1)[0]? = some v := by rw [hv]; rfl
      rw [List.getElem?_take_of_lt (by omega), List.getElem?_drop, List.getElem?_take_of_lt (by omega), List.getElem?_drop] at e
      simpa using e
    intro j v hv
    match j, hv with
    | 0, hv => cases hv; exact key 0 _ (by omega) a0
    | 1, hv => cases hv; exact key 1 _ (by omega) a1
    | 2, hv => cases hv; exact key 2 _ (by omega) a2
    | 3, hv => cases hv; exact key 3 _ (by omega) a3
theorem frame_in {W : World} {H : Type} {enc : TypeId × Value → H} {base : Nat} {v : Value} (o : Value.okWide Tryd.prog W .any base 30 v) (z : Dat enc Tryd.prog W 30 v.cells.toList) :
    ∃ (Wd Hd D : Int) (al : Bool) (A : Option Addr) (c : Nat) (q : List Pl), v = fv Wd Hd D al A q.length c ∧ Rd W A (q.map Pl.v) ∧ (∀ x ∈ q, x.ok W) ∧ q.length ≤ maxLen := by
  have o' : ∃ cs, v = .agg cs ∧ cs.size = Tryd.prog.cellsOf 30 ∧ Row.okWide Tryd.prog W .any base 30 cs := by
    unfold Value.okWide at o
    rw [Tryd.underlying30] at o
    exact o
  obtain ⟨cs, rfl, hsz, _⟩ := o'
  have z' : Dat enc Tryd.prog W 30 cs.toList := z
  have c30 : Tryd.prog.cellsOf 30 = 5 := by kernel_rfl
  have c27 : Tryd.prog.cellsOf 27 = 4 := by kernel_rfl
  have c28 : Tryd.prog.cellsOf 28 = 1 := by kernel_rfl
  have c38 : Tryd.prog.cellsOf 38 = 1 := by kernel_rfl
  have c3 : Tryd.prog.cellsOf 3 = 1 := by kernel_rfl
  have c4 : Tryd.prog.cellsOf 4 = 1 := by kernel_rfl
  obtain ⟨hl, hf⟩ := dat_struct Tryd.underlying30 z'
  rw [c30] at hl
  have f0 := hf 0 _ rfl
  have f1 := hf 1 _ rfl
  erw [c27] at f0
  erw [c28] at f1
  obtain ⟨cs⟩ := cs
  match cs, hl with
  | [x0, x1, x2, x3, x4], _ =>
    simp only [List.drop, List.take] at f0 f1
    obtain ⟨hl', hf'⟩ := dat_struct Tryd.underlying27 f0
    have g0 := hf' 0 _ rfl
    have g1 := hf' 1 _ rfl
    have g2 := hf' 2 _ rfl
    have g3 := hf' 3 _ rfl
    erw [c3] at g0 g1 g2
    erw [c4] at g3
    obtain ⟨Wd, e0, _⟩ := dat_int Tryd.underlying3 g0
    obtain ⟨Hd, e1, _⟩ := dat_int Tryd.underlying3 g1
    obtain ⟨D, e2, _⟩ := dat_int Tryd.underlying3 g2
    obtain ⟨al, e3⟩ := dat_bool Tryd.underlying4 g3
    obtain ⟨A, n, c, e4, hnc, hcm, hAn, rows, hrl, hrow, hrd⟩ := dat_slice Tryd.underlying28 f1
    have e0 : [x0] = [Value.int .i64 Wd] := e0
    have e1 : [x1] = [Value.int .i64 Hd] := e1
    have e2 : [x2] = [Value.int .i64 D] := e2
    have e3 : [x3] = [Value.bool al] := e3
    have e4 : [x4] = [Value.slice A n c] := e4
    cases e0
    cases e1
    cases e2
    cases e3
    cases e4
    obtain ⟨q, rfl, hq, hQ⟩ := choose_rows (fun x : Pl => [x.v]) (fun x => x.ok W) (rows := rows) (by
      intro r hr
      obtain ⟨_, hd⟩ := hrow r hr
      obtain ⟨X, n', c', l, rfl, hl, h1, h2, h3, h4, h5⟩ := dat_ints Tryd.underlying38 Tryd.underlying39 hd
      refine ⟨⟨X, c', l⟩, by simp [Pl.v, hl], h5, by simp only; omega, by simp only; simp [maxLen] at h2; omega, fun v hv => ?_⟩
      have := h4 v hv
      simp [Lit.wf, IntKind.min, IntKind.max, IntKind.signed, IntKind.bits] at this
      omega)
    have hqn : q.length = n := by rw [hq, hrl]
    have hflat : (q.map fun x : Pl => [x.v]).flatten = q.map Pl.v := by
      clear hQ hq hrl hrow hrd hqn
      induction q with
      | nil => rfl
      | cons x q ih => simp [ih]
    rw [hflat] at hrd
    refine ⟨Wd, Hd, D, al, A, c, q, by rw [hqn], hrd, hQ, by omega⟩
theorem between_walk (W : World) {H : Type} {enc : TypeId × Value → H} {base : Nat} (v0 : Value) (o0 : Value.okWide Tryd.prog W .any base 30 v0) (z0 : Dat enc Tryd.prog W 30 v0.cells.toList) (v1 : Value) (o1 : Value.okWide Tryd.prog W .any base 30 v1) (z1 : Dat enc Tryd.prog W 30 v1.cells.toList)
    (a : Int) (wa : (Lit.int .i64 a).wf = true) (b : Int) (wb : (Lit.int .i64 b).wf = true) (hL : laidMetH Tryd.prog Go.Proofs.YtacfghffojijaaaDoor.Rows.conformBetweenRow.laid W) :
    Calls Tryd.prog 4 #[v0, v1, .int .i64 a, .int .i64 b] W fun e w' => e = .returned (.bool true) ∧ Below W.heap.size W w' := by
  obtain ⟨W0, H0, D0, al0, A, ca, qa, rfl, ra, oa, la⟩ := frame_in o0 z0
  obtain ⟨W1, H1, D1, al1, B, cb, qb, rfl, rb, ob, lb⟩ := frame_in o1 z1
  obtain ⟨x0, x1⟩ := wf_i64 wa
  obtain ⟨y0, y1⟩ := wf_i64 wb
  obtain ⟨w', h, G⟩ := between_ok (table_ok hL) (W := W0) (H := H0) (D := D0) (al := al0) (ca := ca) (W' := W1) (H' := H1) (D' := D1) (al' := al1) (cb := cb) ra rb oa ob la lb x0 x1 y0 y1
  exact (calls_of_run (by kernel_rfl) noPrim_ok h).mono fun e v ⟨h1, h2⟩ => ⟨h1, h2 ▸ below_of_grown G⟩
end Go.Sh.YtacfghffojijaaaDoor
