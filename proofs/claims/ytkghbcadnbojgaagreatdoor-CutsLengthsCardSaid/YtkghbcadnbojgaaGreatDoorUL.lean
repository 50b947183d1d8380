/- CutsLengths: what comes in; the walk. No condition but the row's own. -/
import Derived.Test.YtkghbcadnbojgaaGreatDoorUCG
import Derived.Test.YtkghbcadnbojgaaGreatDoorShRows
namespace Go.Sh.YtkghbcadnbojgaaGreatDoor
open Go Go.Proofs Go.RowKit Go.ChangeShapes Go.WideShapes Go.Sh.Ev
set_option linter.unusedVariables false
set_option maxRecDepth 100000
theorem rt163 : (Tryz.prog.cutTypes.find? (·.1 == "internal/reflectlite.rtype")).map (·.2) = some 163 := by kernel_rfl
theorem oneError : ((List.range Tryz.prog.types.size).filter fun t => Tryz.prog.rowNamed t [101, 114, 114, 111, 114]) = [32] := by kernel_rfl
theorem et0 : Tryz.prog.globalNamed "errors.errorType" = some 0 := by kernel_rfl
theorem hnd_of {W : World} (h : laidMetH Tryz.prog Go.Proofs.YtkghbcadnbojgaaGreatDoor.Rows.cutsLengthsRow.laid W) : W.cell? ⟨0, 0, none⟩ = some hnd := by
  have h' : laidMet Tryz.prog (Go.Proofs.YtkghbcadnbojgaaGreatDoor.Rows.cutsLengthsRow.laid.filter fun x => x.2.handleName?.isNone) W ∧ handlesMet Tryz.prog [("errors.errorType", Go.Proofs.YtkghbcadnbojgaaGreatDoor.Rows.laid_errors_errorType)] W := h
  obtain ⟨name, u, ty, e1, e2, e3, e4, e5⟩ := h'.2 _ (List.mem_singleton.2 rfl)
  have en : name = [101, 114, 114, 111, 114] := (Option.some.inj e1).symm
  subst en
  obtain rfl := Option.some.inj (rt163.symm.trans e2)
  have hm : ty ∈ (List.range Tryz.prog.types.size).filter fun t => Tryz.prog.rowNamed t [101, 114, 114, 111, 114] := List.mem_filter.2 ⟨List.mem_range.2 e3, e4⟩
  rw [oneError] at hm
  obtain rfl := List.mem_singleton.1 hm
  have hh : typeHandle Tryz.prog 32 = .pointer (some ⟨15, 32, none⟩) := by kernel_rfl
  rw [hh] at e5
  simpa [hnd] using World.var?_cell et0 e5 0
theorem tbl_lit : flatD Go.Proofs.YtkghbcadnbojgaaGreatDoor.Rows.laid_dailies_timecode_table = some tbl := by kernel_rfl
theorem rd_of {W : World} {b : Nat} {cs : List Value} (h : ∀ i V, cs[i]? = some V → W.cell? ⟨b, i, none⟩ = some V) : Rd W (some ⟨b, 0, none⟩) cs := fun j v hj => by
  rw [addL, Nat.zero_add]
  exact h j v hj
theorem lay_of {W : World} (h : laidMetH Tryz.prog Go.Proofs.YtkghbcadnbojgaaGreatDoor.Rows.cutsLengthsRow.laid W) : Lay W := by
  have ht := cells_of_laid h (n := "dailies/timecode.table") (b := 3) (vs := tbl) ⟨by repeat (first | exact List.Mem.head _ | apply List.Mem.tail), by kernel_rfl, by kernel_rfl, ⟨_, rfl, by kernel_rfl⟩, tbl_lit⟩
  have hf := cells_of_laid h (n := "unicode/utf8.first") (b := 1) (vs := fcs) ⟨by repeat (first | exact List.Mem.head _ | apply List.Mem.tail), by kernel_rfl, by kernel_rfl, ⟨_, rfl, by kernel_rfl⟩, first_lit⟩
  have ha := cells_of_laid h (n := "unicode/utf8.acceptRanges") (b := 2) (vs := acs) ⟨by repeat (first | exact List.Mem.head _ | apply List.Mem.tail), by kernel_rfl, by kernel_rfl, ⟨_, rfl, by kernel_rfl⟩, acc_lit⟩
  refine ⟨⟨rd_of hf, rd_of ha⟩, rd_of ht, ?_, hnd_of h⟩
  intro b l hl
  unfold gl2 at hl
  cases hb : Nat.beq b 3 with
  | true =>
    rw [hb] at hl
    have := Nat.eq_of_beq_eq_true hb
    subst this
    exact cells_of_laid h (n := "dailies/timecode.table") ⟨by repeat (first | exact List.Mem.head _ | apply List.Mem.tail), by kernel_rfl, by kernel_rfl, ⟨_, rfl, by kernel_rfl⟩, hl⟩
  | false =>
    rw [hb] at hl
    simp only [cond_false] at hl
    cases hb7 : Nat.beq b 7 with
    | true =>
      rw [hb7] at hl
      have := Nat.eq_of_beq_eq_true hb7
      subst this
      exact cells_of_laid h (n := "internal/strconv.uint64pow10") ⟨by repeat (first | exact List.Mem.head _ | apply List.Mem.tail), by kernel_rfl, by kernel_rfl, ⟨_, rfl, by kernel_rfl⟩, hl⟩
    | false => rw [hb7] at hl; cases hl
section
variable {W : World} {H : Type} {enc : TypeId × Value → H}
theorem dat_string {cs : List Value} (h : Dat enc Tryz.prog W 9 cs) : ∃ l : List UInt8, cs = [st l] ∧ l.length ≤ 9223372036854775807 := by
  obtain ⟨n, y, h⟩ := h
  obtain ⟨s, rfl, _, hs⟩ := DataW.trod_string Tryz.underlying9 h
  refine ⟨s.data.toList, rfl, ?_⟩
  have : s.data.toList.length = s.size := by rw [Array.length_toList]; rfl
  rw [this]
  exact hs
theorem ev_in {r : List Value} (h : Dat enc Tryz.prog W 51 r) : ∃ e : Ev, r = e.cs ∧ e.s.length ≤ 9223372036854775807 ∧ e.n.length ≤ 9223372036854775807 := by
  have c9 : Tryz.prog.cellsOf 9 = 1 := by kernel_rfl
  have c3 : Tryz.prog.cellsOf 3 = 1 := by kernel_rfl
  have c51 : Tryz.prog.cellsOf 51 = 5 := by kernel_rfl
  obtain ⟨hl, hf⟩ := dat_struct Tryz.underlying51 h
  rw [c51] at hl
  have f0 := hf 0 _ rfl
  have f1 := hf 1 _ rfl
  have f2 := hf 2 _ rfl
  have f3 := hf 3 _ rfl
  have f4 := hf 4 _ rfl
  erw [c9] at f0 f4
  erw [c3] at f1 f2 f3
  match r, hl with
  | [x0, x1, x2, x3, x4], _ =>
    obtain ⟨s, e0, hs⟩ := dat_string f0
    obtain ⟨i, e1, _⟩ := dat_int Tryz.underlying3 f1
    obtain ⟨o, e2, _⟩ := dat_int Tryz.underlying3 f2
    obtain ⟨f, e3, _⟩ := dat_int Tryz.underlying3 f3
    obtain ⟨n, e4, hn⟩ := dat_string f4
    have e0 : [x0] = [st s] := e0
    have e1 : [x1] = [Value.int .i64 i] := e1
    have e2 : [x2] = [Value.int .i64 o] := e2
    have e3 : [x3] = [Value.int .i64 f] := e3
    have e4 : [x4] = [st n] := e4
    cases e0
    cases e1
    cases e2
    cases e3
    cases e4
    exact ⟨⟨s, i, o, f, n⟩, rfl, hs, hn⟩
theorem cut_in {base : Nat} {v : Value} (o : Value.okWide Tryz.prog W .any base 30 v) (z : Dat enc Tryz.prog W 30 v.cells.toList) :
    ∃ (t : List UInt8) (r : Int) (A : Option Addr) (c : Nat) (q : List Ev), v = cutV t r A q.length c ∧ Rd W A (q.flatMap Ev.cs) ∧ q.length ≤ c ∧ (A = none → c = 0) ∧ Short q := by
  have o' : ∃ cs, v = .agg cs ∧ cs.size = Tryz.prog.cellsOf 30 ∧ Row.okWide Tryz.prog W .any base 30 cs := by
    unfold Value.okWide at o
    rw [Tryz.underlying30] at o
    exact o
  obtain ⟨cs, rfl, hsz, _⟩ := o'
  have z' : Dat enc Tryz.prog W 30 cs.toList := z
  have c30 : Tryz.prog.cellsOf 30 = 3 := by kernel_rfl
  have c9 : Tryz.prog.cellsOf 9 = 1 := by kernel_rfl
  have c27 : Tryz.prog.cellsOf 27 = 1 := by kernel_rfl
  have c28 : Tryz.prog.cellsOf 28 = 1 := by kernel_rfl
  obtain ⟨hl, hf⟩ := dat_struct Tryz.underlying30 z'
  rw [c30] at hl
  have f0 := hf 0 _ rfl
  have f1 := hf 1 _ rfl
  have f2 := hf 2 _ rfl
  erw [c9] at f0
  erw [c27] at f1
  erw [c28] at f2
  obtain ⟨cs⟩ := cs
  match cs, hl with
  | [x0, x1, x2], _ =>
    obtain ⟨t, e0, _⟩ := dat_string f0
    obtain ⟨r, e1, _⟩ := dat_int Tryz.underlying27 f1
    obtain ⟨A, n, c, e2, hnc, hcm, hAn, rows, hrl, hrow, hrd⟩ := dat_slice Tryz.underlying28 f2
    have e0 : [x0] = [st t] := e0
    have e1 : [x1] = [Value.int .i64 r] := e1
    have e2 : [x2] = [Value.slice A n c] := e2
    cases e0
    cases e1
    cases e2
    obtain ⟨q, rfl, hq, hQ⟩ := choose_rows Ev.cs (fun e => e.s.length ≤ 9223372036854775807 ∧ e.n.length ≤ 9223372036854775807) (rows := rows) (by
      intro r hr
      obtain ⟨e, h1, h2⟩ := ev_in (hrow r hr).2
      exact ⟨e, h1, h2⟩)
    have hqn : q.length = n := by rw [hq, hrl]
    have hflat : (q.map Ev.cs).flatten = q.flatMap Ev.cs := by rw [List.flatMap_def]
    rw [hflat] at hrd
    exact ⟨t, r, A, c, q, by rw [hqn]; rfl, hrd, by omega, hAn, hQ⟩
end
theorem lengths_walk (W : World) {H : Type} {enc : TypeId × Value → H} {base : Nat} (v0 : Value) (o0 : Value.okWide Tryz.prog W .any base 30 v0) (z0 : Dat enc Tryz.prog W 30 v0.cells.toList)
    (a : Int) (wa : (Lit.int .i64 a).wf = true) (hL : laidMetH Tryz.prog Go.Proofs.YtkghbcadnbojgaaGreatDoor.Rows.cutsLengthsRow.laid W) :
    Calls Tryz.prog 6 #[v0, .int .i64 a] W fun e w' => e = .returned (.bool true) ∧ Below W.heap.size W w' := by
  obtain ⟨t, r, A, c, q, rfl, hr, hc, hn, hs⟩ := cut_in o0 z0
  have wa' : -9223372036854775808 ≤ a ∧ a ≤ 9223372036854775807 := by
    simp [Lit.wf, IntKind.min, IntKind.max, IntKind.signed, IntKind.bits] at wa
    omega
  obtain ⟨w', h, G⟩ := lengths_ok (lay_of hL) t r hr hc hn hs a wa'.1 wa'.2
  exact (calls_of_run (by kernel_rfl) er_ok h).mono fun e v ⟨h1, h2⟩ => ⟨h1, h2 ▸ below_of_grown G⟩
end Go.Sh.YtkghbcadnbojgaaGreatDoor
