/- cuts: words that are the same up to a text that may not be answer the same: a plain law. No condition but those that each statement names. -/
import Derived.KernelRfl
import Derived.Test.YtkghbcadnbojgaaGreatDoorQD3
import Derived.Test.YtkghbcadnbojgaaGreatDoorQD4
import Derived.Test.YtkghbcadnbojgaaGreatDoorQD9
namespace Go.Sh.YtkghbcadnbojgaaGreatDoor
open Go Go.Proofs Go.RowKit Go.Lib Go.Sh.Ev
set_option linter.unusedVariables false
set_option linter.unusedSimpArgs false
set_option maxRecDepth 100000
open Go Go.Proofs
open Go Go.Proofs Go.RowKit Go.Lib Go.ChangeShapes Go.WideShapes Go.Sh.Ev
open Go.Proofs.Tryz renaming prog → Zp, underlying9 → Uz
open Go.Instr renaming loadAt → Zl, fieldAt → Zf, storeAt → Zs, extract → Zx, indexAt → Zj, alloc → Za, build → Zb, box → Zo
open Go.Value renaming string → Vs, bool → Vb, nilIface → Vn
open Go.Builtin renaming append_ → Yb
open Option.some renaming injEq → Oj
open List renaming getElem?_eq_getElem → Yg, length_append → Ya, length_cons → Yc, drop_drop → Yd, getElem?_append_left → Yf, length_drop → Ye
open Go.Sh.Res renaming ret → Xr
open Go.Sh renaming prun → Pq, rrun → Rq, erun → Eq_
theorem RW.next {ws ws' : List Wd} {e e' : Nat} (h : RW ws e ws' e') (t : Bool) : nextE t ws (e : Int) = nextE t ws' (e' : Int) ∧ (nextE t ws (e : Int) = none → ∃ y l l', ws = y :: l ∧ ws' = y :: l' ∧ RW l e l' e') := by
 cases h with
 | same =>
  refine ⟨rfl, fun hn => ?_⟩
  cases ws with
  | nil => simp [nextE] at hn
  | cons y l => exact ⟨y, l, l, rfl, rfl, .same _ _⟩
 | bad rest e e' hb hb' ha =>
  refine ⟨?_, fun hn => ?_⟩
  ·unfold nextE
   dsimp only
   rw [if_pos (.inl hb), if_pos (.inl hb'), ha]
  ·unfold nextE at hn
   dsimp only at hn
   rw [if_pos (.inl hb)] at hn
   cases hn
 | cons y h => exact ⟨rfl, fun _ => ⟨y, _, _, rfl, rfl, h⟩⟩
theorem RW.plain {ws ws' : List Wd} {e e' : Nat} (h : RW ws e ws' e') (g : List UInt8 → Bool) : plainE g ws (e : Int) = plainE g ws' (e' : Int) ∧ (plainE g ws (e : Int) = none → ∃ y l l', ws = y :: l ∧ ws' = y :: l' ∧ RW l e l' e') := by
 obtain ⟨h1, h2⟩ := h.next false
 unfold plainE
 rw [← h1]
 cases hn : nextE false ws (e : Int) with
 | some p => exact ⟨rfl, fun h => by cases h⟩
 | none =>
  obtain ⟨y, l, l', rfl, rfl, h3⟩ := h2 hn
  exact ⟨rfl, fun _ => ⟨y, l, l', rfl, rfl, h3⟩⟩
theorem RW.ends {ws ws' : List Wd} {e e' : Nat} (h : RW ws e ws' e') : (ws = [] ∧ ws' = []) ∨ ∃ y l y' l', ws = y :: l ∧ ws' = y' :: l' ∧ y.a = y'.a := by
 cases h with
 | same => cases ws with
  | nil => exact .inl ⟨rfl, rfl⟩
  | cons y l => exact .inr ⟨y, l, y, l, rfl, rfl, rfl⟩
 | bad rest e e' hb hb' ha => exact .inr ⟨_, _, _, _, rfl, rfl, ha⟩
 | cons y h => exact .inr ⟨_, _, _, _, rfl, rfl, rfl⟩
theorem RW.head {ws ws' : List Wd} {e e' : Nat} (h : RW ws e ws' e') : headA ws = headA ws' := by
 rcases h.ends with ⟨rfl, rfl⟩ | ⟨y, l, y', l', rfl, rfl, ha⟩
 ·rfl
 ·simp [headA, ha]
theorem RW.listR {ws ws' : List Wd} {e e' : Nat} (h : RW ws e ws' e') : listR (e : Int) ws = listR (e' : Int) ws' := by
 obtain ⟨h1, h2⟩ := h.plain isList
 unfold Go.Sh.YtkghbcadnbojgaaGreatDoor.listR
 rw [← h1]
 cases hn : plainE isList ws (e : Int) with
 | some p => rfl
 | none =>
  dsimp only
  obtain ⟨y1, l1, l1', rfl, rfl, h3⟩ := h2 hn
  simp only [List.tail_cons]
  obtain ⟨h4, h5⟩ := h3.plain isRate
  rw [← h4]
  cases hn2 : plainE isRate l1 (e : Int) with
  | some p => rfl
  | none =>
   dsimp only
   obtain ⟨y2, l2, l2', rfl, rfl, h6⟩ := h5 hn2
   simp only [List.tail_cons]
   obtain ⟨h7, h8⟩ := h6.next true
   rw [← h7]
   cases hn3 : nextE true l2 (e : Int) with
   | some p => rfl
   | none =>
    dsimp only
    obtain ⟨y3, l3, l3', rfl, rfl, h9⟩ := h8 hn3
    rcases h9.ends with ⟨rfl, rfl⟩ | ⟨y, l, y', l', rfl, rfl, ha⟩
    ·rfl
    ·simp [ha]
theorem RW.ev3R {ws ws' : List Wd} {e e' : Nat} (h : RW ws e ws' e') (t : List UInt8) (r : Int) (q : List Ev) (ev : Ev) (a1 a5 : Int) : ev3R t r q ws ev a1 a5 = ev3R t r q ws' ev a1 a5 := by
 unfold Go.Sh.YtkghbcadnbojgaaGreatDoor.ev3R ev3E
 rcases h.ends with ⟨rfl, rfl⟩ | ⟨y, l, y', l', rfl, rfl, ha⟩
 ·rfl
 ·simp [ha]
theorem RW.ev2D {ws ws' : List Wd} {e e' : Nat} (h : RW ws e ws' e') (t : List UInt8) (r : Int) (q : List Ev) (f a1 : Int) (s : List UInt8) (i o a5 : Int) : ev2D t r q f a1 s i o a5 (e : Int) ws = ev2D t r q f a1 s i o a5 (e' : Int) ws' := by
 unfold Go.Sh.YtkghbcadnbojgaaGreatDoor.ev2D
 obtain ⟨h1, h2⟩ := h.next true
 rcases h.ends with ⟨rfl, rfl⟩ | ⟨y, l, y', l', rfl, rfl, ha⟩
 ·rfl
 ·dsimp only
  rw [← h1]
  cases hn : nextE true (y :: l) (e : Int) with
  | some p => rfl
  | none =>
   dsimp only
   obtain ⟨y0, l0, l0', e1, e2, h3⟩ := h2 hn
   obtain ⟨rfl, rfl⟩ := List.cons.inj e1
   obtain ⟨rfl, rfl⟩ := List.cons.inj e2
   exact h3.ev3R _ _ _ _ _ _
theorem RW.ev2B {ws ws' : List Wd} {e e' : Nat} (h : RW ws e ws' e') (x : Int × Int × Int × Int) (t : List UInt8) (r : Int) (q : List Ev) (f a1 : Int) (s : List UInt8) (i : Int) : ev2B x t r q f a1 s i (e : Int) ws = ev2B x t r q f a1 s i (e' : Int) ws' := by
 unfold Go.Sh.YtkghbcadnbojgaaGreatDoor.ev2B
 obtain ⟨h1, h2⟩ := h.next false
 rw [← h1]
 cases hn : nextE false ws (e : Int) with
 | some p => rfl
 | none =>
  dsimp only
  obtain ⟨y, l, l', rfl, rfl, h3⟩ := h2 hn
  dsimp only
  cases numOf x y.s with
  | none => rfl
  | some o => exact h3.ev2D _ _ _ _ _ _ _ _ _
theorem RW.ev2A {ws ws' : List Wd} {e e' : Nat} (h : RW ws e ws' e') (x : Int × Int × Int × Int) (t : List UInt8) (r : Int) (q : List Ev) (f a1 : Int) (s : List UInt8) : ev2A x t r q f a1 s (e : Int) ws = ev2A x t r q f a1 s (e' : Int) ws' := by
 unfold Go.Sh.YtkghbcadnbojgaaGreatDoor.ev2A
 obtain ⟨h1, h2⟩ := h.next false
 rw [← h1]
 cases hn : nextE false ws (e : Int) with
 | some p => rfl
 | none =>
  dsimp only
  obtain ⟨y, l, l', rfl, rfl, h3⟩ := h2 hn
  dsimp only
  cases numOf x y.s with
  | none => rfl
  | some o => exact h3.ev2B _ _ _ _ _ _ _ _
theorem RW.ev2R {ws ws' : List Wd} {e e' : Nat} (h : RW ws e ws' e') (x : Int × Int × Int × Int) (t : List UInt8) (r : Int) (q : List Ev) (f a1 : Int) : ev2R x t r q f a1 (e : Int) ws = ev2R x t r q f a1 (e' : Int) ws' := by
 unfold Go.Sh.YtkghbcadnbojgaaGreatDoor.ev2R
 obtain ⟨h1, h2⟩ := h.plain isName
 rw [← h1]
 cases hn : plainE isName ws (e : Int) with
 | some p => rfl
 | none =>
  dsimp only
  obtain ⟨y, l, l', rfl, rfl, h3⟩ := h2 hn
  exact h3.ev2A _ _ _ _ _ _ _
theorem RW.evR {ws ws' : List Wd} {e e' : Nat} (h : RW ws e ws' e') (x : Int × Int × Int × Int) (t : List UInt8) (r : Int) (q : List Ev) : evR x t r q (e : Int) ws = evR x t r q (e' : Int) ws' := by
 unfold Go.Sh.YtkghbcadnbojgaaGreatDoor.evR
 by_cases hq : q.length = 200
 ·rw [if_pos hq, if_pos hq, h.head]
 rw [if_neg hq, if_neg hq]
 obtain ⟨h1, h2⟩ := h.plain isCutF
 rw [← h1]
 cases hn : plainE isCutF ws (e : Int) with
 | some p => rfl
 | none =>
  dsimp only
  obtain ⟨y, l, l', rfl, rfl, h3⟩ := h2 hn
  dsimp only
  by_cases hF : y.s = tFade
  ·rw [if_pos hF, if_pos hF]
   unfold evF
   obtain ⟨h4, h5⟩ := h3.plain isFadeB
   rw [← h4]
   cases hn2 : plainE isFadeB l (e : Int) with
   | some p => rfl
   | none =>
    dsimp only
    obtain ⟨y2, l2, l2', rfl, rfl, h6⟩ := h5 hn2
    exact h6.ev2R _ _ _ _ _ _
  ·rw [if_neg hF, if_neg hF]
   exact h3.ev2R _ _ _ _ _ _
theorem RW.step {ws ws' : List Wd} {e e' : Nat} (h : RW ws e ws' e') (sd : Option Cut) : stepR (e : Int) ws sd = stepR (e' : Int) ws' sd := by
 unfold stepR
 cases sd with
 | none => dsimp only; rw [h.listR]
 | some c => obtain ⟨t, r, q⟩ := c; dsimp only; rw [h.evR]
theorem rds_words {l : List UInt8} (hv : vs 0 (lineOf l) = true) {n p : Nat} (hn : l.length < n) : RW (words p (lineOf l)).1 (words p (lineOf l)).2 (rds n p l []).1 (rds n p l []).2 := by
 obtain ⟨a, e, a', e', h1, h2, h3⟩ := rds_wds n ((lineOf l).length + 1) p l [] hn (by omega) hv
 unfold words
 rw [h1, h2]
 exact h3
theorem RW.keeps {ws ws' : List Wd} {e e' : Nat} (h : RW ws e ws' e') {m : Nat} (hw : ∀ y ∈ ws, WdOk m y) : ∀ y ∈ ws', y.t = true → y.b = false → valid y.s = true := by
 induction h with
 | same ws e => intro y hy ht _; exact (hw y hy).val ht
 | bad rest e e' hb hb' ha => intro y hy ht hbb; simp at hy; subst hy; rw [hb'] at hbb; cases hbb
 | cons y0 h ih =>
  intro y hy ht hbb
  rcases List.mem_cons.mp hy with rfl | hy
  ·exact (hw y (by simp)).val ht
  ·exact ih (fun y hy => hw y (by simp [hy])) y hy ht hbb
theorem rds_plain : ∀ (n p : Nat) (l : List UInt8) (acc : List Wd), (∀ y ∈ acc, (y.t = false → y.b = false) ∧ y.s.length ≤ 100000) → l.length ≤ 50000 → ∀ y ∈ (rds n p l acc).1, (y.t = false → y.b = false) ∧ y.s.length ≤ 100000
 | 0, p, l, acc, h, _ => by rw [rds]; exact h
 | n + 1, p, [], acc, h, _ => by rw [rds]; exact h
 | n + 1, p, c :: r, acc, h, hl => by
  simp only [Yc] at hl
  have add : ∀ (z : Wd), (z.t = false → z.b = false) ∧ z.s.length ≤ 100000 → ∀ y ∈ acc ++ [z], (y.t = false → y.b = false) ∧ y.s.length ≤ 100000 := by
   intro z hz y hy
   rcases List.mem_append.mp hy with hy | hy
   ·exact h y hy
   ·simp at hy; subst hy; exact hz
  obtain ⟨_, _, q3⟩ := rtx_len r.length r [] 0 (Nat.le_refl _)
  have q4 := lineOf_le r
  simp only [List.length_nil] at q3
  rw [rds]
  split
  ·exact h
  ·split
   ·exact rds_plain n _ _ _ h (by omega)
   ·split
    ·exact h
    ·split
     ·split
      ·exact rds_plain n _ _ _ (add _ ⟨fun h => (by cases h), by simp only; omega⟩) (by rw [Ye]; omega)
      ·exact add _ ⟨fun h => (by cases h), by simp only; omega⟩
     ·exact rds_plain n _ _ _ (add _ ⟨fun _ => rfl, by simp only [List.length_take, Yc]; omega⟩) (by rw [Ye]; simp only [Yc]; omega)
theorem rds_count : ∀ (n p : Nat) (l : List UInt8) (acc : List Wd), (rds n p l acc).1.length ≤ acc.length + l.length
 | 0, p, l, acc => by rw [rds]; simp
 | n + 1, p, [], acc => by rw [rds]; simp
 | n + 1, p, c :: r, acc => by
  rw [rds]
  split
  ·simp
  ·split
   ·have := rds_count n (p + 1) r acc; simp only [Yc]; omega
   ·split
    ·simp
    ·split
     ·split
      ·have := rds_count n (p + 1 + (rtx r [] 0).2.2) (r.drop (rtx r [] 0).2.2) (acc ++ [⟨p, (rtx r [] 0).1, true, false⟩])
       simp only [Ya, Yc, List.length_nil, Ye] at this ⊢
       omega
      ·simp
     ·rename_i h1 h2 h3 h4
      have p1 : 1 ≤ pl (c :: r) := by rw [pl, if_neg (by simp only [not_or]; exact ⟨h1, h2⟩)]; omega
      have := rds_count n (p + pl (c :: r)) ((c :: r).drop (pl (c :: r))) (acc ++ [⟨p, (c :: r).take (pl (c :: r)), false, false⟩])
      simp only [Ya, Yc, List.length_nil, Ye] at this ⊢
      omega
theorem enter32 (a b c d : Value) (w : World) : (callFunc 32 #[a, b, c, d]).run Zp w = .ok (.enter 32 #[a, b, c, d]) w := by kernel_rfl
section
variable {W : World} {X : Asn W.heap.size} {Rt : List Value → World → Prop} {rec : List Value → World → Prop}
theorem put_cut {w : World} {b : Nat} {cs : List Value} (x : Sat W (blkA b 30 cs * X) w) (hl : cs.length = 3) (t : List UInt8) (r : Int) (A : Option Addr) (n c : Nat) : ∃ w', Eq_ Zp (Zs 30 (.pointer (some ⟨b, 0, none⟩)) (cutV t r A n c)) w = some ((), w') ∧ Sat W (blkA b 30 [st t, .int .i64 r, .slice A n c] * X) w' :=
 put_blk x inf30 (v := cutV t r A n c) (cs' := [st t, .int .i64 r, .slice A n c]) rfl (by rw [size30]; rfl) (by rw [hl]; rfl) (by simp [Value.oneCell'])
theorem k8_ok {w : World} {B : Option Addr} {c lb rb : Nat} {ws : List Wd} {e r : Int} {t s : List UInt8} {q : List Ev} {v P : Value} (hws : ∀ y ∈ ws, y.t = false → y.b = false) (hs : ∀ y ∈ ws, y.s.length ≤ 1000000) (hne : ws ≠ []) (hl : ws.length ≤ 1000000) (hval : ∀ y ∈ ws, y.t = true → y.b = false → valid y.s = true) (F : Fine t r q) (hql : q.length ≤ 199)
  (x : Sat W (cutS lb t r v q (blkA rb 30 zcs * (rowA 74 4 (.slice B ws.length c) ws.length (rwcs ws) * X))) w)
  (hE : ∀ (Y : Asn W.heap.size) (a z : Int) (w' : World), evN (xrOf r) t r q e ws = .error (a, z) → Sat W (blkA rb 30 zcs * Y) w' → Rt [.pointer (some ⟨rb, 0, none⟩), .int .i64 z, .int .i64 a] w')
  (hO : ∀ (ev : Ev) (v' : Value) (w' : World), evN (xrOf r) t r q e ws = .ok ev → Sat W (cutS lb t r v' (q ++ [ev]) (blkA rb 30 zcs * X)) w' → rec [st s, .pointer (some ⟨rb, 0, none⟩), .pointer (some ⟨lb, 0, none⟩), .bool true, P] w') :
  f10.k8 C Rt rec [st s, .pointer (some ⟨rb, 0, none⟩), .pointer (some ⟨lb, 0, none⟩), .bool true, P, .slice B ws.length c, .int .i64 e] w := by
 have hrow := (x.eq (by unfold cutS; ac_rfl : _ = rowA 74 4 (.slice B ws.length c) ws.length (rwcs ws) * cutS lb t r v q (blkA rb 30 zcs * X))).row
 have hq0 := (x.eq (by unfold cutS; ac_rfl : _ = rowA 51 5 v q.length (q.flatMap Ev.cs) * (blkA lb 30 [st t, .int .i64 r, v] * (blkA rb 30 zcs * (rowA 74 4 (.slice B ws.length c) ws.length (rwcs ws) * X))))).row
 have c1 : w.cell? ⟨lb, 1, none⟩ = some (.int .i64 r) := x.cell 1 rfl
 have c2 : w.cell? ⟨lb, 2, none⟩ = some v := x.cell 2 rfl
 obtain ⟨A, cq, rfl, hcq, _⟩ := own_form hq0
 have hnil : A = none → cq = 0 := by
  rintro rfl
  rcases hq0.2 with ⟨h, _⟩ | ⟨g, cap, cur, hv, _⟩
  ·simp at h; exact h.2
  ·cases hv
 have call := revent_ok (c := c) (cq := cq) (e := e) (Rd.own hrow) hws hs (Rd.own hq0) hnil F hql hne hl hval
 obtain ⟨Z, hZ⟩ : ∃ Z : Asn W.heap.size, Z = rowA 74 4 (.slice B ws.length c) ws.length (rwcs ws) := ⟨_, rfl⟩
 rw [← hZ] at x
 obtain ⟨n, hn⟩ : ∃ n, n = ws.length := ⟨_, rfl⟩
 rw [← hn] at call ⊢
 have e32 := enter32 (.slice B n c) (.int .i64 e) (.int .i64 r) (.slice A q.length cq) w
 simp [f10.k8, addL, c1, c2]
 unfold relF
 refine ⟨e32, call.mono ?_⟩
 rintro o w1 ⟨u, rfl, g1, ev, a, z, rfl, hP⟩
 refine ⟨_, rfl, ?_⟩
 have y1 := (x.grown g1).newBlk 51 ev0.cs
 have a1 := alloc51e w1
 obtain ⟨w2, hw2⟩ : ∃ w2, w2 = w1.alloc (.cells (ev0.cs).toArray 51) := ⟨_, rfl⟩
 rw [← hw2] at y1 a1
 have y2 := y1.newBlk 76 (xcs 0 0)
 have a2 := alloc76 w2
 obtain ⟨w3, hw3⟩ : ∃ w3, w3 = w2.alloc (.cells (xcs 0 0).toArray 76) := ⟨_, rfl⟩
 rw [← hw3] at y2 a2
 obtain ⟨b14, hb14⟩ : ∃ b, b = w1.heap.size := ⟨_, rfl⟩
 obtain ⟨b15, hb15⟩ : ∃ b, b = w2.heap.size := ⟨_, rfl⟩
 rw [← hb14] at a1 y2
 rw [← hb15] at a2 y2
 obtain ⟨R, hR⟩ : ∃ R : Asn W.heap.size, R = cutS lb t r (.slice A q.length cq) q (blkA rb 30 zcs * (Z * X)) := ⟨_, rfl⟩
 rw [← hR] at y2
 obtain ⟨w4, k4, y4⟩ := put_ev (y2.eq (by ac_rfl : _ = blkA b14 51 ev0.cs * (blkA b15 76 (xcs 0 0) * R))) rfl ev
 obtain ⟨w5, k5, y5⟩ := put_x (y4.eq (by ac_rfl : _ = blkA b15 76 (xcs 0 0) * (blkA b14 51 ev.cs * R))) rfl a z
 have d1 : w5.cell? ⟨b15, 1, none⟩ = some (.int .i64 z) := y5.cell 1 rfl
 have d0 : w5.cell? ⟨b15, 0, none⟩ = some (.int .i64 a) := y5.cell 0 rfl
 rcases hP with ⟨hok, rfl, rfl⟩ | ⟨herr, hz⟩
 ·have y6 : Sat W (rowA 51 5 (.slice A q.length cq) q.length (q.flatMap Ev.cs) * (blkA b14 51 ev.cs * (blkA lb 30 [st t, .int .i64 r, .slice A q.length cq] * (blkA rb 30 zcs * (Z * (blkA b15 76 (xcs 0 0) * X)))))) w5 := y5.eq (by rw [hR]; unfold cutS; ac_rfl)
  have le := ld_ev (y6.eq (by ac_rfl : _ = blkA b14 51 ev.cs * (rowA 51 5 (.slice A q.length cq) q.length (q.flatMap Ev.cs) * (blkA lb 30 [st t, .int .i64 r, .slice A q.length cq] * (blkA rb 30 zcs * (Z * (blkA b15 76 (xcs 0 0) * X)))))))
  have bs := bs28 ev w5
  have c25 : w5.cell? ⟨lb, 2, none⟩ = some (.slice A q.length cq) := (y6.eq (by ac_rfl : _ = blkA lb 30 [st t, .int .i64 r, .slice A q.length cq] * (rowA 51 5 (.slice A q.length cq) q.length (q.flatMap Ev.cs) * (blkA b14 51 ev.cs * (blkA rb 30 zcs * (Z * (blkA b15 76 (xcs 0 0) * X))))))).cell 2 rfl
  obtain ⟨v', w6, h6, y7⟩ := y6.push (ty := 28) (P := Zp) Tryz.underlying28 inf51 zero51 size51 bytes51 rfl (by decide) (news := ev.cs) rfl (cs_one ev) (by simp [maxLen]; omega) (by omega)
  have hfm : q.flatMap Ev.cs ++ ev.cs = (q ++ [ev]).flatMap Ev.cs := by simp
  rw [hfm, show q.length + 1 = (q ++ [ev]).length by simp] at y7
  have y8 : Sat W (blkA lb 30 [st t, .int .i64 r, .slice A q.length cq] * (rowA 51 5 v' (q ++ [ev]).length ((q ++ [ev]).flatMap Ev.cs) * (blkA b14 51 ev.cs * (blkA rb 30 zcs * (Z * (blkA b15 76 (xcs 0 0) * X)))))) w6 := y7.eq (by ac_rfl)
  obtain ⟨A', c', rfl, _, _⟩ := own_form y7.row
  have h8 := y8.blk.store (P := Zp) (t := 28) (j := 2) (v := .slice A' (q ++ [ev]).length c') inf28 size28 (by simp) rfl rfl
  have y9 := y8.store 2 (.slice A' (q ++ [ev]).length c') (cs' := [st t, .int .i64 r, .slice A' (q ++ [ev]).length c']) rfl
  obtain ⟨w7, hw7⟩ : ∃ w7, w7 = w6.setCell ⟨lb, 2, none⟩ (.slice A' (q ++ [ev]).length c') := ⟨_, rfl⟩
  rw [← hw7] at h8 y9
  have fin := hO ev _ w7 hok ((y9.eq (by unfold cutS; ac_rfl : _ = (blkA b14 51 ev.cs * (Z * blkA b15 76 (xcs 0 0))) * cutS lb t r (.slice A' (q ++ [ev]).length c') (q ++ [ev]) (blkA rb 30 zcs * X))).right)
  obtain ⟨N, hN⟩ : ∃ N, N = (q ++ [ev]).length := ⟨_, rfl⟩
  rw [← hN] at h6 h8
  simp [a1, a2, k4, k5, addL, d1, c25, le, bs, h6, h8, after, f10.k9, f10.k5, fin]
 ·have y6 : Sat W (blkA rb 30 zcs * (blkA b15 76 (xcs a z) * (blkA b14 51 ev.cs * (blkA lb 30 [st t, .int .i64 r, .slice A q.length cq] * (rowA 51 5 (.slice A q.length cq) q.length (q.flatMap Ev.cs) * (Z * X)))))) w5 := y5.eq (by rw [hR]; unfold cutS; ac_rfl)
  obtain ⟨w6, k6, y7⟩ := put_cut y6.drew rfl [] 0 none 0 0
  have d1' : w6.cell? ⟨b15, 1, none⟩ = some (.int .i64 z) := (y7.eq (by ac_rfl : _ = blkA b15 76 (xcs a z) * (blkA rb 30 [st [], .int .i64 0, .slice none 0 0] * (blkA b14 51 ev.cs * (blkA lb 30 [st t, .int .i64 r, .slice A q.length cq] * (rowA 51 5 (.slice A q.length cq) q.length (q.flatMap Ev.cs) * (Z * X))))))).cell 1 rfl
  have d0' : w6.cell? ⟨b15, 0, none⟩ = some (.int .i64 a) := (y7.eq (by ac_rfl : _ = blkA b15 76 (xcs a z) * (blkA rb 30 [st [], .int .i64 0, .slice none 0 0] * (blkA b14 51 ev.cs * (blkA lb 30 [st t, .int .i64 r, .slice A q.length cq] * (rowA 51 5 (.slice A q.length cq) q.length (q.flatMap Ev.cs) * (Z * X))))))).cell 0 rfl
  have fin := hE _ a z w6 herr y7
  have k6' : Eq_ Zp (Zs 30 (.pointer (some ⟨rb, 0, none⟩)) zcv) w5.drew = some ((), w6) := k6
  simp [a1, a2, k4, k5, addL, d1, hz, build30z, d0, k6', d1', d0', after, fin]
end
theorem ev3R_fine {t : List UInt8} {r : Int} {q : List Ev} {ws : List Wd} {ev ev' : Ev} {a1 a5 : Int} (h : ev3R t r q ws ev a1 a5 = .ok ev') : Fine t r (q ++ [ev']) := by
 unfold ev3R ev3E at h
 split at h
 ·rename_i h1
  cases h
  split at h1
  ·cases h1
  ·split at h1
   ·rename_i h2
    exact ck_none h2
   ·split at h1 <;> cases h1
 ·cases h
theorem ev2D_fine {t s : List UInt8} {r f a1 i o a5 e : Int} {q : List Ev} {ws : List Wd} {ev' : Ev} (h : ev2D t r q f a1 s i o a5 e ws = .ok ev') : Fine t r (q ++ [ev']) := by
 unfold ev2D at h
 split at h
 ·exact ev3R_fine h
 ·split at h
  ·cases h
  ·exact ev3R_fine h
theorem ev2B_fine {x : Int × Int × Int × Int} {t s : List UInt8} {r f a1 i e : Int} {q : List Ev} {ws : List Wd} {ev' : Ev} (h : ev2B x t r q f a1 s i e ws = .ok ev') : Fine t r (q ++ [ev']) := by
 unfold ev2B at h
 split at h
 ·cases h
 ·split at h
  ·cases h
  ·split at h
   ·cases h
   ·exact ev2D_fine h
theorem ev2A_fine {x : Int × Int × Int × Int} {t s : List UInt8} {r f a1 e : Int} {q : List Ev} {ws : List Wd} {ev' : Ev} (h : ev2A x t r q f a1 s e ws = .ok ev') : Fine t r (q ++ [ev']) := by
 unfold ev2A at h
 split at h
 ·cases h
 ·split at h
  ·cases h
  ·split at h
   ·cases h
   ·exact ev2B_fine h
theorem evN_fine {x : Int × Int × Int × Int} {t : List UInt8} {r e : Int} {q : List Ev} {ws : List Wd} {ev' : Ev} (h : evN x t r q e ws = .ok ev') : Fine t r (q ++ [ev']) := by
 unfold evN at h
 split at h
 ·cases h
 ·exact ev2A_fine h
theorem listR_z {e a z : Int} {ws : List Wd} (h : listR e ws = .error (a, z)) : z ≠ 0 := by
 unfold listR at h
 split at h
 ·rename_i hp; cases h; exact plainE_z hp
 ·rename_i h1
  split at h
  ·rename_i hp; cases h; exact plainE_z hp
  ·rename_i h2
   split at h
   ·rename_i hp; cases h; exact nextE_z hp
   ·rename_i h3
    split at h
    ·cases h
    ·cases h; decide
    ·rename_i h4 h5
     exfalso
     match ws, h1, h2, h3, h4, h5 with
     | [], h1, _, _, _, _ => simp [plainE, nextE] at h1
     | [_], _, h2, _, _, _ => simp [plainE, nextE] at h2
     | [_, _], _, _, h3, _, _ => simp [nextE] at h3
     | [_, _, _], _, _, _, h4, _ => exact h4 _ _ _ rfl
     | _ :: _ :: _ :: _ :: _, _, _, _, _, h5 => exact h5 _ _ _ _ _ rfl
section
variable {W : World} {X : Asn W.heap.size} {Rt : List Value → World → Prop} {rec : List Value → World → Prop}
theorem round10 {w : World} {lb rb p : Nat} {P : Int} {s : List UInt8} {sd : Option Cut} {ws : List Wd} {e : Nat} (hs : s.length ≤ 20000) (hp : p ≤ s.length) (hP : P = (p : Int)) (hw : rds (s.length + 1) p (s.drop p) [] = (ws, e)) (x : PSt W X lb rb sd w)
  (hval : ∀ y ∈ ws, y.t = true → y.b = false → valid y.s = true) (hfine : ∀ t r, sd = none → listR (e : Int) ws = .ok (t, r) → Fine t r [])
  (hC : ws = [] → ∀ (N : Int) (w' : World), N = ((p + (lineOf (s.drop p)).length + 1 : Nat) : Int) → PSt W X lb rb sd w' → rec [st s, .pointer (some ⟨rb, 0, none⟩), .pointer (some ⟨lb, 0, none⟩), .bool sd.isSome, .int .i64 N] w')
  (hE : ∀ (Y : Asn W.heap.size) (a z : Int) (w' : World), ws ≠ [] → stepR (e : Int) ws sd = .error (a, z) → Sat W (blkA rb 30 zcs * Y) w' → Rt [.pointer (some ⟨rb, 0, none⟩), .int .i64 z, .int .i64 a] w')
  (hO : ∀ (d : Cut) (N : Int) (w' : World), ws ≠ [] → N = ((p + (lineOf (s.drop p)).length + 1 : Nat) : Int) → stepR (e : Int) ws sd = .ok d → PSt W X lb rb (some d) w' → rec [st s, .pointer (some ⟨rb, 0, none⟩), .pointer (some ⟨lb, 0, none⟩), .bool true, .int .i64 N] w') :
  f10.k4 C Rt rec [st s, .pointer (some ⟨rb, 0, none⟩), .pointer (some ⟨lb, 0, none⟩), .bool sd.isSome, .int .i64 P] w := by
 have hpl := rds_plain (s.length + 1) p (s.drop p) [] (by simp) (by rw [Ye]; omega)
 have hct := rds_count (s.length + 1) p (s.drop p) []
 rw [hw] at hpl hct
 have hwl : ws.length ≤ 20000 := by
  have h : ws.length ≤ 0 + (s.drop p).length := hct
  rw [Ye] at h
  omega
 obtain ⟨Y, x1, back⟩ := x.inner
 obtain ⟨B, c, w1, k1, z1, hc⟩ := rline_ok x1 s p hp (by omega)
 rw [hw] at k1 z1 hc
 simp only at k1 z1 hc
 obtain ⟨N, hN⟩ : ∃ N : Int, N = ((p + (lineOf (s.drop p)).length + 1 : Nat) : Int) := ⟨_, rfl⟩
 rw [← hN] at k1
 rw [← hP] at k1
 obtain ⟨n, hn⟩ : ∃ n, n = ws.length := ⟨_, rfl⟩
 rw [← hn] at k1
 obtain ⟨E, hE'⟩ : ∃ E : Int, E = (e : Int) := ⟨_, rfl⟩
 rw [← hE'] at k1 hE hO hfine
 have px : PSt W (rowA 74 4 (.slice B ws.length c) ws.length (rwcs ws) * X) lb rb sd w1 := by
  cases sd with
  | none =>
   have x1' : Sat W (blkA lb 30 zcs * (blkA rb 30 zcs * X)) w := x
   obtain ⟨B', c', w1', k1', z1', hc'⟩ := rline_ok x1' s p hp (by omega)
   rw [hw] at k1' z1' hc'
   simp only at k1' z1' hc'
   rw [← hN, ← hP, ← hn, ← hE'] at k1'
   rw [k1] at k1'
   simp only [Oj, Prod.mk.injEq, Value.tuple.injEq] at k1'
   obtain ⟨hv, rfl⟩ := k1'
   have hB : B = B' ∧ c = c' := by
    have := congrArg (fun a => a[0]?) hv
    simp at this
    exact this
   obtain ⟨rfl, rfl⟩ := hB
   exact z1'.eq (by ac_rfl)
  | some d =>
   obtain ⟨t, r, q⟩ := d
   obtain ⟨F, v, x1'⟩ := x
   obtain ⟨B', c', w1', k1', z1', hc'⟩ := rline_ok x1' s p hp (by omega)
   rw [hw] at k1' z1' hc'
   simp only at k1' z1' hc'
   rw [← hN, ← hP, ← hn, ← hE'] at k1'
   rw [k1] at k1'
   simp only [Oj, Prod.mk.injEq, Value.tuple.injEq] at k1'
   obtain ⟨hv, rfl⟩ := k1'
   have hB : B = B' ∧ c = c' := by
    have := congrArg (fun a => a[0]?) hv
    simp at this
    exact this
   obtain ⟨rfl, rfl⟩ := hB
   exact ⟨F, v, z1'.eq (by unfold cutS; ac_rfl)⟩
 by_cases hws : ws = []
 ·have hn0 : (n : Int) = 0 := by rw [hn, hws]; rfl
  have hn0' : n = 0 := by omega
  have px' : PSt W X lb rb sd w1 := by
   cases sd with
   | none => exact (px.eq (by ac_rfl : _ = rowA 74 4 (.slice B ws.length c) ws.length (rwcs ws) * (blkA lb 30 zcs * (blkA rb 30 zcs * X)))).right
   | some d =>
    obtain ⟨t, r, q⟩ := d
    obtain ⟨F, v, x1'⟩ := px
    exact ⟨F, v, (x1'.eq (by unfold cutS; ac_rfl : _ = rowA 74 4 (.slice B ws.length c) ws.length (rwcs ws) * cutS lb t r v q (blkA rb 30 zcs * X))).right⟩
  have := hC hws N w1 hN px'
  simp [f10.k4, k1, hn0', after, Ways.out, f10.k5, this]
 have hn1 : ¬ n = 0 := by
  intro h
  apply hws
  apply List.eq_nil_of_length_eq_zero
  omega
 cases sd with
 | none =>
  have x2 : Sat W (blkA lb 30 zcs * (blkA rb 30 zcs * (rowA 74 4 (.slice B ws.length c) ws.length (rwcs ws) * X))) w1 := px
  have c2 : w1.cell? ⟨lb, 2, none⟩ = some (.slice none 0 0) := x2.cell 2 rfl
  have hrow := (x2.eq (by ac_rfl : _ = rowA 74 4 (.slice B ws.length c) ws.length (rwcs ws) * (blkA lb 30 zcs * (blkA rb 30 zcs * X)))).row
  obtain ⟨w2, k2, g2⟩ := head_ok (c := c) (Rd.own hrow) (fun y hy => (hpl y hy).1) E (by omega)
  rw [← hn] at k2
  have x3 := (x2.grown g2).newBlk 30 zcs
  have a3 := alloc30 w2
  obtain ⟨w3, hw3⟩ : ∃ w3, w3 = w2.alloc (.cells zcs.toArray 30) := ⟨_, rfl⟩
  rw [← hw3] at x3 a3
  have x4 := x3.newBlk 76 (xcs 0 0)
  have a4 := alloc76 w3
  obtain ⟨w4, hw4⟩ : ∃ w4, w4 = w3.alloc (.cells (xcs 0 0).toArray 76) := ⟨_, rfl⟩
  rw [← hw4] at x4 a4
  obtain ⟨b12, hb12⟩ : ∃ b, b = w2.heap.size := ⟨_, rfl⟩
  obtain ⟨b13, hb13⟩ : ∃ b, b = w3.heap.size := ⟨_, rfl⟩
  rw [← hb12] at a3 x4
  rw [← hb13] at a4 x4
  obtain ⟨Z, hZ⟩ : ∃ Z : Asn W.heap.size, Z = rowA 74 4 (.slice B ws.length c) ws.length (rwcs ws) := ⟨_, rfl⟩
  rw [← hZ] at x4
  cases hL : listR E ws with
  | error pe =>
   obtain ⟨a, z⟩ := pe
   have hz := listR_z hL
   rw [hL] at k2
   have hS : stepR E ws none = .error (a, z) := by unfold stepR; dsimp only; rw [hL]
   obtain ⟨w5, k5, x5⟩ := put_cut (x4.eq (by ac_rfl : _ = blkA b12 30 zcs * (blkA b13 76 (xcs 0 0) * (blkA rb 30 zcs * (blkA lb 30 zcs * (Z * X)))))) rfl [] 0 none 0 0
   have k5 : Eq_ Zp (Zs 30 (.pointer (some ⟨b12, 0, none⟩)) zcv) w4 = some ((), w5) := k5
   obtain ⟨w6, k6, x6⟩ := put_x (x5.eq (by ac_rfl : _ = blkA b13 76 (xcs 0 0) * (blkA b12 30 [st [], .int .i64 0, .slice none 0 0] * (blkA rb 30 zcs * (blkA lb 30 zcs * (Z * X)))))) rfl a z
   have d1 : w6.cell? ⟨b13, 1, none⟩ = some (.int .i64 z) := x6.cell 1 rfl
   have d0 : w6.cell? ⟨b13, 0, none⟩ = some (.int .i64 a) := x6.cell 0 rfl
   obtain ⟨w7, k7, x7⟩ := put_cut (x6.drew.eq (by ac_rfl : _ = blkA rb 30 zcs * (blkA b13 76 (xcs a z) * (blkA b12 30 [st [], .int .i64 0, .slice none 0 0] * (blkA lb 30 zcs * (Z * X)))))) rfl [] 0 none 0 0
   have k7 : Eq_ Zp (Zs 30 (.pointer (some ⟨rb, 0, none⟩)) zcv) w6.drew = some ((), w7) := k7
   have x8 := x7.eq (by ac_rfl : _ = blkA b13 76 (xcs a z) * (blkA rb 30 [st [], .int .i64 0, .slice none 0 0] * (blkA b12 30 [st [], .int .i64 0, .slice none 0 0] * (blkA lb 30 zcs * (Z * X)))))
   have d1' : w7.cell? ⟨b13, 1, none⟩ = some (.int .i64 z) := x8.cell 1 rfl
   have d0' : w7.cell? ⟨b13, 0, none⟩ = some (.int .i64 a) := x8.cell 0 rfl
   have fin := hE _ a z w7 hws hS x7
   simp [f10.k4, k1, hn1, after, f10.k6, addL, c2, f10.k7, k2, headV, a3, a4, k5, k6, d1, hz, build30z, d0, k7, d1', d0', fin]
  | ok tr =>
   obtain ⟨t, r⟩ := tr
   rw [hL] at k2
   have hS : stepR E ws none = .ok (t, r, []) := by unfold stepR; dsimp only; rw [hL]
   obtain ⟨w5, k5, x5⟩ := put_cut (x4.eq (by ac_rfl : _ = blkA b12 30 zcs * (blkA b13 76 (xcs 0 0) * (blkA rb 30 zcs * (blkA lb 30 zcs * (Z * X)))))) rfl t r none 0 0
   have k5 : Eq_ Zp (Zs 30 (.pointer (some ⟨b12, 0, none⟩)) (.agg #[st t, .int .i64 r, .slice none 0 0])) w4 = some ((), w5) := k5
   obtain ⟨w6, k6, x6⟩ := put_x (x5.eq (by ac_rfl : _ = blkA b13 76 (xcs 0 0) * (blkA b12 30 [st t, .int .i64 r, .slice none 0 0] * (blkA rb 30 zcs * (blkA lb 30 zcs * (Z * X)))))) rfl 0 0
   have d1 : w6.cell? ⟨b13, 1, none⟩ = some (.int .i64 0) := x6.cell 1 rfl
   have l6 := ld_cut (x6.eq (by ac_rfl : _ = blkA b12 30 [st t, .int .i64 r, .slice none 0 0] * (blkA b13 76 (xcs 0 0) * (blkA rb 30 zcs * (blkA lb 30 zcs * (Z * X))))))
   obtain ⟨w7, k7, x7⟩ := put_cut (x6.eq (by ac_rfl : _ = blkA lb 30 zcs * (blkA b13 76 (xcs 0 0) * (blkA b12 30 [st t, .int .i64 r, .slice none 0 0] * (blkA rb 30 zcs * (Z * X)))))) rfl t r none 0 0
   have k7 : Eq_ Zp (Zs 30 (.pointer (some ⟨lb, 0, none⟩)) (.agg #[st t, .int .i64 r, .slice none 0 0])) w6 = some ((), w7) := k7
   have x8 := x7.nilRow 51 5
   have x9 : Sat W (blkA lb 30 [st t, .int .i64 r, .slice none 0 0] * (rowA 51 5 (.slice none 0 0) 0 [] * (blkA rb 30 zcs * X))) w7 := (x8.eq (by ac_rfl : _ = (blkA b13 76 (xcs 0 0) * (blkA b12 30 [st t, .int .i64 r, .slice none 0 0] * Z)) * (blkA lb 30 [st t, .int .i64 r, .slice none 0 0] * (rowA 51 5 (.slice none 0 0) 0 [] * (blkA rb 30 zcs * X))))).right
   have x9 : Sat W (cutS lb t r (.slice none 0 0) [] (blkA rb 30 zcs * X)) w7 := x9
   have fin := hO (t, r, []) N w7 hws hN hS ⟨hfine t r rfl hL, _, x9⟩
   simp [f10.k4, k1, hn1, after, Ways.out, f10.k6, addL, c2, f10.k7, k2, headV, a3, a4, k5, k6, d1, l6, k7, f10.k5, fin]
 | some d =>
  obtain ⟨t, r, q⟩ := d
  obtain ⟨F, v, x2⟩ := px
  have c2 : w1.cell? ⟨lb, 2, none⟩ = some v := x2.cell 2 rfl
  have hq0 := (x2.eq (by unfold cutS; ac_rfl : _ = rowA 51 5 v q.length (q.flatMap Ev.cs) * (blkA lb 30 [st t, .int .i64 r, v] * (blkA rb 30 zcs * (rowA 74 4 (.slice B ws.length c) ws.length (rwcs ws) * X))))).row
  obtain ⟨A, cq, rfl, hcq, _⟩ := own_form hq0
  have hql := F.ql
  by_cases h200 : q.length = 200
  ·have h200' : (q.length : Int) = 200 := by omega
   obtain ⟨y0, l0, hy0⟩ : ∃ y l, ws = y :: l := by
    cases ws with
    | nil => exact absurd rfl hws
    | cons y l => exact ⟨y, l, rfl⟩
   have hS : stepR E ws (some (t, r, q)) = .error ((y0.a : Int), 196) := by
    unfold stepR evR
    dsimp only
    rw [if_pos h200, hy0]
    rfl
   have hrw : ∀ {w'} {Y : Asn W.heap.size}, Sat W (rowA 74 4 (.slice B ws.length c) ws.length (rwcs ws) * Y) w' → Rd w' B (rwcs ws) := fun y => Rd.own y.row
   have x3 : Sat W (blkA rb 30 zcs * (rowA 74 4 (.slice B ws.length c) ws.length (rwcs ws) * (blkA lb 30 [st t, .int .i64 r, .slice A q.length cq] * (rowA 51 5 (.slice A q.length cq) q.length (q.flatMap Ev.cs) * X)))) w1 := x2.eq (by unfold cutS; ac_rfl)
   obtain ⟨w3, k3, x4⟩ := put_cut x3.drew rfl [] 0 none 0 0
   have k3 : Eq_ Zp (Zs 30 (.pointer (some ⟨rb, 0, none⟩)) zcv) w1.drew = some ((), w3) := k3
   obtain ⟨a, i0, c0, _, _, _⟩ := rw_at (hrw x3.swap) (k := 0) (y := y0) (by rw [hy0]; rfl)
   obtain ⟨a', i0', c0', _, _, _⟩ := rw_at (hrw x4.swap) (k := 0) (y := y0) (by rw [hy0]; rfl)
   have : a' = a := by have := (i0 0).symm.trans (i0' 0); simpa using this.symm
   subst this
   have i1 : Pq Zp (Zj 70 (.slice B n c) (.int .i64 0)) = some (.pointer (some a')) := by rw [hn]; exact i0 c
   have fin := hE _ (y0.a : Int) 196 w3 hws hS x4
   simp [f10.k4, k1, hn1, after, f10.k6, addL, c2, h200, build30z, i1, c0, c0', k3, fin]
  ·have h200' : ¬ (q.length : Int) = 200 := by omega
   have key := k8_ok (ws := ws) (P := .int .i64 N) (e := E) (fun y hy => (hpl y hy).1) (fun y hy => by have := (hpl y hy).2; omega) hws (by omega) hval F (by omega) x2
    (fun Y a z w' he y => hE Y a z w' hws (by unfold stepR; dsimp only; rw [evR_evN h200, he]) y)
    (fun ev v' w' ho y => hO (t, r, q ++ [ev]) N w' hws hN (by unfold stepR; dsimp only; rw [evR_evN h200, ho]) ⟨evN_fine ho, v', y⟩)
   rw [← hn] at key
   simp [f10.k4, k1, hn1, after, f10.k6, addL, c2, h200, h200', f10.k7, key]
end
theorem parseGo_nil (n len p : Nat) (sd : Option Cut) : parseGo (n + 1) len p [] sd = match sd with
 | none => .error ((len : Int), 193)
 | some c => .ok c := by
 cases sd <;> rfl
theorem parseGo_cons (n len p : Nat) (c : UInt8) (l : List UInt8) (sd : Option Cut) : parseGo (n + 1) len p (c :: l) sd = if (words p (lineOf (c :: l))).1 = [] then parseGo n len (p + ((lineOf (c :: l)).length + 1)) ((c :: l).drop ((lineOf (c :: l)).length + 1)) sd
  else match stepR ((words p (lineOf (c :: l))).2 : Int) (words p (lineOf (c :: l))).1 sd with
   | .error x => .error x
   | .ok d => parseGo n len (p + ((lineOf (c :: l)).length + 1)) ((c :: l).drop ((lineOf (c :: l)).length + 1)) (some d) := by
 cases sd <;> rfl
section
variable {W : World} {X : Asn W.heap.size} {Rt : List Value → World → Prop} {rec : List Value → World → Prop} {T : Except (Int × Int) Cut} {lb rb : Nat} {s : List UInt8}
theorem k2_10 {w : World} {sd : Option Cut}
  (hE : ∀ (Y : Asn W.heap.size) (a z : Int) (w' : World), T = .error (a, z) → Sat W (blkA rb 30 zcs * Y) w' → Rt [.pointer (some ⟨rb, 0, none⟩), .int .i64 z, .int .i64 a] w')
  (hO : ∀ (Y : Asn W.heap.size) (t : List UInt8) (r : Int) (q : List Ev) (v : Value) (w' : World), T = .ok (t, r, q) → Fine t r q → Sat W (cutS rb t r v q Y) w' → Rt [.pointer (some ⟨rb, 0, none⟩), .int .i64 0, .int .i64 0] w')
  (hT : T = match sd with | none => .error ((s.length : Int), 193) | some c => .ok c) (x : PSt W X lb rb sd w) :
  f10.k2 C Rt [st s, .pointer (some ⟨rb, 0, none⟩), .pointer (some ⟨lb, 0, none⟩), .bool sd.isSome] w := by
 have hsl := fun ty => str_len (P := Zp) Uz ty s
 cases sd with
 | none =>
  have x1 : Sat W (blkA lb 30 zcs * (blkA rb 30 zcs * X)) w := x
  obtain ⟨w1, k1, x2⟩ := put_cut x1.swap rfl [] 0 none 0 0
  have k1 : Eq_ Zp (Zs 30 (.pointer (some ⟨rb, 0, none⟩)) zcv) w = some ((), w1) := k1
  have fin := hE _ _ _ w1 hT x2
  simp [f10.k2, build30z, hsl, k1, after, fin]
 | some d =>
  obtain ⟨t, r, q⟩ := d
  obtain ⟨F, v, x1⟩ := x
  have l1 := ld_cut (x1.eq (by unfold cutS; rfl : _ = blkA lb 30 [st t, .int .i64 r, v] * (rowA 51 5 v q.length (q.flatMap Ev.cs) * (blkA rb 30 zcs * X))))
  have hq0 := (x1.eq (by unfold cutS; ac_rfl : _ = rowA 51 5 v q.length (q.flatMap Ev.cs) * (blkA lb 30 [st t, .int .i64 r, v] * (blkA rb 30 zcs * X)))).row
  obtain ⟨A, cq, rfl, hcq, _⟩ := own_form hq0
  obtain ⟨w1, k1, x2⟩ := put_cut (x1.eq (by unfold cutS; ac_rfl : _ = blkA rb 30 zcs * (rowA 51 5 (.slice A q.length cq) q.length (q.flatMap Ev.cs) * (blkA lb 30 [st t, .int .i64 r, .slice A q.length cq] * X)))) rfl t r A q.length cq
  have k1 : Eq_ Zp (Zs 30 (.pointer (some ⟨rb, 0, none⟩)) (.agg #[st t, .int .i64 r, .slice A q.length cq])) w = some ((), w1) := k1
  have fin := hO _ t r q _ w1 hT F (x2.eq (by unfold cutS; rfl))
  simp [f10.k2, l1, k1, after, fin]
theorem loop10 {w : World} (hs : s.length ≤ 20000)
  (hE : ∀ (Y : Asn W.heap.size) (a z : Int) (w' : World), T = .error (a, z) → Sat W (blkA rb 30 zcs * Y) w' → Rt [.pointer (some ⟨rb, 0, none⟩), .int .i64 z, .int .i64 a] w')
  (hO : ∀ (Y : Asn W.heap.size) (t : List UInt8) (r : Int) (q : List Ev) (v : Value) (w' : World), T = .ok (t, r, q) → Fine t r q → Sat W (cutS rb t r v q Y) w' → Rt [.pointer (some ⟨rb, 0, none⟩), .int .i64 0, .int .i64 0] w')
  (hv : vs 0 s = true) (hT : parseGo (s.length + 1) s.length 0 s none = T) (x : PSt W X lb rb none w) :
  ∃ n, itN (f10.w3 C Rt) n [st s, .pointer (some ⟨rb, 0, none⟩), .pointer (some ⟨lb, 0, none⟩), .bool false, .int .i64 0] w := by
 have hsl := fun ty => str_len (P := Zp) Uz ty s
 refine itN_down (I := fun d us u => ∃ (p : Nat) (P : Int) (sd : Option Cut) (n : Nat), us = [st s, .pointer (some ⟨rb, 0, none⟩), .pointer (some ⟨lb, 0, none⟩), .bool sd.isSome, .int .i64 P] ∧ P = (p : Int) ∧ p ≤ s.length + 1 ∧ d = s.length + 1 - p ∧ PSt W X lb rb sd u ∧ vs 0 (s.drop p) = true ∧ (p ≤ s.length → s.length + 1 ≤ p + (n + 1)) ∧ parseGo (n + 1) s.length p (s.drop p) sd = T) ?_ (m := s.length + 1)
  ⟨0, 0, none, s.length, rfl, rfl, by omega, by omega, x, by simpa using hv, by omega, by simpa using hT⟩
 rintro d us u ⟨p, P, sd, n, rfl, hP, hp, hd, y, hvv, hn, hg⟩ rec hrec
 by_cases hle : p ≤ s.length
 ·have hle' : P ≤ (s.length : Int) := by omega
  have hllen := lineOf_le (s.drop p)
  rw [Ye] at hllen
  obtain ⟨hv1, hv2⟩ := lineOf_valid hvv
  have hrw := rds_words hv1 (n := s.length + 1) (p := p) (by rw [Ye]; omega)
  obtain ⟨ws, e, hw⟩ : ∃ ws e, rds (s.length + 1) p (s.drop p) [] = (ws, e) := ⟨_, _, rfl⟩
  rw [hw] at hrw
  obtain ⟨wp1, wp2⟩ := words_in hv1 p
  have hdd : s.drop (p + (lineOf (s.drop p)).length + 1) = (s.drop p).drop ((lineOf (s.drop p)).length + 1) := by rw [Yd]; congr 1
  have key := round10 (Rt := Rt) (rec := rec) hs hle hP hw y (hrw.keeps wp1)
   (fun t r _ hL => listR_fine wp1 (by rw [hrw.listR]; exact hL))
   (fun hws N w' hN z => ?_) (fun Y a z w' hws hS z' => ?_) (fun dd N w' hws hN hS z => ?_)
  ·simp [f10.w3, hsl, hle', after, key]
  ·-- no words
   refine hrec (s.length + 1 - (p + (lineOf (s.drop p)).length + 1)) _ w' (by omega) ?_
   have hwp : (words p (lineOf (s.drop p))).1 = [] := by
    rcases hrw.ends with ⟨h, _⟩ | ⟨y1, l1, y2, l2, _, h, _⟩
    ·exact h
    ·simp only at h; rw [hws] at h; cases h
   match hsd : s.drop p with
   | [] =>
    rw [hsd] at hg hN hdd hllen
    rw [parseGo_nil] at hg
    have hp' : p = s.length := by have := List.drop_eq_nil_iff.mp hsd; omega
    refine ⟨p + (lineOf ([] : List UInt8)).length + 1, N, sd, 0, rfl, hN, by simp [lineOf]; omega, by simp [lineOf], z, by rw [hdd]; simp [vs], fun h => ?_, ?_⟩
    ·simp [lineOf] at h; omega
    ·rw [hdd, List.drop_nil, parseGo_nil]; exact hg
   | c :: l =>
    rw [hsd] at hg hN hdd hllen hwp hv2
    have hlen : l.length + 1 = s.length - p := by have := congrArg List.length hsd; simp at this; omega
    obtain ⟨m, rfl⟩ : ∃ m, n = m + 1 := ⟨n - 1, by have := hn hle; omega⟩
    rw [parseGo_cons, if_pos hwp] at hg
    refine ⟨p + (lineOf (c :: l)).length + 1, N, sd, m, rfl, hN, by omega, rfl, z, by rw [hdd]; exact hv2, fun h => by have := hn hle; omega, ?_⟩
    rw [hdd]
    exact hg
  ·-- an error
   match hsd : s.drop p with
   | [] =>
    exfalso
    rw [hsd] at hw
    simp [rds] at hw
    exact hws hw.1
   | c :: l =>
    rw [hsd] at hg hrw
    rw [parseGo_cons, if_neg, hrw.step, hS] at hg
    ·exact hE Y a z w' hg.symm z'
    ·intro h
     rcases hrw.ends with ⟨_, h2⟩ | ⟨y1, l1, y2, l2, h2, _, _⟩
     ·exact hws h2
     ·rw [h] at h2; cases h2
  ·refine hrec (s.length + 1 - (p + (lineOf (s.drop p)).length + 1)) _ w' (by omega) ?_
   match hsd : s.drop p with
   | [] =>
    exfalso
    rw [hsd] at hw
    simp [rds] at hw
    exact hws hw.1
   | c :: l =>
    rw [hsd] at hg hrw hN hdd hllen hv2
    have hlen : l.length + 1 = s.length - p := by have := congrArg List.length hsd; simp at this; omega
    obtain ⟨m, rfl⟩ : ∃ m, n = m + 1 := ⟨n - 1, by have := hn hle; omega⟩
    rw [parseGo_cons, if_neg, hrw.step, hS] at hg
    ·refine ⟨p + (lineOf (c :: l)).length + 1, N, some dd, m, rfl, hN, by omega, rfl, z, by rw [hdd]; exact hv2, fun h => by have := hn hle; omega, ?_⟩
     rw [hdd]
     exact hg
    ·intro h
     rcases hrw.ends with ⟨_, h2⟩ | ⟨y1, l1, y2, l2, h2, _, _⟩
     ·exact hws h2
     ·rw [h] at h2; cases h2
 ·have hle' : ¬ P ≤ (s.length : Int) := by omega
  have hnil : s.drop p = [] := List.drop_eq_nil_of_le (by omega)
  rw [hnil, parseGo_nil] at hg
  have key := k2_10 (s := s) hE hO hg.symm y
  simp [f10.w3, hsl, hle', after, Ways.out, key]
end
theorem parse_w {w : World} {Rt : List Value → World → Prop} (s : List UInt8) (hl : s.length ≤ 9223372036854775807)
  (hE : ∀ (rb : Nat) (Y : Asn w.heap.size) (a z : Int) (w' : World), parse s = .error (a, z) → Sat w (blkA rb 30 zcs * Y) w' → Rt [.pointer (some ⟨rb, 0, none⟩), .int .i64 z, .int .i64 a] w')
  (hO : ∀ (rb : Nat) (Y : Asn w.heap.size) (t : List UInt8) (r : Int) (q : List Ev) (v : Value) (w' : World), parse s = .ok (t, r, q) → Fine t r q → Sat w (cutS rb t r v q Y) w' → Rt [.pointer (some ⟨rb, 0, none⟩), .int .i64 0, .int .i64 0] w') :
  f10.w C Rt (st s) w := by
 have hsl := fun ty => str_len (P := Zp) Uz ty s
 have x1 := (emp_sat w).newBlk 30 zcs
 have a1 := alloc30 w
 obtain ⟨w1, hw1⟩ : ∃ w1, w1 = w.alloc (.cells zcs.toArray 30) := ⟨_, rfl⟩
 rw [← hw1] at x1 a1
 by_cases h20 : 20000 < s.length
 ·have h20' : (20000 : Int) < s.length := by omega
  obtain ⟨w2, k2, x2⟩ := put_cut x1 rfl [] 0 none 0 0
  have k2 : Eq_ Zp (Zs 30 (.pointer (some ⟨w.heap.size, 0, none⟩)) zcv) w1 = some ((), w2) := k2
  have fin := hE _ _ 0 191 w2 (by unfold parse; rw [if_pos h20]) x2
  simp [f10.w, a1, hsl, h20', h20, build30z, k2, after, fin]
 have h20' : ¬ (20000 : Int) < s.length := by omega
 have kb := rbad_ok s (by omega) w1
 cases hb : bad 0 s 0 with
 | some k =>
  rw [hb] at kb
  have hk : (0 : Int) ≤ (k : Int) := by omega
  have kb : C 29 #[st s] w1 = some (.int .i64 (k : Int), w1) := kb
  obtain ⟨w2, k2, x2⟩ := put_cut x1 rfl [] 0 none 0 0
  have k2 : Eq_ Zp (Zs 30 (.pointer (some ⟨w.heap.size, 0, none⟩)) zcv) w1 = some ((), w2) := k2
  have fin := hE _ _ (k : Int) 192 w2 (by unfold parse; rw [if_neg h20, hb]) x2
  obtain ⟨K, hK⟩ : ∃ K : Int, K = (k : Int) := ⟨_, rfl⟩
  rw [← hK] at kb fin hk
  simp [f10.w, a1, hsl, h20', h20, f10.k0, kb, hk, build30z, k2, after, fin]
 | none =>
  rw [hb] at kb
  have kb : C 29 #[st s] w1 = some (.int .i64 (-1), w1) := kb
  have hvs : vs 0 s = true := by
   have := bad_none s.length 0 s 0 (Nat.le_refl _)
   rw [hb] at this
   simpa using this.symm
  have hT : parse s = parseGo (s.length + 1) s.length 0 s none := by unfold parse; rw [if_neg h20, hb]
  have x2 := x1.newBlk 30 zcs
  have a2 := alloc30 w1
  obtain ⟨w2, hw2⟩ : ∃ w2, w2 = w1.alloc (.cells zcs.toArray 30) := ⟨_, rfl⟩
  rw [← hw2] at x2 a2
  have lp := loop10 (Rt := Rt) (T := parse s) (lb := w1.heap.size) (rb := w.heap.size) (s := s) (by omega) (hE _) (hO _) hvs hT.symm (X := emp) x2
  simp [f10.w, a1, hsl, h20', h20, f10.k0, kb, f10.k1, a2, after, lp]
def ParseQ (w : World) (s : List UInt8) (v : Value) (w' : World) : Prop := w.grownBy w' none ∧
 ((∃ t r q A c, parse s = .ok (t, r, q) ∧ Fine t r q ∧ v = .tuple #[cutV t r A q.length c, .int .i64 0, .int .i64 0] ∧ w'.ownsRow w.heap.size 51 5 (.slice A q.length c) q.length (q.flatMap Ev.cs)) ∨
  (∃ a z, parse s = .error (a, z) ∧ v = .tuple #[cutV [] 0 none 0 0, .int .i64 z, .int .i64 a]))
theorem rparse_ok (s : List UInt8) (hl : s.length ≤ 9223372036854775807) (w : World) : Calls Zp 10 #[st s] w fun o w' => ∃ v, o = .returned v ∧ ParseQ w s v w' := by
 have key : f10.w C (fun vs w' => hold (Res.doneR Zp [.cell 2 30, .tmp 3, .tmp 4] (.ret vs w')) fun r => ParseQ w s r.1 r.2) (st s) w := by
  refine parse_w s hl (fun rb Y a z w' hp x => ?_) (fun rb Y t r q v w' hp F x => ?_)
  ·have l1 := ld_cut x
   have : Res.doneR Zp [.cell 2 30, .tmp 3, .tmp 4] (.ret [.pointer (some ⟨rb, 0, none⟩), .int .i64 z, .int .i64 a] w') = some (.tuple #[cutV [] 0 none 0 0, .int .i64 z, .int .i64 a], w') := by
    simp [Res.doneR, loadsOf, l1, outcome, cutV]
   rw [this]
   exact ⟨grown_of x, .inr ⟨a, z, hp, rfl⟩⟩
  ·have hq0 := (x.eq (by unfold cutS; ac_rfl : _ = rowA 51 5 v q.length (q.flatMap Ev.cs) * (blkA rb 30 [st t, .int .i64 r, v] * Y))).row
   obtain ⟨A, cq, rfl, hcq, _⟩ := own_form hq0
   have l1 := ld_cut (x.eq (by unfold cutS; rfl : _ = blkA rb 30 [st t, .int .i64 r, .slice A q.length cq] * (rowA 51 5 (.slice A q.length cq) q.length (q.flatMap Ev.cs) * Y)))
   have : Res.doneR Zp [.cell 2 30, .tmp 3, .tmp 4] (.ret [.pointer (some ⟨rb, 0, none⟩), .int .i64 0, .int .i64 0] w') = some (.tuple #[cutV t r A q.length cq, .int .i64 0, .int .i64 0], w') := by
    simp [Res.doneR, loadsOf, l1, outcome, cutV]
   rw [this]
   exact ⟨grown_of x, .inl ⟨t, r, q, A, cq, hp, F, rfl, hq0⟩⟩
 rw [← f10.weq] at key
 exact calls_of_wR' (ann := anns) (prim := er) (by kernel_rfl) er_ok (fn := Tryz.f10) (c := Tryz.f10.body.getD .skip) Tryz.func10 (by kernel_rfl) (vars := [.cell 2 30, .tmp 3, .tmp 4]) (rs := [2, 3, 4]) (by kernel_rfl) rfl (x := f10.wann) (Q := ParseQ w s) key
def mks (m : Ev) (n : Nat) : List Value := (List.replicate n m).flatMap Ev.cs
theorem mks_len (m : Ev) (n : Nat) : (mks m n).length = n * 5 := by
 unfold mks
 induction n with
 | zero => rfl
 | succ n ih => rw [List.replicate_succ, List.flatMap_cons, Ya, ih]; simp [Ev.cs]; omega
theorem mks_add (m : Ev) (n : Nat) : mks m n ++ m.cs = mks m (n + 1) := by
 unfold mks
 rw [List.replicate_succ', List.flatMap_append]
 simp
theorem mks_take (m : Ev) {n k : Nat} (h : n ≤ k) : (mks m k).take (n * 5) = mks m n := by
 obtain ⟨d, rfl⟩ : ∃ d, k = n + d := ⟨k - n, by omega⟩
 have : mks m (n + d) = mks m n ++ mks m d := by unfold mks; rw [← List.replicate_append_replicate, List.flatMap_append]
 rw [this, List.take_left' (mks_len m n)]
theorem mks_drop (m : Ev) {n k : Nat} (h : n < k) : (mks m k).drop (n * 5 + 5) = mks m (k - (n + 1)) := by
 obtain ⟨d, rfl⟩ : ∃ d, k = (n + 1) + d := ⟨k - (n + 1), by omega⟩
 have : mks m (n + 1 + d) = mks m (n + 1) ++ mks m d := by unfold mks; rw [← List.replicate_append_replicate, List.flatMap_append]
 rw [this, show n * 5 + 5 = (n + 1) * 5 by omega, List.drop_left' (mks_len m (n + 1)), Nat.add_sub_cancel_left]
def mblk {base : Nat} (m : Ev) (p : Nat × Nat × Nat) : Asn base := ⟨fun S w => (∃ cur : Array Value, w.heap[p.1]? = some (.cells cur 51 (0, 0)) ∧ cur.size = p.2.1 * 5 ∧ p.2.2 ≤ p.2.1 ∧ p.2.1 ≤ maxLen ∧ cur.toList.take (p.2.2 * 5) = mks m p.2.2) ∧ base ≤ p.1 ∧ S = fun k => k = p.1,
 fun ⟨⟨cur, h1, h2⟩, hb, h3⟩ hg hs => ⟨⟨cur, by rw [hg.block p.1 ((Array.getElem?_eq_some_iff.mp h1).1) (hs _ (by rw [h3]))]; exact h1, h2⟩, hb, h3⟩,
 fun ⟨⟨cur, h1, h2⟩, hb, h3⟩ k hk => by rw [h3] at hk; subst hk; exact ⟨hb, (Array.getElem?_eq_some_iff.mp h1).1⟩⟩
def GoodM (Bs : List (Nat × Nat × Nat)) (v : Value) (n : Nat) : Prop := (n = 0 ∧ v = .slice none 0 0) ∨ ∃ g cap K, v = .slice (some ⟨g, 0, none⟩) n cap ∧ (g, cap, K) ∈ Bs ∧ n ≤ K
def BLe (Bs Bs' : List (Nat × Nat × Nat)) : Prop := ∀ g cap K, (g, cap, K) ∈ Bs → ∃ K', (g, cap, K') ∈ Bs' ∧ K ≤ K'
theorem BLe.refl (Bs : List (Nat × Nat × Nat)) : BLe Bs Bs := fun g cap K h => ⟨K, h, Nat.le_refl _⟩
theorem BLe.trans {A B C : List (Nat × Nat × Nat)} (h : BLe A B) (h' : BLe B C) : BLe A C := fun g cap K hk => by
 obtain ⟨K1, h1, l1⟩ := h g cap K hk
 obtain ⟨K2, h2, l2⟩ := h' g cap K1 h1
 exact ⟨K2, h2, Nat.le_trans l1 l2⟩
theorem GoodM.mono {Bs Bs' : List (Nat × Nat × Nat)} {v : Value} {n : Nat} (h : GoodM Bs v n) (hb : BLe Bs Bs') : GoodM Bs' v n := by
 rcases h with h | ⟨g, cap, K, h1, h2, h3⟩
 ·exact .inl h
 ·obtain ⟨K', h4, h5⟩ := hb g cap K h2
  exact .inr ⟨g, cap, K', h1, h4, by omega⟩
section
variable {W : World} {X : Asn W.heap.size}
theorem sat_mblk {w : World} {m : Ev} {p : Nat × Nat × Nat} (x : Sat W (Go.Sh.YtkghbcadnbojgaaGreatDoor.mblk m p * X) w) : (∃ cur : Array Value, w.heap[p.1]? = some (.cells cur 51 (0, 0)) ∧ cur.size = p.2.1 * 5 ∧ p.2.2 ≤ p.2.1 ∧ p.2.1 ≤ maxLen ∧ cur.toList.take (p.2.2 * 5) = mks m p.2.2) ∧ W.heap.size ≤ p.1 := by
 obtain ⟨g, S, A, B, d, e, ⟨h1, h2, h3⟩, q⟩ := x
 exact ⟨h1, h2⟩
theorem row_mblk {w : World} {m : Ev} {v : Value} {n : Nat} (x : Sat W (rowA 51 5 v n (mks m n) * X) w) :
  (n = 0 ∧ v = .slice none 0 0 ∧ Sat W X w) ∨ ∃ g cap, v = .slice (some ⟨g, 0, none⟩) n cap ∧ Sat W (mblk m (g, cap, n) * X) w := by
 rcases x.row.2 with ⟨h1, h2⟩ | ⟨g, cap, cur, hv, hb, hg, hnc, hcm, hcs, htake⟩
 ·exact .inl ⟨h2, h1, x.right⟩
 ·refine .inr ⟨g, cap, hv, x.sub fun S w' hx => ?_⟩
  obtain ⟨A, B, d, e, p, q⟩ := hx
  rcases p.1.2 with ⟨h1, h2⟩ | ⟨g', cap', cur', hv', hb', hg', hnc', hcm', hcs', htake'⟩
  ·rw [hv] at h1; cases h1
  ·rw [hv] at hv'
   simp only [Value.slice.injEq, Oj, Addr.mk.injEq, and_true, true_and] at hv'
   obtain ⟨rfl, rfl⟩ := hv'
   refine ⟨S, A, B, d, e, ⟨⟨cur', hg', hcs', hnc', hcm', ?_⟩, hb', ?_⟩, q⟩
   ·first | exact htake'.symm | exact htake' | simpa using htake'.symm | simpa using htake'
   ·rw [p.2, hv]
    funext k
    simp [Value.ownBlock, eq_comm]
theorem GoodM.rd {w : World} {m : Ev} {Bs : List (Nat × Nat × Nat)} {v : Value} {n : Nat} (h : GoodM Bs v n) (x : Sat W (all (Go.Sh.YtkghbcadnbojgaaGreatDoor.mblk m) Bs * X) w) : ∃ A c, v = .slice A n c ∧ Rd w A (mks m n) := by
 rcases h with ⟨rfl, rfl⟩ | ⟨g, cap, K, rfl, h2, h3⟩
 ·exact ⟨none, 0, rfl, by simp [mks, Rd]⟩
 ·obtain ⟨i, hi⟩ := List.getElem?_of_mem h2
  rw [all_get _ hi, star_assoc] at x
  obtain ⟨⟨cur, g1, g2, g3, g4, g5⟩, _⟩ := sat_mblk x
  dsimp only at g1 g2 g3 g4 g5
  refine ⟨_, _, rfl, fun j u hj => ?_⟩
  have hjl : j < n * 5 := by have := (List.getElem?_eq_some_iff.mp hj).1; rwa [mks_len] at this
  rw [addL, Nat.zero_add]
  have e1 : (mks m K)[j]? = some u := by
   have := mks_take m h3
   rw [← this, List.getElem?_take, if_pos hjl] at hj
   exact hj
  rw [← g5, List.getElem?_take, if_pos (by omega)] at e1
  unfold World.cell?
  rw [g1]
  simpa using e1
theorem mblk_step {w w' : World} {m : Ev} {g cap K K' : Nat} (x : Sat W (mblk m (g, cap, K) * X) w) (hg : w.grownBy w' (some g)) (h : ∃ cur : Array Value, w'.heap[g]? = some (.cells cur 51 (0, 0)) ∧ cur.size = cap * 5 ∧ K' ≤ cap ∧ cap ≤ maxLen ∧ cur.toList.take (K' * 5) = mks m K') : Sat W (mblk m (g, cap, K') * X) w' := by
 obtain ⟨gr, S, A, B, d, e', ⟨p, hb, hA⟩, q⟩ := x
 subst hA
 have hG : Grew (fun k => k = g) w w' := grew_of hg fun k hk => .inl (by cases hk; rfl)
 exact ⟨gr.trans hG fun k hk => .inr (hk ▸ hb), fun k => k = g ∨ B k, fun k => k = g, B, d, rfl, ⟨h, hb, rfl⟩, X.frame q hG fun k hB hk => d k hk hB⟩
theorem app_mark {w : World} {m : Ev} {Bs : List (Nat × Nat × Nat)} {v : Value} {n bE : Nat} (hv : GoodM Bs v n) (hn : n ≤ 1000) (x : Sat W (all (mblk m) Bs * (blkA bE 51 m.cs * X)) w) :
  ∃ v' Bs' w', Eq_ Zp (Yb #[28, 28] 28 #[v, .slice (some ⟨bE, 0, none⟩) 1 1]) w = some (v', w') ∧ Sat W (all (mblk m) Bs' * (blkA bE 51 m.cs * X)) w' ∧ GoodM Bs' v' (n + 1) ∧ BLe Bs Bs' := by
 have rE : Rd w (some ⟨bE, 0, none⟩) m.cs := rd_blk (x.eq (by ac_rfl : _ = blkA bE 51 m.cs * (all (mblk m) Bs * X)))
 have hone := cs_one m
 rcases hv with ⟨rfl, rfl⟩ | ⟨g, cap, K, rfl, h2, h3⟩
 ·obtain ⟨v', w', k1, k2, k3, k4⟩ := e_append2 (P := Zp) (ty := 28) Tryz.underlying28 inf51 zero51 size51 bytes51 rfl (by decide) (World.ownsRow_nil w w.heap.size 51 5) (m := 1) (c := 1) (news := m.cs) rfl rE (fun h => by cases h) hone (by simp [maxLen]) (by omega) (Nat.le_refl _)
  have y := x.newRow (e := 51) (sz := 5) k3 k2
  have hm1 : ([] : List Value) ++ m.cs = mks m (0 + 1) := by rw [← mks_add]; rfl
  rw [hm1] at y
  rcases row_mblk y with ⟨h, _⟩ | ⟨g, cap, hv', y⟩
  ·omega
  ·refine ⟨v', Bs ++ [(g, cap, 0 + 1)], w', k1, y.eq (by rw [all_append]; simp only [all, star_emp]; ac_rfl), .inr ⟨g, cap, 0 + 1, hv', by simp, Nat.le_refl _⟩, fun g cap K h => ⟨K, by simp [h], Nat.le_refl _⟩⟩
 ·obtain ⟨i, hi⟩ := List.getElem?_of_mem h2
  have x1 := x.eq (by rw [all_get _ hi]; ac_rfl : _ = mblk m (g, cap, K) * (all (mblk m) (Bs.eraseIdx i) * (blkA bE 51 m.cs * X)))
  obtain ⟨⟨cur, g1, g2, g3, g4, g5⟩, hbg⟩ := sat_mblk x1
  dsimp only at g1 g2 g3 g4 g5 hbg
  have hpre : cur.toList.take (n * 5) = mks m n := by
   rw [← mks_take m h3, ← g5, List.take_take]
   congr 1
   omega
  have own : w.ownsRow W.heap.size 51 5 (.slice (some ⟨g, 0, none⟩) n cap) n (mks m n) := ⟨mks_len m n, .inr ⟨g, cap, cur, rfl, hbg, g1, by omega, g4, g2, by first | exact hpre | exact hpre.symm⟩⟩
  obtain ⟨v', w', k1, k2, k3, k4⟩ := e_append2 (P := Zp) (ty := 28) Tryz.underlying28 inf51 zero51 size51 bytes51 rfl (by decide) own (m := 1) (c := 1) (news := m.cs) rfl rE (fun h => by cases h) hone (by simp [maxLen]; omega) (by omega) x.size
  rw [mks_add] at k2
  refine ⟨v', ?_⟩
  by_cases hroom : n + 1 ≤ cap
  ·have hfit : n * (inf 51).size + m.cs.length ≤ cur.size := by rw [size51, g2]; show n * 5 + 5 ≤ cap * 5; omega
   have rr := erun_of_run (run_append_room (P := Zp) w 28 28 51 (inf 51) Tryz.underlying28 inf51 g n cap cur g1 ⟨bE, 0, none⟩ 1 1 m.cs (by rw [size51]; rfl) rE hone hroom hfit)
   rw [k1] at rr
   simp only [Oj, Prod.mk.injEq] at rr
   obtain ⟨rfl, hw'⟩ := rr
   have hheap : w'.heap[g]? = some (.cells (cur.toList.take (n * 5) ++ m.cs ++ cur.toList.drop (n * 5 + 5)).toArray 51 (0, 0)) := by
    rw [hw', size51]
    obtain ⟨hlt, hge⟩ := Array.getElem?_eq_some_iff.mp g1
    simp [World.setRow, hlt, Array.getElem_modify_self, hge, Ev.cs]
   have hl : cur.toList.length = cap * 5 := by rw [Array.length_toList, g2]
   refine ⟨Bs.set i (g, cap, max K (n + 1)), w', k1, ?_, .inr ⟨g, cap, max K (n + 1), rfl, ?_, by omega⟩, ?_⟩
   ·have y := mblk_step (K' := max K (n + 1)) x1 k3 ⟨_, hheap, by simp [Ev.cs]; omega, by omega, g4, ?_⟩
    ·refine y.eq ?_
     rw [all_set _ (List.getElem?_eq_some_iff.mp hi).1]
     ac_rfl
    ·rw [List.toList_toArray, hpre, mks_add]
     by_cases hK : K ≤ n + 1
     ·rw [show max K (n + 1) = n + 1 by omega, List.take_left' (mks_len m (n + 1))]
     ·rw [show max K (n + 1) = K by omega, List.take_append]
      rw [mks_len, List.take_of_length_le (by rw [mks_len]; omega)]
      have e1 : (cur.toList.drop (n * 5 + 5)).take (K * 5 - (n + 1) * 5) = mks m (K - (n + 1)) := by
       rw [← mks_drop m (show n < K by omega), ← g5, List.drop_take]
       congr 1
       omega
      rw [e1]
      unfold mks
      rw [← List.flatMap_append, List.replicate_append_replicate, show n + 1 + (K - (n + 1)) = K by omega]
   ·rw [List.mem_iff_getElem?]
    exact ⟨i, by rw [List.getElem?_set_self (List.getElem?_eq_some_iff.mp hi).1]⟩
   ·intro g' cap' K' hm
    obtain ⟨j, hj⟩ := List.getElem?_of_mem hm
    by_cases hij : i = j
    ·subst hij
     rw [hi] at hj
     simp only [Oj, Prod.mk.injEq] at hj
     obtain ⟨rfl, rfl, rfl⟩ := hj
     exact ⟨max K (n + 1), List.mem_iff_getElem?.mpr ⟨i, by rw [List.getElem?_set_self (List.getElem?_eq_some_iff.mp hi).1]⟩, by omega⟩
    ·exact ⟨K', List.mem_iff_getElem?.mpr ⟨j, by rw [List.getElem?_set_ne hij]; exact hj⟩, Nat.le_refl _⟩
  ·have holds : ∀ j u, (mks m n)[j]? = some u → w.cell? ((⟨g, 0, none⟩ : Addr).add j) = some u := own.cells (g := g) rfl
   have rr := erun_of_run (run_append_grow (P := Zp) w 28 28 51 (inf 51) (.agg #[st [], .int .i64 0, .int .i64 0, .int .i64 0, st []]) Tryz.underlying28 inf51 (by exact zero51) ⟨g, 0, none⟩ n cap (mks m n) (by rw [mks_len, size51]) holds ⟨bE, 0, none⟩ 1 1 m.cs (by rw [size51]; rfl) rE (by omega) (by omega) (growslice_fits (by omega) (by rw [bytes51]; omega)))
   rw [k1] at rr
   simp only [Oj, Prod.mk.injEq] at rr
   obtain ⟨rfl, hw'⟩ := rr
   have hgn : w.grownBy w' none := by rw [hw']; exact grown_step (drew_grown w) (World.grownBy_alloc _ _ _)
   have k2' : w'.ownsRow w.heap.size 51 5 (.slice (some ⟨w.heap.size, 0, none⟩) (n + 1) (grownCap w (n + 1) cap 51)) (n + 1) (mks m (n + 1)) := by
    refine ⟨k2.1, ?_⟩
    rcases k2.2 with ⟨h, _⟩ | ⟨g', cap', cur', hv', hb', hg', r1, r2, r3, r4⟩
    ·cases h
    ·simp only [Value.slice.injEq, Oj, Addr.mk.injEq, and_true, true_and] at hv'
     obtain ⟨rfl, rfl⟩ := hv'
     exact .inr ⟨_, _, cur', rfl, Nat.le_refl _, hg', r1, r2, r3, r4⟩
   have y := x.newRow (e := 51) (sz := 5) hgn k2'
   rcases row_mblk y with ⟨h, _⟩ | ⟨g', cap', hv', y⟩
   ·omega
   ·refine ⟨Bs ++ [(g', cap', n + 1)], w', k1, y.eq (by rw [all_append]; simp only [all, star_emp]; ac_rfl), .inr ⟨g', cap', n + 1, hv', by simp, Nat.le_refl _⟩, fun g cap K h => ⟨K, by simp [h], Nat.le_refl _⟩⟩
end
theorem bs24 (A : Option Addr) (n c : Nat) (w : World) : Eq_ Zp (Instr.buildSlice 24 1 #[(0, .slice A n c)]) w = some (.slice (some ⟨w.heap.size, 0, none⟩) 1 1, w.alloc (.cells #[.slice A n c] 28)) := id (by kernel_rfl)
theorem bs24_2 (A B : Option Addr) (n c m d : Nat) (w : World) : Eq_ Zp (Instr.buildSlice 24 2 #[(0, .slice A n c), (1, .slice B m d)]) w = some (.slice (some ⟨w.heap.size, 0, none⟩) 2 2, w.alloc (.cells #[.slice A n c, .slice B m d] 28)) := id (by kernel_rfl)
section
variable {W : World} {X : Asn W.heap.size}
theorem keep_ok {w : World} {bb k n c : Nat} {L M : Value} {A : Option Addr} {ls us : List Value} {q : List Ev} (hn : q.length = n) (hk : k ≤ 100) (hq : n ≤ 300)
  (x : Sat W (blkA bb 26 [L, M] * (rowA 28 1 L k ls * (rowA 28 1 M k us * (rowA 51 5 (.slice A n c) n (q.flatMap Ev.cs) * X)))) w) :
  ∃ r L' M' B d w', C 13 #[.pointer (some ⟨bb, 0, none⟩), .slice A n c] w = some (r, w') ∧ Sat W (blkA bb 26 [L', M'] * (rowA 28 1 L' (k + 1) (ls ++ [.slice A n c]) * (rowA 28 1 M' (k + 1) (us ++ [.slice B n d]) * (rowA 51 5 (.slice A n c) n (q.flatMap Ev.cs) * (rowA 51 5 (.slice B n d) n (q.flatMap Ev.cs) * X))))) w' := by
 have c0 := x.cell 0 rfl
 have b1 := bs24 A n c w
 have x1 : Sat W (rowA 28 1 L k ls * (blkA bb 26 [L, M] * (rowA 28 1 M k us * (rowA 51 5 (.slice A n c) n (q.flatMap Ev.cs) * X)))) w := x.eq (by ac_rfl)
 obtain ⟨L', w1, k1, x2⟩ := x1.push (ty := 24) (P := Zp) Tryz.underlying24 inf28 zero28 size28 bytes28 rfl (by decide) (news := [.slice A n c]) rfl (by simp [Value.oneCell']) (by simp [maxLen]; omega) (by omega)
 have k1 : Eq_ Zp (Yb #[24, 24] 24 #[L, .slice (some ⟨w.heap.size, 0, none⟩) 1 1]) (w.alloc (.cells #[.slice A n c] 28)) = some (L', w1) := k1
 obtain ⟨LA, LC, rfl, _, _⟩ := own_form x2.row
 have x2 : Sat W (rowA 28 1 (.slice LA (k + 1) LC) (k + 1) (ls ++ [.slice A n c]) * (blkA bb 26 [L, M] * (rowA 28 1 M k us * (rowA 51 5 (.slice A n c) n (q.flatMap Ev.cs) * X)))) w1 := x2
 have x3 : Sat W (blkA bb 26 [L, M] * (rowA 28 1 (.slice LA (k + 1) LC) (k + 1) (ls ++ [.slice A n c]) * (rowA 28 1 M k us * (rowA 51 5 (.slice A n c) n (q.flatMap Ev.cs) * X)))) w1 := x2.eq (by ac_rfl)
 have k3 := x3.blk.store (P := Zp) (t := 24) (j := 0) (v := .slice LA (k + 1) LC) inf24 size24 (by simp) rfl rfl
 have x4 := x3.store 0 (.slice LA (k + 1) LC) (cs' := [.slice LA (k + 1) LC, M]) rfl
 obtain ⟨w2, hw2⟩ : ∃ w2, w2 = w1.setCell ⟨bb, 0, none⟩ (.slice LA (k + 1) LC) := ⟨_, rfl⟩
 rw [← hw2] at k3 x4
 have x5 := x4.drew
 have d1 : w2.cell? ⟨bb, 1, none⟩ = some M := x4.cell 1 rfl
 have x6 := Sat.emptyRow x5 51 5
 obtain ⟨E, hE⟩ : ∃ E : Value, E = .slice (some ⟨w2.drew.heap.size, 0, none⟩) 0 0 := ⟨_, rfl⟩
 obtain ⟨w3, hw3⟩ : ∃ w3, w3 = w2.drew.alloc (.cells #[] 51) := ⟨_, rfl⟩
 have be : Eq_ Zp (Instr.buildSlice 28 0 #[]) w2.drew = some (E, w3) := by rw [hw3, hE]; exact bs28_0 w2.drew
 rw [← hE, ← hw3] at x6
 have d3 : w3.cell? ⟨bb, 1, none⟩ = some M := x6.swap.cell 1 rfl
 have hrow := (x6.eq (by ac_rfl : _ = rowA 51 5 (.slice A n c) n (q.flatMap Ev.cs) * (rowA 51 5 E 0 [] * (blkA bb 26 [.slice LA (k + 1) LC, M] * (rowA 28 1 (.slice LA (k + 1) LC) (k + 1) (ls ++ [.slice A n c]) * (rowA 28 1 M k us * X)))))).row
 have hnil : A = none → c = 0 := by
  rintro rfl
  rcases hrow.2 with ⟨h, _⟩ | ⟨g, cap, cur, hv, _⟩
  ·simp at h; exact h.2
  ·cases hv
 obtain ⟨u, w4, k4, x7⟩ := app28 x6 (c := c) hn (Rd.own hrow) hnil (by omega)
 rw [Nat.zero_add, List.nil_append] at x7
 obtain ⟨B, d, rfl, _, _⟩ := own_form x7.row
 have d4 : w4.cell? ⟨bb, 1, none⟩ = some M := x7.swap.cell 1 rfl
 have b5 := bs24 B n d w4
 have x8 : Sat W (rowA 28 1 M k us * (blkA bb 26 [.slice LA (k + 1) LC, M] * (rowA 28 1 (.slice LA (k + 1) LC) (k + 1) (ls ++ [.slice A n c]) * (rowA 51 5 (.slice A n c) n (q.flatMap Ev.cs) * (rowA 51 5 (.slice B n d) n (q.flatMap Ev.cs) * X))))) w4 := x7.eq (by ac_rfl)
 have d5 : (w4.alloc (.cells #[.slice B n d] 28)).cell? ⟨bb, 1, none⟩ = some M := (x8.swap.grown (World.grownBy_alloc w4 (.cells #[.slice B n d] 28) none)).cell 1 rfl
 obtain ⟨M', w5, k5, x9⟩ := x8.push (ty := 24) (P := Zp) Tryz.underlying24 inf28 zero28 size28 bytes28 rfl (by decide) (news := [.slice B n d]) rfl (by simp [Value.oneCell']) (by simp [maxLen]; omega) (by omega)
 have k5 : Eq_ Zp (Yb #[24, 24] 24 #[M, .slice (some ⟨w4.heap.size, 0, none⟩) 1 1]) (w4.alloc (.cells #[.slice B n d] 28)) = some (M', w5) := k5
 obtain ⟨MA, MC, rfl, _, _⟩ := own_form x9.row
 have x9 : Sat W (rowA 28 1 (.slice MA (k + 1) MC) (k + 1) (us ++ [.slice B n d]) * (blkA bb 26 [.slice LA (k + 1) LC, M] * (rowA 28 1 (.slice LA (k + 1) LC) (k + 1) (ls ++ [.slice A n c]) * (rowA 51 5 (.slice A n c) n (q.flatMap Ev.cs) * (rowA 51 5 (.slice B n d) n (q.flatMap Ev.cs) * X))))) w5 := x9
 have xA : Sat W (blkA bb 26 [.slice LA (k + 1) LC, M] * (rowA 28 1 (.slice LA (k + 1) LC) (k + 1) (ls ++ [.slice A n c]) * (rowA 28 1 (.slice MA (k + 1) MC) (k + 1) (us ++ [.slice B n d]) * (rowA 51 5 (.slice A n c) n (q.flatMap Ev.cs) * (rowA 51 5 (.slice B n d) n (q.flatMap Ev.cs) * X))))) w5 := x9.eq (by ac_rfl)
 have kA := xA.blk.store (P := Zp) (t := 24) (j := 1) (v := .slice MA (k + 1) MC) inf24 size24 (by simp) rfl rfl
 have xB := xA.store 1 (.slice MA (k + 1) MC) (cs' := [.slice LA (k + 1) LC, .slice MA (k + 1) MC]) rfl
 obtain ⟨w6, hw6⟩ : ∃ w6, w6 = w5.setCell ⟨bb, 1, none⟩ (.slice MA (k + 1) MC) := ⟨_, rfl⟩
 rw [← hw6] at kA xB
 refine ⟨.tuple #[], _, _, B, d, w6, f13.run rfl ?_, xB⟩
 obtain ⟨w2', hw2'⟩ : ∃ w2', w2' = w2.drew := ⟨_, rfl⟩
 have d2' : w2'.cell? ⟨bb, 1, none⟩ = some M := by rw [hw2']; exact d1
 rw [← hw2'] at be
 simp only [f13, nilV_some, fa26_0, fa26_1, add0, addL, ld24, Option.bind_some, c0, b1, k1, k3, ← hw2', d2', be, k4, b5, k5, kA, d3, d4, d5, Nat.zero_add, chkThen, and_self, if_true]
 rfl
end
def evm (i : Int) : Ev := ⟨[], -5 - i, 0, 0, []⟩
theorem build51m (z : Int) : Pq Zp (Zb 51 #[(1, .int .i64 z)]) = some (.agg #[st [], .int .i64 z, .int .i64 0, .int .i64 0, st []]) := id (by kernel_rfl)
theorem lmark_ok (i : Int) (h0 : 0 ≤ i) (h1 : i ≤ 1000) (w : World) : ∃ w', C 35 #[.int .i64 i] w = some ((evm i).v, w') ∧ w.grownBy w' none := by
 obtain ⟨w1, k1, b1, g1⟩ := lay51 (evm i) w
 have e1 : IntKind.i64.wrap (-5 - i) = -5 - i := wrap_i64 (by omega) (by omega)
 have l1 := ev_blk b1
 have bm := build51m (-5 - i)
 have bm : Pq Zp (Zb 51 #[(1, .int .i64 (-5 - i))]) = some (evm i).v := bm
 refine ⟨w1, f35.run rfl ?_, g1⟩
 simp [f35, alloc51, e1, bm, k1, l1]
theorem ne51 (e : Ev) (x y : Operand) (w : World) : Rq Zp (do eqGuard .neq 51 x y e.v e.v; binOp .neq 51 e.v e.v) w = some (.bool false) := by simp [Ev.v]
theorem full_ok {w : World} {A : Option Addr} {c n : Nat} {m : Ev} (hr : Rd w A (mks m n)) (hn : n ≤ 1000) : ∃ w', C 36 #[.slice A n c, m.v] w = some (.bool true, w') ∧ w.grownBy w' none := by
 obtain ⟨w0, hw0⟩ : ∃ w0, w0 = w.alloc (.cells m.cs.toArray 51) := ⟨_, rfl⟩
 have b0 : Blk w0 w.heap.size 51 m.cs := hw0 ▸ Blk.new w 51 m.cs
 have g0 : w.grownBy w0 none := hw0 ▸ World.grownBy_alloc w _ none
 have bx : Eq_ Zp (Zo 51 m.v) w = some (.pointer (some ⟨w.heap.size, 0, none⟩), w0) := by rw [hw0]; rfl
 obtain ⟨bm, hbm⟩ : ∃ b, b = w.heap.size := ⟨_, rfl⟩
 rw [← hbm] at b0 bx
 have key := iter_down (f := f36.l0 C) (fun d vs w1 => ∃ (i : Nat) (I : Int), I = (i : Int) ∧ vs = [.slice A n c, .pointer (some ⟨bm, 0, none⟩), .int .i64 I] ∧ i + d = n ∧ w0.grownBy w1 none)
  (fun r => ∃ w1, r = .exit 0 [] w1 ∧ w0.grownBy w1 none) (by
   rintro d vs w1 ⟨i, I, hI, rfl, hd, g⟩
   cases d with
   | zero =>
    have hlt : ¬ I < (n : Int) := by omega
    exact .inr ⟨_, by simp [f36.l0, hlt], ⟨w1, rfl, g⟩, by simp⟩
   | succ d =>
    have hlt : I < (n : Int) := by omega
    have hil : (List.replicate n m)[i]? = some m := by rw [List.getElem?_replicate, if_pos (by omega)]
    have gd := grown_step g (drew_grown w1)
    cases A with
    | none =>
     have h0 : mks m n = [] := hr
     have := mks_len m n
     rw [h0] at this
     simp at this
     omega
    | some a =>
     have ia := ix28 a n c .i64 I (by omega) hlt
     rw [hI, Int.toNat_natCast] at ia
     rw [← hI] at ia
     have la := ev_ld (q := List.replicate n m) (hr.grown (grown_step g0 gd)) hil
     have lm := ev_blk (e := m) (b0.grown gd (by simp))
     have ne := ne51 m
     obtain ⟨V, hV⟩ : ∃ V, V = m.v := ⟨_, rfl⟩
     rw [← hV] at la lm
     simp only [← hV] at ne
     obtain ⟨I2, hI2⟩ : ∃ x : Int, x = ((i + 1 : Nat) : Int) := ⟨_, rfl⟩
     have e1 : IntKind.i64.wrap (I + 1) = I2 := (wrap_i64 (by omega) (by omega)).trans (by omega)
     refine .inl ⟨d, _, w1.drew, by omega, ?_, ⟨i + 1, I2, hI2, rfl, by omega, gd⟩⟩
     simp [f36.l0, hlt, ia, la, lm, ne, e1]) n _ w0 ⟨0, 0, rfl, rfl, by omega, grown_refl _ _⟩
 obtain ⟨r, h1, w1, rfl, g⟩ := key
 exact ⟨w1, f36.run rfl (by simp [f36, bx, h1]), grown_step g0 g⟩
theorem row24_at {w : World} {A : Option Addr} {N : Nat} {ls : List Value} (hN : ls.length = N) (hr : Rd w A ls) {i : Nat} {v : Value} (hi : ls[i]? = some v) :
  ∃ a : Addr, (∀ c, Pq Zp (Zj 24 (.slice A N c) (.int .i64 (i : Int))) = some (.pointer (some a))) ∧ w.cell? a = some v := by
 have hlt : i < ls.length := (List.getElem?_eq_some_iff.mp hi).1
 cases A with
 | none =>
  have h0 : ls = [] := hr
  rw [h0] at hlt
  simp at hlt
 | some a =>
  refine ⟨a.add i, fun c => ?_, hr i v hi⟩
  have := ix24 a N c .i64 (i : Int) (by omega) (by omega)
  rw [Int.toNat_natCast, Nat.mul_one] at this
  exact this
structure Lk where
 A : Option Addr
 c : Nat
 n : Nat
 cs : List Value
def Lk.v (k : Lk) : Value := .slice k.A k.n k.c
def lkA {base : Nat} (k : Lk) : Asn base := rowA 51 5 k.v k.n k.cs
structure Same2 (a b : Lk) : Prop where
 q : ∃ q : List Ev, a.cs = q.flatMap Ev.cs ∧ b.cs = q.flatMap Ev.cs ∧ q.length = a.n ∧ q.length = b.n
section
variable {W : World} {X : Asn W.heap.size}
theorem lk_rd {w : World} {k : Lk} (x : Sat W (lkA k * X) w) : Rd w k.A k.cs := Rd.own x.row
theorem l0_14 {w : World} {bb N : Nat} {LA MA : Option Addr} {LC MC : Nat} {S T : List Lk} (hS : S.length = N) (hT : T.length = N) (hN : N ≤ 100) (hst : ∀ (i : Nat) (a b : Lk), S[i]? = some a → T[i]? = some b → Same2 a b ∧ a.n ≤ 300)
  (x : Sat W (blkA bb 26 [.slice LA N LC, .slice MA N MC] * (rowA 28 1 (.slice LA N LC) N (S.map Lk.v) * (rowA 28 1 (.slice MA N MC) N (T.map Lk.v) * (all lkA S * (all lkA T * X))))) w) :
  ∃ w', iter (f14.l0 C) [.pointer (some ⟨bb, 0, none⟩), .int .i64 0] w = some (.exit 0 [.pointer (some ⟨bb, 0, none⟩)] w') ∧ Sat W (blkA bb 26 [.slice LA N LC, .slice MA N MC] * (rowA 28 1 (.slice LA N LC) N (S.map Lk.v) * (rowA 28 1 (.slice MA N MC) N (T.map Lk.v) * (all lkA S * (all lkA T * X))))) w' := by
 have key := iter_down (f := f14.l0 C) (fun d vs w1 => ∃ (i : Nat) (I : Int), I = (i : Int) ∧ vs = [.pointer (some ⟨bb, 0, none⟩), .int .i64 I] ∧ i + d = N ∧ Sat W (blkA bb 26 [.slice LA N LC, .slice MA N MC] * (rowA 28 1 (.slice LA N LC) N (S.map Lk.v) * (rowA 28 1 (.slice MA N MC) N (T.map Lk.v) * (all lkA S * (all lkA T * X))))) w1)
  (fun r => ∃ w', r = .exit 0 [.pointer (some ⟨bb, 0, none⟩)] w' ∧ Sat W (blkA bb 26 [.slice LA N LC, .slice MA N MC] * (rowA 28 1 (.slice LA N LC) N (S.map Lk.v) * (rowA 28 1 (.slice MA N MC) N (T.map Lk.v) * (all lkA S * (all lkA T * X))))) w') (by
   rintro d vs w1 ⟨i, I, hI, rfl, hd, y⟩
   have c0 : w1.cell? ⟨bb, 0, none⟩ = some (.slice LA N LC) := y.cell 0 rfl
   cases d with
   | zero =>
    have hlt : ¬ I < (N : Int) := by omega
    exact .inr ⟨_, by simp [f14.l0, addL, c0, hlt], ⟨w1, rfl, y⟩, by simp⟩
   | succ d =>
    have hlt : I < (N : Int) := by omega
    have y' := y.drew
    have d1 : w1.cell? ⟨bb, 1, none⟩ = some (.slice MA N MC) := y.cell 1 rfl
    obtain ⟨a, ha⟩ : ∃ a, S[i]? = some a := ⟨_, Yg (by omega)⟩
    obtain ⟨b, hb⟩ : ∃ b, T[i]? = some b := ⟨_, Yg (by omega)⟩
    obtain ⟨⟨q, q1, q2, q3, q4⟩, hn⟩ := hst i a b ha hb
    have rL := Rd.own (y'.eq (by ac_rfl : _ = rowA 28 1 (.slice LA N LC) N (S.map Lk.v) * (blkA bb 26 [.slice LA N LC, .slice MA N MC] * (rowA 28 1 (.slice MA N MC) N (T.map Lk.v) * (all lkA S * (all lkA T * X)))))).row
    have rM := Rd.own (y'.eq (by ac_rfl : _ = rowA 28 1 (.slice MA N MC) N (T.map Lk.v) * (blkA bb 26 [.slice LA N LC, .slice MA N MC] * (rowA 28 1 (.slice LA N LC) N (S.map Lk.v) * (all lkA S * (all lkA T * X)))))).row
    obtain ⟨aL, iL, cL⟩ := row24_at (N := N) (by simp [hS]) rL (i := i) (v := a.v) (by rw [List.getElem?_map, ha]; rfl)
    obtain ⟨aM, iM, cM⟩ := row24_at (N := N) (by simp [hT]) rM (i := i) (v := b.v) (by rw [List.getElem?_map, hb]; rfl)
    have rA := lk_rd (y'.eq (by rw [all_get _ ha]; ac_rfl : _ = lkA a * (all lkA (S.eraseIdx i) * (blkA bb 26 [.slice LA N LC, .slice MA N MC] * (rowA 28 1 (.slice LA N LC) N (S.map Lk.v) * (rowA 28 1 (.slice MA N MC) N (T.map Lk.v) * (all lkA T * X)))))))
    have rB := lk_rd (y'.eq (by rw [all_get _ hb]; ac_rfl : _ = lkA b * (all lkA (T.eraseIdx i) * (blkA bb 26 [.slice LA N LC, .slice MA N MC] * (rowA 28 1 (.slice LA N LC) N (S.map Lk.v) * (rowA 28 1 (.slice MA N MC) N (T.map Lk.v) * (all lkA S * X)))))))
    rw [q1] at rA
    rw [q2] at rB
    obtain ⟨w2, k2, g2⟩ := sameEvents_ok (c := a.c) (d := b.c) rA rB (by omega)
    have k2 : C 33 #[a.v, b.v] w1.drew = some (.bool true, w2) := by unfold Lk.v; rw [← q3, ← q4]; exact k2
    have iL := iL LC
    have iM := iM MC
    rw [← hI] at iL iM
    obtain ⟨I2, hI2⟩ : ∃ x : Int, x = ((i + 1 : Nat) : Int) := ⟨_, rfl⟩
    have e1 : IntKind.i64.wrap (I + 1) = I2 := (wrap_i64 (by omega) (by omega)).trans (by omega)
    have cL' : w1.cell? aL = some a.v := cL
    have cM' : w1.cell? aM = some b.v := cM
    refine .inl ⟨d, _, w2, by omega, ?_, ⟨i + 1, I2, hI2, rfl, by omega, y'.grown g2⟩⟩
    simp [f14.l0, addL, c0, hlt, iL, cL', d1, iM, cM', k2, e1]) N _ w ⟨0, 0, rfl, rfl, by omega, x⟩
 obtain ⟨r, h1, w', rfl, y⟩ := key
 exact ⟨w', h1, y⟩
end
section
variable {W : World} {X : Asn W.heap.size}
theorem l1_14 {w : World} {bb N i n c : Nat} {LA A : Option Addr} {LC : Nat} {M : Value} {ls : List Value} {q : List Ev} (hls : ls.length = N) (hi : ls[i]? = some (.slice A n c)) (hN : N ≤ 100) (hq : q.length = n) (hn : n ≤ 300)
  (x : Sat W (blkA bb 26 [.slice LA N LC, M] * (rowA 28 1 (.slice LA N LC) N ls * (rowA 51 5 (.slice A n c) n (q.flatMap Ev.cs) * X))) w) :
  ∃ w', iter (f14.l1 C) [.pointer (some ⟨bb, 0, none⟩), .int .i64 (i : Int), .int .i64 0] w = some (.exit 4 [.pointer (some ⟨bb, 0, none⟩), .int .i64 (i : Int)] w') ∧ Sat W (blkA bb 26 [.slice LA N LC, M] * (rowA 28 1 (.slice LA N LC) N ls * (rowA 51 5 (.slice A n c) n (mks (evm i) n) * X))) w' := by
 have hiN : i < N := by have := (List.getElem?_eq_some_iff.mp hi).1; omega
 obtain ⟨I, hI⟩ : ∃ I : Int, I = (i : Int) := ⟨_, rfl⟩
 rw [← hI]
 have key := iter_down (f := f14.l1 C) (fun d vs w1 => ∃ (j : Nat) (J : Int), J = (j : Int) ∧ vs = [.pointer (some ⟨bb, 0, none⟩), .int .i64 I, .int .i64 J] ∧ j + d = n ∧ Sat W (blkA bb 26 [.slice LA N LC, M] * (rowA 28 1 (.slice LA N LC) N ls * (rowA 51 5 (.slice A n c) n (mks (evm I) j ++ (q.drop j).flatMap Ev.cs) * X))) w1)
  (fun r => ∃ w', r = .exit 4 [.pointer (some ⟨bb, 0, none⟩), .int .i64 I] w' ∧ Sat W (blkA bb 26 [.slice LA N LC, M] * (rowA 28 1 (.slice LA N LC) N ls * (rowA 51 5 (.slice A n c) n (mks (evm I) n) * X))) w') (by
   rintro d vs w1 ⟨j, J, hJ, rfl, hd, y⟩
   have c0 : w1.cell? ⟨bb, 0, none⟩ = some (.slice LA N LC) := y.cell 0 rfl
   have rL := Rd.own (y.eq (by ac_rfl : _ = rowA 28 1 (.slice LA N LC) N ls * (blkA bb 26 [.slice LA N LC, M] * (rowA 51 5 (.slice A n c) n (mks (evm I) j ++ (q.drop j).flatMap Ev.cs) * X)))).row
   obtain ⟨aL, iL, cL⟩ := row24_at (N := N) hls rL hi
   have iL := iL LC
   rw [← hI] at iL
   cases d with
   | zero =>
    have hlt : ¬ J < (n : Int) := by omega
    obtain rfl : j = n := by omega
    rw [List.drop_eq_nil_of_le (by omega)] at y
    simp only [List.flatMap_nil, List.append_nil] at y
    exact .inr ⟨_, by simp [f14.l1, addL, c0, iL, cL, hlt], ⟨w1, rfl, y⟩, by simp⟩
   | succ d =>
    have hlt : J < (n : Int) := by omega
    obtain ⟨w2, k2, g2⟩ := lmark_ok I (by omega) (by omega) w1.drew
    have y2 := y.drew.grown g2
    have c0' : w2.cell? ⟨bb, 0, none⟩ = some (.slice LA N LC) := y2.cell 0 rfl
    have rL2 := Rd.own (y2.eq (by ac_rfl : _ = rowA 28 1 (.slice LA N LC) N ls * (blkA bb 26 [.slice LA N LC, M] * (rowA 51 5 (.slice A n c) n (mks (evm I) j ++ (q.drop j).flatMap Ev.cs) * X)))).row
    obtain ⟨aL', iL', cL'⟩ := row24_at (N := N) hls rL2 hi
    have e0 : aL' = aL := by have := (iL' LC); rw [← hI, iL] at this; simpa using this.symm
    subst e0
    have y3 := y2.eq (by ac_rfl : _ = rowA 51 5 (.slice A n c) n (mks (evm I) j ++ (q.drop j).flatMap Ev.cs) * (blkA bb 26 [.slice LA N LC, M] * (rowA 28 1 (.slice LA N LC) N ls * X)))
    obtain ⟨a, w3, hA, _, k3, o3, g3⟩ := own_putAll (P := Zp) y3.row (t := 51) inf51 (j := j * 5) (v := (evm I).v) (vs := (evm I).cs) rfl (by rw [size51]; rfl) (by simp [Ev.cs]; omega) (by omega) (cs_one _)
    have hcs : (mks (evm I) j ++ (q.drop j).flatMap Ev.cs).take (j * 5) ++ (evm I).cs ++ (mks (evm I) j ++ (q.drop j).flatMap Ev.cs).drop (j * 5 + (evm I).cs.length) = mks (evm I) (j + 1) ++ (q.drop (j + 1)).flatMap Ev.cs := by
     rw [List.take_left' (mks_len _ _), mks_add]
     congr 1
     obtain ⟨e, r, hqd⟩ : ∃ e r, q.drop j = e :: r := by
      cases h : q.drop j with
      | nil => have := List.drop_eq_nil_iff.mp h; omega
      | cons e r => exact ⟨e, r, rfl⟩
     have hqd1 : q.drop (j + 1) = r := by rw [← Yd, hqd]; rfl
     rw [List.drop_append, mks_len, hqd1, hqd, List.flatMap_cons]
     rw [List.drop_eq_nil_of_le (by rw [mks_len]; simp [Ev.cs]), List.nil_append]
     have : j * 5 + (evm I).cs.length - j * 5 = e.cs.length := by simp [Ev.cs]
     rw [this, List.drop_left']
     rfl
    rw [hcs] at o3
    subst hA
    have y4 := y3.rowStep (v' := .slice (some a) n c) (by exact g3) o3 (fun k hk => .inl hk)
    have ix : Pq Zp (Zj 28 (.slice (some a) n c) (.int .i64 J)) = some (.pointer (some (a.add (j * 5)))) := by
     have := ix28 a n c .i64 J (by omega) hlt
     rw [hJ, Int.toNat_natCast] at this
     rw [hJ]; exact this
    obtain ⟨J2, hJ2⟩ : ∃ x : Int, x = ((j + 1 : Nat) : Int) := ⟨_, rfl⟩
    have e1 : IntKind.i64.wrap (J + 1) = J2 := (wrap_i64 (by omega) (by omega)).trans (by omega)
    refine .inl ⟨d, _, w3, by omega, ?_, ⟨j + 1, J2, hJ2, rfl, by omega, y4.eq (by ac_rfl)⟩⟩
    simp [f14.l1, addL, c0, iL, cL, hlt, k2, ix, k3, c0', cL', e1]) n _ w ⟨0, 0, rfl, rfl, by omega, by simpa [mks] using x⟩
 obtain ⟨r, h1, w', rfl, y⟩ := key
 exact ⟨w', h1, y⟩
theorem l2_14 {w : World} {bb N : Nat} {LA : Option Addr} {LC : Nat} {M : Value} {S : List Lk} (hS : S.length = N) (hN : N ≤ 100) (hst : ∀ (i : Nat) (a : Lk), S[i]? = some a → ∃ q : List Ev, a.cs = q.flatMap Ev.cs ∧ q.length = a.n ∧ a.n ≤ 300)
  (x : Sat W (blkA bb 26 [.slice LA N LC, M] * (rowA 28 1 (.slice LA N LC) N (S.map Lk.v) * (all lkA S * X))) w) :
  ∃ (w' : World) (S' : List Lk), iter (f14.l2 C) [.pointer (some ⟨bb, 0, none⟩), .int .i64 0] w = some (.exit 2 [.pointer (some ⟨bb, 0, none⟩)] w') ∧ S'.map Lk.v = S.map Lk.v ∧ (∀ (i : Nat) (a : Lk), S'[i]? = some a → a.cs = mks (evm (i : Int)) a.n ∧ a.n ≤ 300) ∧
   Sat W (blkA bb 26 [.slice LA N LC, M] * (rowA 28 1 (.slice LA N LC) N (S.map Lk.v) * (all lkA S' * X))) w' := by
 have key := iter_down (f := f14.l2 C) (fun d vs w1 => ∃ (i : Nat) (I : Int) (S' : List Lk), I = (i : Int) ∧ vs = [.pointer (some ⟨bb, 0, none⟩), .int .i64 I] ∧ i + d = N ∧ S'.map Lk.v = S.map Lk.v ∧ (∀ (k : Nat) (a : Lk), S'[k]? = some a → (k < i → a.cs = mks (evm (k : Int)) a.n ∧ a.n ≤ 300) ∧ (i ≤ k → S[k]? = some a)) ∧
   Sat W (blkA bb 26 [.slice LA N LC, M] * (rowA 28 1 (.slice LA N LC) N (S.map Lk.v) * (all lkA S' * X))) w1)
  (fun r => ∃ (w' : World) (S' : List Lk), r = .exit 2 [.pointer (some ⟨bb, 0, none⟩)] w' ∧ S'.map Lk.v = S.map Lk.v ∧ (∀ (i : Nat) (a : Lk), S'[i]? = some a → a.cs = mks (evm (i : Int)) a.n ∧ a.n ≤ 300) ∧
   Sat W (blkA bb 26 [.slice LA N LC, M] * (rowA 28 1 (.slice LA N LC) N (S.map Lk.v) * (all lkA S' * X))) w') (by
   rintro d vs w1 ⟨i, I, S', hI, rfl, hd, hm, hk, y⟩
   have c0 : w1.cell? ⟨bb, 0, none⟩ = some (.slice LA N LC) := y.cell 0 rfl
   have hlS : S'.length = N := by have := congrArg List.length hm; simpa [hS] using this
   cases d with
   | zero =>
    have hlt : ¬ I < (N : Int) := by omega
    refine .inr ⟨_, by simp [f14.l2, addL, c0, hlt], ⟨w1, S', rfl, hm, fun k a ha => ?_, y⟩, by simp⟩
    have := (List.getElem?_eq_some_iff.mp ha).1
    exact (hk k a ha).1 (by omega)
   | succ d =>
    have hlt : I < (N : Int) := by omega
    obtain ⟨a, ha⟩ : ∃ a, S'[i]? = some a := ⟨_, Yg (by omega)⟩
    obtain ⟨q, q1, q2, q3⟩ := hst i a ((hk i a ha).2 (Nat.le_refl _))
    have hls : (S.map Lk.v)[i]? = some (.slice a.A a.n a.c) := by rw [← hm, List.getElem?_map, ha]; rfl
    have y1 : Sat W (blkA bb 26 [.slice LA N LC, M] * (rowA 28 1 (.slice LA N LC) N (S.map Lk.v) * (rowA 51 5 (.slice a.A a.n a.c) a.n (q.flatMap Ev.cs) * (all lkA (S'.eraseIdx i) * X)))) w1 := by
     refine y.eq ?_
     rw [all_get _ ha]
     unfold lkA Lk.v
     rw [q1]
     ac_rfl
    obtain ⟨w2, k2, y2⟩ := l1_14 (by simp [hS]) hls hN q2 q3 y1
    rw [← hI] at k2
    have y3 : Sat W (blkA bb 26 [.slice LA N LC, M] * (rowA 28 1 (.slice LA N LC) N (S.map Lk.v) * (all lkA (S'.set i ⟨a.A, a.c, a.n, mks (evm (i : Int)) a.n⟩) * X))) w2 := by
     refine y2.eq ?_
     rw [all_set _ (by omega)]
     unfold lkA Lk.v
     ac_rfl
    obtain ⟨I2, hI2⟩ : ∃ x : Int, x = ((i + 1 : Nat) : Int) := ⟨_, rfl⟩
    have e1 : IntKind.i64.wrap (I + 1) = I2 := (wrap_i64 (by omega) (by omega)).trans (by omega)
    refine .inl ⟨d, _, w2, by omega, ?_, ⟨i + 1, I2, S'.set i ⟨a.A, a.c, a.n, mks (evm (i : Int)) a.n⟩, hI2, rfl, by omega, ?_, fun k b hb => ?_, y3⟩⟩
    ·simp [f14.l2, addL, c0, hlt, k2, e1]
    ·rw [List.map_set, hm]
     apply List.ext_getElem?
     intro j
     by_cases hj : i = j
     ·subst hj
      rw [List.getElem?_set_self (by simp [hS]; omega), hls]
      rfl
     ·rw [List.getElem?_set_ne hj]
    ·by_cases hki : i = k
     ·subst hki
      rw [List.getElem?_set_self (by omega)] at hb
      cases hb
      exact ⟨fun _ => ⟨rfl, q3⟩, fun h => by omega⟩
     ·rw [List.getElem?_set_ne hki] at hb
      exact ⟨fun h => (hk k b hb).1 (by omega), fun h => (hk k b hb).2 (by omega)⟩) N _ w ⟨0, 0, S, rfl, rfl, by omega, rfl, fun k a ha => ⟨fun h => by omega, fun _ => ha⟩, x⟩
 obtain ⟨r, h1, w', S', rfl, h2, h3, y⟩ := key
 exact ⟨w', S', h1, h2, h3, y⟩
end
section
variable {W : World} {X : Asn W.heap.size}
theorem l3_14 {w : World} {i : Int} (h0 : 0 ≤ i) (h1 : i ≤ 100) {Bs : List (Nat × Nat × Nat)} {v : Value} {n : Nat} (hn : n ≤ 300) (t0 v7 : Value) (hv : GoodM Bs v n) (x : Sat W (all (mblk (evm i)) Bs * X) w) :
  ∃ (v' : Value) (Bs' : List (Nat × Nat × Nat)) (w' : World), iter (f14.l3 C) [t0, v7, .int .i64 i, v, .int .i64 0] w = some (.exit 8 [t0, v7, .int .i64 i, v'] w') ∧ Sat W (all (mblk (evm i)) Bs' * X) w' ∧ GoodM Bs' v' (n + 20) ∧ BLe Bs Bs' := by
 have key := iter_down (f := f14.l3 C) (fun d vs w1 => ∃ (j : Nat) (J : Int) (v' : Value) (Bs' : List (Nat × Nat × Nat)), J = (j : Int) ∧ vs = [t0, v7, .int .i64 i, v', .int .i64 J] ∧ j + d = 20 ∧ Sat W (all (mblk (evm i)) Bs' * X) w1 ∧ GoodM Bs' v' (n + j) ∧ BLe Bs Bs')
  (fun r => ∃ (v' : Value) (Bs' : List (Nat × Nat × Nat)) (w' : World), r = .exit 8 [t0, v7, .int .i64 i, v'] w' ∧ Sat W (all (mblk (evm i)) Bs' * X) w' ∧ GoodM Bs' v' (n + 20) ∧ BLe Bs Bs') (by
   rintro d vs w1 ⟨j, J, v', Bs', hJ, rfl, hd, y, hg, hb⟩
   cases d with
   | zero =>
    have hlt : ¬ J < 20 := by omega
    obtain rfl : j = 20 := by omega
    exact .inr ⟨_, by simp [f14.l3, hlt], ⟨v', Bs', w1, rfl, y, hg, hb⟩, by simp⟩
   | succ d =>
    have hlt : J < 20 := by omega
    obtain ⟨w2, k2, g2⟩ := lmark_ok i h0 (by omega) w1
    have b3 := bs28 (evm i) w2
    have y3 := (y.grown g2).newBlk 51 (evm i).cs
    obtain ⟨w3, hw3⟩ : ∃ w3, w3 = w2.alloc (.cells (evm i).cs.toArray 51) := ⟨_, rfl⟩
    rw [← hw3] at b3 y3
    obtain ⟨v2, B2, w4, k4, y4, hg2, hb2⟩ := app_mark hg (by omega) (y3.eq (by ac_rfl : _ = all (mblk (evm i)) Bs' * (blkA w2.heap.size 51 (evm i).cs * X)))
    obtain ⟨J2, hJ2⟩ : ∃ x : Int, x = ((j + 1 : Nat) : Int) := ⟨_, rfl⟩
    have e1 : IntKind.i64.wrap (J + 1) = J2 := (wrap_i64 (by omega) (by omega)).trans (by omega)
    refine .inl ⟨d, _, w4, by omega, ?_, ⟨j + 1, J2, v2, B2, hJ2, rfl, by omega, y4.drop2, hg2, hb.trans hb2⟩⟩
    simp [f14.l3, hlt, k2, b3, k4, e1]) 20 _ w ⟨0, 0, v, Bs, rfl, rfl, by omega, x, hv, BLe.refl _⟩
 obtain ⟨r, k1, v', Bs', w', rfl, y, hg, hb⟩ := key
 exact ⟨v', Bs', w', k1, y, hg, hb⟩
theorem l4_14 {w : World} {i : Int} (h0 : 0 ≤ i) (h1 : i ≤ 100) {Bs : List (Nat × Nat × Nat)} {v : Value} {n : Nat} (hn : n ≤ 300) (t0 v7 g0 : Value) (hv : GoodM Bs v n) (x : Sat W (all (mblk (evm i)) Bs * X) w) :
  ∃ (v' : Value) (Bs' : List (Nat × Nat × Nat)) (w' : World), iter (f14.l4 C) [t0, v7, .int .i64 i, g0, v, .int .i64 0] w = some (.exit 10 [t0, v7, .int .i64 i, g0, v'] w') ∧ Sat W (all (mblk (evm i)) Bs' * X) w' ∧ GoodM Bs' v' (n + 80) ∧ BLe Bs Bs' := by
 have key := iter_down (f := f14.l4 C) (fun d vs w1 => ∃ (j : Nat) (J : Int) (v' : Value) (Bs' : List (Nat × Nat × Nat)), J = (j : Int) ∧ vs = [t0, v7, .int .i64 i, g0, v', .int .i64 J] ∧ j + d = 80 ∧ Sat W (all (mblk (evm i)) Bs' * X) w1 ∧ GoodM Bs' v' (n + j) ∧ BLe Bs Bs')
  (fun r => ∃ (v' : Value) (Bs' : List (Nat × Nat × Nat)) (w' : World), r = .exit 10 [t0, v7, .int .i64 i, g0, v'] w' ∧ Sat W (all (mblk (evm i)) Bs' * X) w' ∧ GoodM Bs' v' (n + 80) ∧ BLe Bs Bs') (by
   rintro d vs w1 ⟨j, J, v', Bs', hJ, rfl, hd, y, hg, hb⟩
   cases d with
   | zero =>
    have hlt : ¬ J < 80 := by omega
    obtain rfl : j = 80 := by omega
    exact .inr ⟨_, by simp [f14.l4, hlt], ⟨v', Bs', w1, rfl, y, hg, hb⟩, by simp⟩
   | succ d =>
    have hlt : J < 80 := by omega
    obtain ⟨w2, k2, g2⟩ := lmark_ok i h0 (by omega) w1
    have b3 := bs28 (evm i) w2
    have y3 := (y.grown g2).newBlk 51 (evm i).cs
    obtain ⟨w3, hw3⟩ : ∃ w3, w3 = w2.alloc (.cells (evm i).cs.toArray 51) := ⟨_, rfl⟩
    rw [← hw3] at b3 y3
    obtain ⟨v2, B2, w4, k4, y4, hg2, hb2⟩ := app_mark hg (by omega) (y3.eq (by ac_rfl : _ = all (mblk (evm i)) Bs' * (blkA w2.heap.size 51 (evm i).cs * X)))
    obtain ⟨J2, hJ2⟩ : ∃ x : Int, x = ((j + 1 : Nat) : Int) := ⟨_, rfl⟩
    have e1 : IntKind.i64.wrap (J + 1) = J2 := (wrap_i64 (by omega) (by omega)).trans (by omega)
    refine .inl ⟨d, _, w4, by omega, ?_, ⟨j + 1, J2, v2, B2, hJ2, rfl, by omega, y4.drop2, hg2, hb.trans hb2⟩⟩
    simp [f14.l4, hlt, k2, b3, k4, e1]) 80 _ w ⟨0, 0, v, Bs, rfl, rfl, by omega, x, hv, BLe.refl _⟩
 obtain ⟨r, k1, v', Bs', w', rfl, y, hg, hb⟩ := key
 exact ⟨v', Bs', w', k1, y, hg, hb⟩
structure Mk where
 v : Value
 n : Nat
 Bs : List (Nat × Nat × Nat)
 i : Nat
def mkA {base : Nat} (t : Mk) : Asn base := all (mblk (evm (t.i : Int))) t.Bs
theorem lks_mks : ∀ (S : List Lk) (k0 : Nat) (Y : Asn W.heap.size) (w : World), (∀ (i : Nat) (a : Lk), S[i]? = some a → a.cs = mks (evm ((k0 + i : Nat) : Int)) a.n ∧ a.n ≤ 300) → Sat W (all lkA S * Y) w →
  ∃ T : List Mk, T.map Mk.v = S.map Lk.v ∧ (∀ (i : Nat) (t : Mk), T[i]? = some t → t.i = k0 + i ∧ GoodM t.Bs t.v t.n ∧ t.n ≤ 300) ∧ Sat W (all mkA T * Y) w
 | [], k0, Y, w, _, x => ⟨[], rfl, fun i t h => by simp at h, x⟩
 | a :: S, k0, Y, w, h, x => by
  obtain ⟨ha, hn⟩ := h 0 a rfl
  rw [Nat.add_zero] at ha
  have x1 : Sat W (all lkA S * (lkA a * Y)) w := x.eq (by simp only [all]; ac_rfl)
  obtain ⟨T, t1, t2, x2⟩ := lks_mks S (k0 + 1) _ w (fun i b hb => by have := h (i + 1) b (by simpa using hb); rw [show k0 + 1 + i = k0 + (i + 1) by omega]; exact this) x1
  have x3 : Sat W (rowA 51 5 a.v a.n (mks (evm (k0 : Int)) a.n) * (all mkA T * Y)) w := x2.eq (by unfold lkA; rw [ha]; ac_rfl)
  have more : ∀ (t0 : Mk), t0.i = k0 ∧ GoodM t0.Bs t0.v t0.n ∧ t0.n ≤ 300 → ∀ (i : Nat) (t : Mk), (t0 :: T)[i]? = some t → t.i = k0 + i ∧ GoodM t.Bs t.v t.n ∧ t.n ≤ 300 := by
   intro t0 h0 i t ht
   cases i with
   | zero => simp at ht; subst ht; simpa using h0
   | succ i => have := t2 i t (by simpa using ht); rw [show k0 + (i + 1) = k0 + 1 + i by omega]; exact this
  rcases row_mblk x3 with ⟨h1, h2, x4⟩ | ⟨g, cap, h2, x4⟩
  ·refine ⟨⟨a.v, a.n, [], k0⟩ :: T, by simp [t1], more _ ⟨rfl, .inl ⟨h1, h2⟩, hn⟩, x4.eq ?_⟩
   simp only [all, mkA, emp_star]
  ·refine ⟨⟨a.v, a.n, [(g, cap, a.n)], k0⟩ :: T, by simp [t1], more _ ⟨rfl, .inr ⟨g, cap, a.n, h2, by simp, Nat.le_refl _⟩, hn⟩, x4.eq ?_⟩
   simp only [all, mkA, star_emp]
   ac_rfl
theorem push2_24 {w : World} {v : Value} {k : Nat} {xs : List Value} {A B : Option Addr} {n c m d : Nat} (x : Sat W (rowA 28 1 v k xs * X) w) (hk : k ≤ 1000) :
  ∃ v' w', Eq_ Zp (Yb #[24, 24] 24 #[v, .slice (some ⟨w.heap.size, 0, none⟩) 2 2]) (w.alloc (.cells #[.slice A n c, .slice B m d] 28)) = some (v', w') ∧ Sat W (rowA 28 1 v' (k + 2) (xs ++ [.slice A n c, .slice B m d]) * X) w' := by
 have x1 := x.alloc_ge (.cells #[.slice A n c, .slice B m d] 28)
 have r1 : Rd (w.alloc (.cells #[.slice A n c, .slice B m d] 28)) (some ⟨w.heap.size, 0, none⟩) [.slice A n c, .slice B m d] := by
  intro j u hj
  rw [addL, Nat.zero_add, World.cell?_alloc_new]
  simpa using hj
 obtain ⟨v', w', k1, k2, k3, k4⟩ := e_append2 (P := Zp) (ty := 24) Tryz.underlying24 inf28 zero28 size28 bytes28 rfl (by decide) x1.row (m := 2) (c := 2) (news := [.slice A n c, .slice B m d]) rfl r1 (fun h => by cases h) (by simp [Value.oneCell']) (by simp [maxLen]; omega) (by omega) x1.size
 exact ⟨v', w', k1, x1.rowStep k3 k2 k4⟩
end
theorem GoodM.form {Bs : List (Nat × Nat × Nat)} {v : Value} {n : Nat} (h : GoodM Bs v n) : ∃ A c, v = .slice A n c := by
 rcases h with ⟨rfl, rfl⟩ | ⟨g, cap, K, rfl, _, _⟩
 ·exact ⟨_, _, rfl⟩
 ·exact ⟨_, _, rfl⟩
structure MkOk (i : Nat) (Ls : List Value) (k : Nat) (t : Mk) : Prop where
 ix : t.i = k
 gd : GoodM t.Bs t.v t.n
 nl : t.n ≤ 300
 lg : k < i → ∃ g h, Ls[2 * k]? = some g ∧ Ls[2 * k + 1]? = some h ∧ GoodM t.Bs g (t.n + 20) ∧ GoodM t.Bs h (t.n + 80)
section
variable {W : World} {X : Asn W.heap.size}
abbrev bookE (bb N : Nat) (LA : Option Addr) (LC : Nat) (M v7 : Value) (i : Nat) (vs Ls : List Value) (T : List Mk) (X : Asn W.heap.size) : Asn W.heap.size :=
 blkA bb 26 [.slice LA N LC, M] * (rowA 28 1 (.slice LA N LC) N vs * (rowA 28 1 v7 (2 * i) Ls * (all mkA T * X)))
theorem l5_14 {w : World} {bb N : Nat} {LA : Option Addr} {LC : Nat} {M : Value} {vs : List Value} {T : List Mk} (hvs : T.map Mk.v = vs) (hT : T.length = N) (hN : N ≤ 100) (hok : ∀ (k : Nat) (t : Mk), T[k]? = some t → MkOk 0 [] k t)
  (x : Sat W (bookE bb N LA LC M (.slice none 0 0) 0 vs [] T X) w) :
  ∃ (w' : World) (v7 : Value) (Ls : List Value) (T' : List Mk), iter (f14.l5 C) [.pointer (some ⟨bb, 0, none⟩), .slice none 0 0, .int .i64 0] w = some (.exit 6 [.pointer (some ⟨bb, 0, none⟩), v7] w') ∧ T'.map Mk.v = vs ∧ (∀ (k : Nat) (t : Mk), T'[k]? = some t → MkOk N Ls k t) ∧ Ls.length = 2 * N ∧ Sat W (bookE bb N LA LC M v7 N vs Ls T' X) w' := by
 have key := iter_down (f := f14.l5 C) (fun d us w1 => ∃ (i : Nat) (I : Int) (v7 : Value) (Ls : List Value) (T' : List Mk), I = (i : Int) ∧ us = [.pointer (some ⟨bb, 0, none⟩), v7, .int .i64 I] ∧ i + d = N ∧ T'.map Mk.v = vs ∧ (∀ (k : Nat) (t : Mk), T'[k]? = some t → MkOk i Ls k t) ∧ Ls.length = 2 * i ∧ Sat W (bookE bb N LA LC M v7 i vs Ls T' X) w1)
  (fun r => ∃ (w' : World) (v7 : Value) (Ls : List Value) (T' : List Mk), r = .exit 6 [.pointer (some ⟨bb, 0, none⟩), v7] w' ∧ T'.map Mk.v = vs ∧ (∀ (k : Nat) (t : Mk), T'[k]? = some t → MkOk N Ls k t) ∧ Ls.length = 2 * N ∧ Sat W (bookE bb N LA LC M v7 N vs Ls T' X) w') (by
   rintro d us w1 ⟨i, I, v7, Ls, T', hI, rfl, hd, hm, hk, hL, y⟩
   have c0 : w1.cell? ⟨bb, 0, none⟩ = some (.slice LA N LC) := y.cell 0 rfl
   have hlT : T'.length = N := by have := congrArg List.length hm; rw [← hvs] at this; simpa [hT] using this
   have hvl : vs.length = N := by rw [← hm]; simpa using hlT
   cases d with
   | zero =>
    have hlt : ¬ I < (N : Int) := by omega
    obtain rfl : i = N := by omega
    exact .inr ⟨_, by simp [f14.l5, addL, c0, hlt], ⟨w1, v7, Ls, T', rfl, hm, hk, hL, y⟩, by simp⟩
   | succ d =>
    have hlt : I < (N : Int) := by omega
    obtain ⟨t, ht⟩ : ∃ t, T'[i]? = some t := ⟨_, Yg (by omega)⟩
    have ok := hk i t ht
    have hvi : vs[i]? = some t.v := by rw [← hm, List.getElem?_map, ht]; rfl
    have rowL : ∀ {u : World} {Y : Asn W.heap.size}, Sat W (blkA bb 26 [.slice LA N LC, M] * (rowA 28 1 (.slice LA N LC) N vs * Y)) u → Rd u LA vs := fun z => Rd.own z.swap.row
    obtain ⟨aL, iL, cL⟩ := row24_at hvl (rowL y) hvi
    have iL := iL LC
    rw [← hI] at iL
    have ti : (evm (t.i : Int)) = evm I := by rw [ok.ix, hI]
    have y1 : Sat W (all (mblk (evm I)) t.Bs * (blkA bb 26 [.slice LA N LC, M] * (rowA 28 1 (.slice LA N LC) N vs * (rowA 28 1 v7 (2 * i) Ls * (all mkA (T'.eraseIdx i) * X))))) w1 := y.eq (by unfold bookE; rw [all_get _ ht]; unfold mkA; rw [ti]; ac_rfl)
    obtain ⟨g, B1, w2, k2, y2, hg, hb1⟩ := l3_14 (i := I) (by omega) (by omega) ok.nl (.pointer (some ⟨bb, 0, none⟩)) v7 ok.gd y1
    have y2' : Sat W (blkA bb 26 [.slice LA N LC, M] * (rowA 28 1 (.slice LA N LC) N vs * (all (mblk (evm I)) B1 * (rowA 28 1 v7 (2 * i) Ls * (all mkA (T'.eraseIdx i) * X))))) w2 := y2.eq (by ac_rfl)
    have c02 : w2.cell? ⟨bb, 0, none⟩ = some (.slice LA N LC) := y2'.cell 0 rfl
    obtain ⟨aL2, iL2, cL2⟩ := row24_at hvl (rowL y2') hvi
    have iL2 := iL2 LC
    rw [← hI, iL] at iL2
    have e0 : aL2 = aL := by simpa using iL2.symm
    subst e0
    obtain ⟨h, B2, w3, k3, y3, hh, hb2⟩ := l4_14 (i := I) (by omega) (by omega) ok.nl (.pointer (some ⟨bb, 0, none⟩)) v7 g (ok.gd.mono hb1) y2
    obtain ⟨gA, gc, rfl⟩ := hg.form
    obtain ⟨hA, hc, rfl⟩ := hh.form
    have b4 := bs24_2 gA hA (t.n + 20) gc (t.n + 80) hc w3
    have y4 : Sat W (rowA 28 1 v7 (2 * i) Ls * (all (mblk (evm I)) B2 * (blkA bb 26 [.slice LA N LC, M] * (rowA 28 1 (.slice LA N LC) N vs * (all mkA (T'.eraseIdx i) * X))))) w3 := y3.eq (by ac_rfl)
    obtain ⟨v8, w4, k4, y5⟩ := push2_24 (A := gA) (n := t.n + 20) (c := gc) (B := hA) (m := t.n + 80) (d := hc) y4 (by omega)
    have y6 : Sat W (rowA 28 1 v8 (2 * (i + 1)) (Ls ++ [.slice gA (t.n + 20) gc, .slice hA (t.n + 80) hc]) * (all (mblk (evm I)) B2 * (blkA bb 26 [.slice LA N LC, M] * (rowA 28 1 (.slice LA N LC) N vs * (all mkA (T'.eraseIdx i) * X))))) w4 := y5
    obtain ⟨I2, hI2⟩ : ∃ x : Int, x = ((i + 1 : Nat) : Int) := ⟨_, rfl⟩
    have e1 : IntKind.i64.wrap (I + 1) = I2 := (wrap_i64 (by omega) (by omega)).trans (by omega)
    refine .inl ⟨d, _, w4, by omega, ?_, ⟨i + 1, I2, v8, Ls ++ [.slice gA (t.n + 20) gc, .slice hA (t.n + 80) hc], T'.set i ⟨t.v, t.n, B2, t.i⟩, hI2, rfl, by omega, ?_, fun k b hb => ?_, by simp [hL]; omega, ?_⟩⟩
    ·simp [f14.l5, addL, c0, hlt, iL, cL, k2, c02, cL2, k3, b4, k4, e1]
    ·rw [List.map_set, hm]
     apply List.ext_getElem?
     intro j
     by_cases hj : i = j
     ·subst hj
      rw [List.getElem?_set_self (by omega), hvi]
     ·rw [List.getElem?_set_ne hj]
    ·by_cases hki : i = k
     ·subst hki
      rw [List.getElem?_set_self (by omega)] at hb
      cases hb
      refine ⟨ok.ix, (ok.gd.mono hb1).mono hb2, ok.nl, fun _ => ⟨_, _, ?_, ?_, hg.mono hb2, hh⟩⟩
      ·rw [List.getElem?_append_right (by omega), hL, Nat.sub_self]; rfl
      ·rw [List.getElem?_append_right (by omega), hL, show 2 * i + 1 - 2 * i = 1 by omega]; rfl
     ·rw [List.getElem?_set_ne hki] at hb
      have okb := hk k b hb
      refine ⟨okb.ix, okb.gd, okb.nl, fun hlt2 => ?_⟩
      obtain ⟨g, h, q1, q2, q3, q4⟩ := okb.lg (by omega)
      exact ⟨g, h, by rw [Yf (List.getElem?_eq_some_iff.mp q1).1]; exact q1, by rw [Yf (List.getElem?_eq_some_iff.mp q2).1]; exact q2, q3, q4⟩
    ·refine y6.eq ?_
     unfold bookE
     rw [all_set _ (by omega)]
     have hmk : (mkA ⟨t.v, t.n, B2, t.i⟩ : Asn W.heap.size) = all (mblk (evm I)) B2 := by unfold mkA; rw [ti]
     rw [hmk]
     ac_rfl) N _ w ⟨0, 0, .slice none 0 0, [], T, rfl, rfl, by omega, hvs, hok, rfl, x⟩
 obtain ⟨r, h1, w', v7, Ls, T', rfl, h2, h3, h4, y⟩ := key
 exact ⟨w', v7, Ls, T', h1, h2, h3, h4, y⟩
theorem l6_14 {w : World} {bb N : Nat} {LA LA7 : Option Addr} {LC LC7 : Nat} {M : Value} {vs Ls : List Value} {T : List Mk} (hvs : T.map Mk.v = vs) (hT : T.length = N) (hN : N ≤ 100) (hL : Ls.length = 2 * N) (hok : ∀ (k : Nat) (t : Mk), T[k]? = some t → MkOk N Ls k t)
  (x : Sat W (bookE bb N LA LC M (.slice LA7 (2 * N) LC7) N vs Ls T X) w) :
  ∃ w', iter (f14.l6 C) [.pointer (some ⟨bb, 0, none⟩), .slice LA7 (2 * N) LC7, .int .i64 0] w = some (.exit 12 [] w') ∧ Sat W (bookE bb N LA LC M (.slice LA7 (2 * N) LC7) N vs Ls T X) w' := by
 have hvl : vs.length = N := by rw [← hvs]; simpa using hT
 have key := iter_down (f := f14.l6 C) (fun d us w1 => ∃ (i : Nat) (I : Int), I = (i : Int) ∧ us = [.pointer (some ⟨bb, 0, none⟩), .slice LA7 (2 * N) LC7, .int .i64 I] ∧ i + d = N ∧ Sat W (bookE bb N LA LC M (.slice LA7 (2 * N) LC7) N vs Ls T X) w1)
  (fun r => ∃ w', r = .exit 12 [] w' ∧ Sat W (bookE bb N LA LC M (.slice LA7 (2 * N) LC7) N vs Ls T X) w') (by
   rintro d us w1 ⟨i, I, hI, rfl, hd, y⟩
   have c0 : w1.cell? ⟨bb, 0, none⟩ = some (.slice LA N LC) := y.cell 0 rfl
   cases d with
   | zero =>
    have hlt : ¬ I < (N : Int) := by omega
    exact .inr ⟨_, by simp [f14.l6, addL, c0, hlt], ⟨w1, rfl, y⟩, by simp⟩
   | succ d =>
    have hlt : I < (N : Int) := by omega
    obtain ⟨t, ht⟩ : ∃ t, T[i]? = some t := ⟨_, Yg (by omega)⟩
    have ok := hok i t ht
    have hvi : vs[i]? = some t.v := by rw [← hvs, List.getElem?_map, ht]; rfl
    obtain ⟨g, h, q1, q2, q3, q4⟩ := ok.lg (by omega)
    have ti : (evm (t.i : Int)) = evm I := by rw [ok.ix, hI]
    have rowL : ∀ {u : World}, Sat W (bookE bb N LA LC M (.slice LA7 (2 * N) LC7) N vs Ls T X) u → Rd u LA vs := fun z => Rd.own z.swap.row
    have row7 : ∀ {u : World}, Sat W (bookE bb N LA LC M (.slice LA7 (2 * N) LC7) N vs Ls T X) u → Rd u LA7 Ls := fun z => Rd.own (z.eq (by unfold bookE; ac_rfl : _ = rowA 28 1 (.slice LA7 (2 * N) LC7) (2 * N) Ls * (blkA bb 26 [.slice LA N LC, M] * (rowA 28 1 (.slice LA N LC) N vs * (all mkA T * X))))).row
    have blks : ∀ {u : World}, Sat W (bookE bb N LA LC M (.slice LA7 (2 * N) LC7) N vs Ls T X) u → Sat W (all (mblk (evm I)) t.Bs * (blkA bb 26 [.slice LA N LC, M] * (rowA 28 1 (.slice LA N LC) N vs * (rowA 28 1 (.slice LA7 (2 * N) LC7) (2 * N) Ls * (all mkA (T.eraseIdx i) * X))))) u := fun z => z.eq (by unfold bookE; rw [all_get _ ht]; unfold mkA; rw [ti]; ac_rfl)
    obtain ⟨aL, iL, cL⟩ := row24_at hvl (rowL y) hvi
    have iL := iL LC
    rw [← hI] at iL
    obtain ⟨aG, iG, cG⟩ := row24_at hL (row7 y) q1
    obtain ⟨aH, iH, cH⟩ := row24_at hL (row7 y) q2
    have iG := iG LC7
    have iH := iH LC7
    obtain ⟨G, hG⟩ : ∃ x : Int, x = ((2 * i : Nat) : Int) := ⟨_, rfl⟩
    obtain ⟨H, hH⟩ : ∃ x : Int, x = ((2 * i + 1 : Nat) : Int) := ⟨_, rfl⟩
    rw [← hG] at iG
    rw [← hH] at iH
    have cellL : ∀ {u : World}, Sat W (bookE bb N LA LC M (.slice LA7 (2 * N) LC7) N vs Ls T X) u → u.cell? aL = some t.v := fun z => by
     obtain ⟨a', i', c'⟩ := row24_at hvl (rowL z) hvi
     have i' := i' LC
     rw [← hI, iL] at i'
     have : a' = aL := by simpa using i'.symm
     rw [← this]; exact c'
    have cellG : ∀ {u : World}, Sat W (bookE bb N LA LC M (.slice LA7 (2 * N) LC7) N vs Ls T X) u → u.cell? aG = some g := fun z => by
     obtain ⟨a', i', c'⟩ := row24_at hL (row7 z) q1
     have i' := i' LC7
     rw [← hG, iG] at i'
     have : a' = aG := by simpa using i'.symm
     rw [← this]; exact c'
    have cellH : ∀ {u : World}, Sat W (bookE bb N LA LC M (.slice LA7 (2 * N) LC7) N vs Ls T X) u → u.cell? aH = some h := fun z => by
     obtain ⟨a', i', c'⟩ := row24_at hL (row7 z) q2
     have i' := i' LC7
     rw [← hH, iH] at i'
     have : a' = aH := by simpa using i'.symm
     rw [← this]; exact c'
    -- the list
    obtain ⟨w2, k2, g2⟩ := lmark_ok I (by omega) (by omega) w1.drew
    have y2 := y.drew.grown g2
    have c02 : w2.cell? ⟨bb, 0, none⟩ = some (.slice LA N LC) := y2.cell 0 rfl
    have cL2 := cellL y2
    obtain ⟨A1, c1, f1, r1⟩ := ok.gd.rd (blks y2)
    obtain ⟨w3, k3, g3⟩ := full_ok (c := c1) r1 (by have := ok.nl; omega)
    rw [← f1] at k3
    have y3 := (y2.grown g3).drew
    have cG3' := cellG y3
    have cG3 : w3.cell? aG = some g := cG3'
    -- longer by 20
    obtain ⟨w4, k4, g4⟩ := lmark_ok I (by omega) (by omega) w3.drew
    have y4 := y3.grown g4
    have cG4 := cellG y4
    obtain ⟨A2, c2, f2, r2⟩ := q3.rd (blks y4)
    obtain ⟨w5, k5, g5⟩ := full_ok (c := c2) r2 (by have := ok.nl; omega)
    rw [← f2] at k5
    have y5 := (y4.grown g5).drew
    have cH5' := cellH y5
    have cH5 : w5.cell? aH = some h := cH5'
    -- longer by 80
    obtain ⟨w6, k6, g6⟩ := lmark_ok I (by omega) (by omega) w5.drew
    have y6 := y5.grown g6
    have cH6 := cellH y6
    obtain ⟨A3, c3, f3, r3⟩ := q4.rd (blks y6)
    obtain ⟨w7, k7, g7⟩ := full_ok (c := c3) r3 (by have := ok.nl; omega)
    rw [← f3] at k7
    have y7 := y6.grown g7
    obtain ⟨I2, hI2⟩ : ∃ x : Int, x = ((i + 1 : Nat) : Int) := ⟨_, rfl⟩
    have e1 : IntKind.i64.wrap (I + 1) = I2 := (wrap_i64 (by omega) (by omega)).trans (by omega)
    have e2 : IntKind.i64.wrap (2 * I) = G := (wrap_i64 (by omega) (by omega)).trans (by omega)
    have e3 : IntKind.i64.wrap (G + 1) = H := (wrap_i64 (by omega) (by omega)).trans (by omega)
    refine .inl ⟨d, _, w7, by omega, ?_, ⟨i + 1, I2, hI2, rfl, by omega, y7⟩⟩
    simp [f14.l6, addL, c0, hlt, iL, cL, k2, k3, c02, cL2, e2, iG, cG3, k4, k5, cG4, e3, iH, cH5, k6, k7, cH6, e1]) N _ w ⟨0, 0, rfl, rfl, by omega, x⟩
 obtain ⟨r, h1, w', rfl, y⟩ := key
 exact ⟨w', h1, y⟩
theorem ends_ok {w : World} {bb N : Nat} {L M : Value} {S T : List Lk} (hS : S.length = N) (hT : T.length = N) (hN : N ≤ 100) (hst : ∀ (i : Nat) (a b : Lk), S[i]? = some a → T[i]? = some b → Same2 a b ∧ a.n ≤ 300)
  (x : Sat W (blkA bb 26 [L, M] * (rowA 28 1 L N (S.map Lk.v) * (rowA 28 1 M N (T.map Lk.v) * (all lkA S * (all lkA T * X))))) w) :
  ∃ w', C 14 #[.pointer (some ⟨bb, 0, none⟩)] w = some (.bool true, w') ∧ W.grownBy w' none := by
 obtain ⟨LA, LC, rfl, _, _⟩ := own_form x.swap.row
 obtain ⟨MA, MC, rfl, _, _⟩ := own_form (x.eq (by ac_rfl : _ = rowA 28 1 M N (T.map Lk.v) * (blkA bb 26 [.slice LA N LC, M] * (rowA 28 1 (.slice LA N LC) N (S.map Lk.v) * (all lkA S * (all lkA T * X)))))).row
 obtain ⟨w1, k1, x1⟩ := l0_14 hS hT hN hst x
 have hst2 : ∀ (i : Nat) (a : Lk), S[i]? = some a → ∃ q : List Ev, a.cs = q.flatMap Ev.cs ∧ q.length = a.n ∧ a.n ≤ 300 := by
  intro i a ha
  have hi := (List.getElem?_eq_some_iff.mp ha).1
  obtain ⟨b, hb⟩ : ∃ b, T[i]? = some b := ⟨_, Yg (by omega)⟩
  obtain ⟨⟨q, q1, q2, q3, q4⟩, hn⟩ := hst i a b ha hb
  exact ⟨q, q1, q3, hn⟩
 obtain ⟨w2, S', k2, m2, s2, x2⟩ := l2_14 hS hN hst2 (x1.eq (by ac_rfl : _ = blkA bb 26 [.slice LA N LC, .slice MA N MC] * (rowA 28 1 (.slice LA N LC) N (S.map Lk.v) * (all lkA S * (rowA 28 1 (.slice MA N MC) N (T.map Lk.v) * (all lkA T * X))))))
 obtain ⟨U, u1, u2, x3⟩ := lks_mks S' 0 _ w2 (fun i a ha => by rw [Nat.zero_add]; exact s2 i a ha) (x2.eq (by ac_rfl : _ = all lkA S' * (blkA bb 26 [.slice LA N LC, .slice MA N MC] * (rowA 28 1 (.slice LA N LC) N (S.map Lk.v) * (rowA 28 1 (.slice MA N MC) N (T.map Lk.v) * (all lkA T * X))))))
 have hU : U.map Mk.v = S.map Lk.v := u1.trans m2
 have hUl : U.length = N := by have := congrArg List.length hU; simpa [hS] using this
 have x4 := (x3.nilRow 28 1)
 have x5 : Sat W (bookE bb N LA LC (.slice MA N MC) (.slice none 0 0) 0 (S.map Lk.v) [] U (rowA 28 1 (.slice MA N MC) N (T.map Lk.v) * (all lkA T * X))) w2 := x4.eq (by unfold bookE; rw [Nat.mul_zero]; ac_rfl)
 obtain ⟨w3, v7, Ls, T', k3, m3, s3, hL, x6⟩ := l5_14 hU hUl hN (fun k t ht => by obtain ⟨a, b, c⟩ := u2 k t ht; exact ⟨by omega, b, c, fun h => by omega⟩) x5
 have hTl : T'.length = N := by have := congrArg List.length m3; simpa [hS] using this
 obtain ⟨LA7, LC7, rfl, _, _⟩ := own_form (x6.eq (by unfold bookE; ac_rfl : _ = rowA 28 1 v7 (2 * N) Ls * (blkA bb 26 [.slice LA N LC, .slice MA N MC] * (rowA 28 1 (.slice LA N LC) N (S.map Lk.v) * (all mkA T' * (rowA 28 1 (.slice MA N MC) N (T.map Lk.v) * (all lkA T * X))))))).row
 obtain ⟨w4, k4, x7⟩ := l6_14 m3 hTl hN hL s3 x6
 refine ⟨w4, f14.run rfl ?_, grown_of x7⟩
 simp [f14, k1, k2, k3, k4]
end
theorem ev3R_z {t : List UInt8} {r : Int} {q : List Ev} {ws : List Wd} {ev : Ev} {a1 a5 a z : Int} (h : ev3R t r q ws ev a1 a5 = .error (a, z)) : z ≠ 0 := by
 unfold ev3R ev3E at h
 split at h
 ·cases h
 ·rename_i h1
  cases h
  split at h1
  ·cases h1; decide
  ·split at h1
   ·cases h1
   ·split at h1 <;> (cases h1; decide)
theorem ev2D_z {t s : List UInt8} {r f a1 i o a5 e a z : Int} {q : List Ev} {ws : List Wd} (h : ev2D t r q f a1 s i o a5 e ws = .error (a, z)) : z ≠ 0 := by
 unfold ev2D at h
 split at h
 ·exact ev3R_z h
 ·split at h
  ·rename_i hp; cases h; exact nextE_z hp
  ·exact ev3R_z h
theorem ev2B_z {x : Int × Int × Int × Int} {t s : List UInt8} {r f a1 i e a z : Int} {q : List Ev} {ws : List Wd} (h : ev2B x t r q f a1 s i e ws = .error (a, z)) : z ≠ 0 := by
 unfold ev2B at h
 split at h
 ·rename_i hp; cases h; exact nextE_z hp
 ·rename_i hp
  split at h
  ·simp [nextE] at hp
  ·split at h
   ·cases h; decide
   ·exact ev2D_z h
theorem ev2A_z {x : Int × Int × Int × Int} {t s : List UInt8} {r f a1 e a z : Int} {q : List Ev} {ws : List Wd} (h : ev2A x t r q f a1 s e ws = .error (a, z)) : z ≠ 0 := by
 unfold ev2A at h
 split at h
 ·rename_i hp; cases h; exact nextE_z hp
 ·rename_i hp
  split at h
  ·simp [nextE] at hp
  ·split at h
   ·cases h; decide
   ·exact ev2B_z h
theorem stepR_z {e a z : Int} {ws : List Wd} {sd : Option Cut} (h : stepR e ws sd = .error (a, z)) : z ≠ 0 := by
 unfold stepR at h
 cases sd with
 | none =>
  dsimp only at h
  cases hL : listR e ws with
  | error p =>
   rw [hL] at h
   cases h
   exact listR_z hL
  | ok d =>
   rw [hL] at h
   cases h
 | some d =>
  obtain ⟨t, r, q⟩ := d
  dsimp only at h
  cases hE : evR (xrOf r) t r q e ws with
  | ok ev =>
   rw [hE] at h
   cases h
  | error p =>
   rw [hE] at h
   cases h
   by_cases hq : q.length = 200
   ·unfold evR at hE
    rw [if_pos hq] at hE
    cases hE
    decide
   ·rw [evR_evN hq] at hE
    unfold evN at hE
    split at hE
    ·rename_i hn; cases hE; exact namedR_z hn
    ·exact ev2A_z hE
theorem parseGo_z : ∀ (n len p : Nat) (l : List UInt8) (sd : Option Cut) {a z : Int}, l.length < n → parseGo n len p l sd = .error (a, z) → z ≠ 0
 | 0, _, _, l, _, a, z, h, _ => by omega
 | n + 1, len, p, [], sd, a, z, _, h => by
  rw [parseGo_nil] at h
  cases sd with
  | none => cases h; decide
  | some c => cases h
 | n + 1, len, p, c :: l, sd, a, z, hl, h => by
  rw [parseGo_cons] at h
  simp only [Yc] at hl
  split at h
  ·exact parseGo_z n _ _ _ _ (by rw [Ye]; simp only [Yc]; omega) h
  ·split at h
   ·rename_i hp; cases h; exact stepR_z hp
   ·exact parseGo_z n _ _ _ _ (by rw [Ye]; simp only [Yc]; omega) h
theorem parse_z {s : List UInt8} {a z : Int} (h : parse s = .error (a, z)) : z ≠ 0 := by
 unfold parse at h
 split at h
 ·cases h; decide
 ·split at h
  ·cases h; decide
  ·exact parseGo_z _ _ _ _ _ (by omega) h
def lstOf (s : List UInt8) : Cut := match parse s with
 | .ok c => c
 | .error _ => ([], 0, [])
def errAt (s : List UInt8) : Int := match parse s with
 | .ok _ => 0
 | .error (a, _) => a
def errNo (s : List UInt8) : Int := match parse s with
 | .ok _ => 0
 | .error (_, z) => z
def errB {base : Nat} (s : List UInt8) (b : Nat) : Asn base := match parse s with
 | .ok _ => emp
 | .error (a, z) => blkA b 83 [.int .i64 a, .int .i64 z]
def errV (s : List UInt8) (b : Nat) : Value := match parse s with
 | .ok _ => .nilIface
 | .error _ => .iface 82 (.pointer (some ⟨b, 0, none⟩))
theorem build83 : Pq Zp (Zb 83 #[]) = some (.agg #[.int .i64 0, .int .i64 0]) := id (by kernel_rfl)
theorem eql82 (x y : Operand) (a : Addr) (w : World) : Rq Zp (do eqGuard .eql 82 x y (.pointer (some a)) (.pointer none); binOp .eql 82 (.pointer (some a)) (.pointer none)) w = some (.bool false) := id (by kernel_rfl)
theorem mk35 (z : Int) : Pq Zp (Instr.makeInterface 35 (.int .i64 z)) = some (.iface 35 (.int .i64 z)) := id (by kernel_rfl)
section
variable {W : World} {X : Asn W.heap.size}
theorem parse_all {w : World} (L : Lay W) (E : ErrVars W) (x : Sat W X w) (s : List UInt8) (hl : s.length ≤ 9223372036854775807) :
  ∃ A c b w', C 9 #[st s] w = some (.tuple #[cutV (lstOf s).1 (lstOf s).2.1 A (lstOf s).2.2.length c, errV s b], w') ∧ (lstOf s).2.2.length ≤ 200 ∧ Sat W (rowA 51 5 (.slice A (lstOf s).2.2.length c) (lstOf s).2.2.length ((lstOf s).2.2.flatMap Ev.cs) * (errB s b * X)) w' := by
 rcases parse_any L E x s hl with ⟨t, r, q, A, c, w', hp, F, k, y⟩ | ⟨a, z, b, w', hp, k, y⟩
 ·refine ⟨A, c, 0, w', ?_, ?_, ?_⟩
  ·unfold lstOf errV; rw [hp]; exact k
  ·unfold lstOf; rw [hp]; exact F.ql
  ·unfold lstOf errB; rw [hp, emp_star]; exact y
 ·refine ⟨none, 0, b, w', ?_, ?_, ?_⟩
  ·unfold lstOf errV; rw [hp]; exact k
  ·unfold lstOf; rw [hp]; simp
  ·unfold lstOf errB; rw [hp]; exact y.nilRow 51 5
theorem fault_all {w : World} (L : Lay W) (s : List UInt8) (b : Nat) (x : Sat W (errB s b * X) w) :
  ∃ w', C 12 #[errV s b, .int .i64 (errAt s), .int .i64 (errNo s)] w = some (.bool true, w') ∧ Sat W (errB s b * X) w' := by
 cases hp : parse s with
 | ok d =>
  have hv : errV s b = .nilIface := by unfold errV; rw [hp]
  have ha : errAt s = 0 := by unfold errAt; rw [hp]
  have hz : errNo s = 0 := by unfold errNo; rw [hp]
  rw [hv, ha, hz]
  exact ⟨w, f12.run rfl (by simp [f12]), x⟩
 | error pe =>
  obtain ⟨a, z⟩ := pe
  have hz0 := parse_z hp
  have hv : errV s b = .iface 82 (.pointer (some ⟨b, 0, none⟩)) := by unfold errV; rw [hp]
  have ha : errAt s = a := by unfold errAt; rw [hp]
  have hz : errNo s = z := by unfold errNo; rw [hp]
  have hB : (errB s b : Asn W.heap.size) = blkA b 83 [.int .i64 a, .int .i64 z] := by unfold errB; rw [hp]
  rw [hv, ha, hz]
  rw [hB] at x ⊢
  have x1 := x.newBlk 83 [.int .i64 0, .int .i64 0]
  have b1 : Eq_ Zp (Zo 83 (.agg #[.int .i64 0, .int .i64 0])) w = some (.pointer (some ⟨w.heap.size, 0, none⟩), w.alloc (.cells #[.int .i64 0, .int .i64 0] 83)) := rfl
  obtain ⟨w1, hw1⟩ : ∃ w1, w1 = w.alloc (.cells #[.int .i64 0, .int .i64 0] 83) := ⟨_, rfl⟩
  have x1 : Sat W (blkA w.heap.size 83 [.int .i64 0, .int .i64 0] * (blkA b 83 [.int .i64 a, .int .i64 z] * X)) w1 := hw1 ▸ x1
  rw [← hw1] at b1
  have x2 := x1.newBlk 82 [.pointer none]
  have a2 := alloc82 w1
  obtain ⟨w2, hw2⟩ : ∃ w2, w2 = w1.alloc (.cells #[.pointer none] 82) := ⟨_, rfl⟩
  have x2 : Sat W (blkA w1.heap.size 82 [.pointer none] * (blkA w.heap.size 83 [.int .i64 0, .int .i64 0] * (blkA b 83 [.int .i64 a, .int .i64 z] * X))) w2 := hw2 ▸ x2
  rw [← hw2] at a2
  obtain ⟨b7, hb7⟩ : ∃ b, b = w1.heap.size := ⟨_, rfl⟩
  obtain ⟨b0, hb0⟩ : ∃ b, b = w.heap.size := ⟨_, rfl⟩
  rw [← hb7] at x2 a2
  rw [← hb0] at x2 b1
  have k3 := x2.blk.store (P := Zp) (t := 82) (j := 0) (v := .pointer (some ⟨b0, 0, none⟩)) inf82 size82 (by simp) rfl rfl
  have x3 := x2.store 0 (.pointer (some ⟨b0, 0, none⟩)) (cs' := [.pointer (some ⟨b0, 0, none⟩)]) rfl
  obtain ⟨w3, hw3⟩ : ∃ w3, w3 = w2.setCell ⟨b7, 0, none⟩ (.pointer (some ⟨b0, 0, none⟩)) := ⟨_, rfl⟩
  rw [← hw3] at k3 x3
  have asn := asF_ok (e := ⟨b, 0, none⟩) (L.grown (grown_of x3)).h (x3.cell 0 rfl) (x3.frozen 0)
  have z1 := (((x3.alloc_ge (.cells #[.pointer (some ⟨b7, 0, none⟩)] 85)).alloc_ge (.cells #[.pointer (some ⟨15, 85, none⟩), .pointer (some ⟨w3.heap.size, 0, none⟩), .int .u64 150] 137)).alloc_ge (.cells #[.pointer (some ⟨15, 85, none⟩), .pointer (some ⟨w3.heap.size, 0, none⟩), .int .u64 150] 137)).alloc_ge (.cells #[.pointer (some ⟨b, 0, none⟩)] 82)
  have z2 := z1.store 0 (.pointer (some ⟨b, 0, none⟩)) (cs' := [.pointer (some ⟨b, 0, none⟩)]) rfl
  obtain ⟨w4, hw4⟩ : ∃ w4, w4 = asWF ⟨b, 0, none⟩ ⟨b7, 0, none⟩ w3 := ⟨_, rfl⟩
  have z2 : Sat W (blkA b7 82 [.pointer (some ⟨b, 0, none⟩)] * (blkA b0 83 [.int .i64 0, .int .i64 0] * (blkA b 83 [.int .i64 a, .int .i64 z] * X))) w4 := hw4 ▸ z2
  rw [← hw4] at asn
  have c7 : w4.cell? ⟨b7, 0, none⟩ = some (.pointer (some ⟨b, 0, none⟩)) := z2.cell 0 rfl
  have z3 := z2.eq (by ac_rfl : _ = blkA b 83 [.int .i64 a, .int .i64 z] * (blkA b7 82 [.pointer (some ⟨b, 0, none⟩)] * (blkA b0 83 [.int .i64 0, .int .i64 0] * X)))
  have d0 : w4.cell? ⟨b, 0, none⟩ = some (.int .i64 a) := z3.cell 0 rfl
  have d1 : w4.cell? ⟨b, 1, none⟩ = some (.int .i64 z) := z3.cell 1 rfl
  have isn := isF_ok (z := z) d1
  have eqp := fun x y => eql82 x y ⟨b, 0, none⟩ w4
  refine ⟨w4, f12.run rfl ?_, (z3.eq (by ac_rfl : _ = (blkA b7 82 [.pointer (some ⟨b, 0, none⟩)] * blkA b0 83 [.int .i64 0, .int .i64 0]) * (blkA b 83 [.int .i64 a, .int .i64 z] * X))).right⟩
  simp [f12, hz0, build83, b1, a2, k3, mk85, asn, c7, eqp, mk35, isn, addL, d0, d1]
end
open Go Go.Proofs
def f4.wann : WAnn := (.s .r (.s .r (.s .r (.s .r (.s .r (.s .r (.s .r (.s (.q 1) (.d [] (.s .z (.s .z (.s .z (.s .z (.s .z (.s .z (.s (.s .z (.c (.s .z .z) .z)) (.s .z (.s .z (.s .z (.s .z (.s .z .z)))))))))))))))))))))
noncomputable def f4.w (call : CallF) (Rt : List Value → World → Prop) (s0 : Value) (W0 : World) : Prop :=
 (okIf W0 (((call 8 #[] W0).bind fun r22 =>
 okIf W0 (((Pq Zp (Zb 26 #[])).bind fun v23 =>
 (Eq_ Zp (Zo 26 v23) r22.2).bind fun r24 =>
 okIf r22.2 (((call 9 #[s0] r24.2).bind fun r27 =>
 (Pq Zp (Zx r27.1 0)).bind fun v28 =>
 (Pq Zp (Zx r27.1 1)).bind fun v29 =>
 (Eq_ Zp (Za 30 true (.tuple #[])) r27.2).bind fun r5 =>
 (Eq_ Zp (Zs 30 r5.1 v28) r5.2).bind fun r =>
 okIf r24.2 (((call 9 #[s0] r.2).bind fun r32 =>
 (Pq Zp (Zx r32.1 0)).bind fun v33 =>
 (Pq Zp (Zx r32.1 1)).bind fun v34 =>
 (Eq_ Zp (Za 30 true (.tuple #[])) r32.2).bind fun r7 =>
 (Eq_ Zp (Zs 30 r7.1 v33) r7.2).bind fun r_1 =>
 okIf r.2 (((call 9 #[(Vs { data := #[108, 105, 115, 116, 32, 50, 52, 32, 34, 34, 10, 99, 117, 116, 32, 113, 32, 48, 48, 58, 48, 48, 58, 48, 48, 58, 48, 48, 32, 48, 48, 58, 48, 48, 58, 48, 48, 58, 48, 49, 10, 99, 117, 116, 32, 114, 32, 48, 48, 58, 48, 48, 58, 48, 48, 58, 48, 48, 32, 48, 48, 58, 48, 48, 58, 48, 48, 58, 48, 50, 10] })] r_1.2).bind fun r36 =>
 (Pq Zp (Zx r36.1 0)).bind fun v37 =>
 (Pq Zp (Zx r36.1 1)).bind fun v38 =>
 (Eq_ Zp (Za 30 true (.tuple #[])) r36.2).bind fun r9 =>
 (Eq_ Zp (Zs 30 r9.1 v37) r9.2).bind fun r_2 =>
 okIf r_1.2 (((call 9 #[s0] r_2.2).bind fun r41 =>
 (Pq Zp (Zx r41.1 0)).bind fun v42 =>
 (Pq Zp (Zx r41.1 1)).bind fun v43 =>
 (Eq_ Zp (Za 30 true (.tuple #[])) r41.2).bind fun r11 =>
 (Eq_ Zp (Zs 30 r11.1 v42) r11.2).bind fun r_3 =>
 okIf r_2.2 (true = true ∧ 1 < 10 ∧ (okIf r_3.2 (relF Zp 10 [s0].toArray r_3.2 fun r46 W1 =>
 ((Pq Zp (Zx r46 0)).bind fun v47 =>
 (Pq Zp (Zx r46 1)).bind fun v48 =>
 (Pq Zp (Zx r46 2)).bind fun v49 =>
 (Eq_ Zp (Za 30 true (.tuple #[])) W1).bind fun r13 =>
 (Eq_ Zp (Zs 30 r13.1 v47) r13.2).bind fun r_4 =>
 okIf r_3.2 (hold ((Rq Zp (Zl 30 r5.1) r_4.2).bind fun v50 =>
 (Rq Zp (Zl 30 r13.1) r_4.2).bind fun v51 =>
 (call 11 #[v50, v51] r_4.2).bind fun r52 =>
 (Rq Zp (Zl 30 r11.1) r52.2).bind fun v53 =>
 (Rq Zp (Zl 30 r13.1) r52.2).bind fun v54 =>
 (call 11 #[v53, v54] r52.2).bind fun r55 =>
 (call 12 #[v29, v49, v48] r55.2).bind fun r59 =>
 (call 12 #[v43, v49, v48] r59.2).bind fun r63 =>
 (Rq Zp (Zl 30 r7.1) r63.2).bind fun v64 =>
 (Rq Zp (Zl 30 r13.1) r63.2).bind fun v65 =>
 (call 11 #[v64, v65] r63.2).bind fun r66 =>
 (call 12 #[v34, v49, v48] r66.2).bind fun r70 =>
 (Pq Zp (Op.unary .not r22.1)).bind fun v72 =>
 (asB v72).bind fun b73 =>
 (if b73 = false then (Pq Zp (Op.unary .not r66.1)).bind fun v75 =>
  some (v75, r70.2)
  else some ((Vb true), r70.2)).bind fun r76 =>
 (asB r76.1).bind fun b77 =>
 (if b77 = false then (Pq Zp (Op.unary .not r70.1)).bind fun v79 =>
  some (v79, r76.2)
  else some ((Vb true), r76.2)).bind fun r80 =>
 (asB r80.1).bind fun b81 =>
 (if b81 = false then (Pq Zp (Op.unary .not r52.1)).bind fun v83 =>
  some (v83, r80.2)
  else some ((Vb true), r80.2)).bind fun r84 =>
 (asB r84.1).bind fun b85 =>
 (if b85 = false then (Pq Zp (Op.unary .not r55.1)).bind fun v87 =>
  some (v87, r84.2)
  else some ((Vb true), r84.2)).bind fun r88 =>
 (asB r88.1).bind fun b89 =>
 (if b89 = false then (Pq Zp (Op.unary .not r59.1)).bind fun v91 =>
  some (v91, r88.2)
  else some ((Vb true), r88.2)).bind fun r92 =>
 (asB r92.1).bind fun b93 =>
 (if b93 = false then (Pq Zp (Op.unary .not r63.1)).bind fun v95 =>
  some (v95, r92.2)
  else some ((Vb true), r92.2)).bind fun r96 =>
 (asB r96.1).bind fun b97 =>
 (if b97 = false then (Rq Zp (do eqGuard .neq 32 (Operand.tmp 98) (Operand.const Vn) v38 Vn; binOp .neq 32 v38 Vn) r96.2).bind fun v99 =>
  some (v99, r96.2)
  else some ((Vb true), r96.2)).bind fun r100 =>
 (asB r100.1).bind fun b101 =>
 (if b101 = false then (Pq Zp (Zf 30 r9.1 2)).bind fun v102 =>
  (Rq Zp (Zl 28 v102) r100.2).bind fun v103 =>
  (Pq Zp (Builtin.len_ #[28] 3 #[v103])).bind fun v104 =>
  (bin .neq v104 (Value.int IntKind.i64 2)).bind fun v105 =>
  some (v105, r100.2)
  else some ((Vb true), r100.2)).bind fun r106 =>
 (asB r106.1).bind fun c106 =>
 if c106 then
  some (Xr [(Vb false)] r106.2)
 else
 (Pq Zp (Zf 30 r5.1 2)).bind fun v108 =>
 (Rq Zp (Zl 28 v108) r106.2).bind fun v109 =>
 (call 13 #[r24.1, v109] r106.2).bind fun r110 =>
 (Pq Zp (Zf 30 r7.1 2)).bind fun v112 =>
 (Rq Zp (Zl 28 v112) r110.2).bind fun v113 =>
 (call 13 #[r24.1, v113] r110.2).bind fun r114 =>
 (Pq Zp (Zf 30 r9.1 2)).bind fun v116 =>
 (Rq Zp (Zl 28 v116) r114.2).bind fun v117 =>
 (call 13 #[r24.1, v117] r114.2).bind fun r118 =>
 (Pq Zp (Zf 30 r11.1 2)).bind fun v120 =>
 (Rq Zp (Zl 28 v120) r118.2).bind fun v121 =>
 (call 13 #[r24.1, v121] r118.2).bind fun r122 =>
 (call 14 #[r24.1] r122.2).bind fun r124 =>
 some (Xr [r124.1] r124.2)) (after Rt [] (fun _ _ => False)))) = some (.norm [] r_3.2))) = some (.norm [] r_3.2))) = some (.norm [] r_2.2))) = some (.norm [] r_1.2))) = some (.norm [] r.2))) = some (.norm [] r24.2))) = some (.norm [] r22.2))) = some (.norm [] W0))) = some (.norm [] W0)
theorem f4.weq (call : CallF) (Rt : List Value → World → Prop) (s0 : Value) (W0 : World) : wCode Zp call [2] Tryz.f4.ntmps Rt (Tryz.f4.body.getD .skip) f4.wann [] (ofArgs #[s0]) W0 (fun e w => hold (gets e [2]) fun vs => Rt vs w) = f4.w call Rt s0 W0 := by kernel_rfl
def otherT : List UInt8 := [108, 105, 115, 116, 32, 50, 52, 32, 34, 34, 10, 99, 117, 116, 32, 113, 32, 48, 48, 58, 48, 48, 58, 48, 48, 58, 48, 48, 32, 48, 48, 58, 48, 48, 58, 48, 48, 58, 48, 49, 10, 99, 117, 116, 32, 114, 32, 48, 48, 58, 48, 48, 58, 48, 48, 58, 48, 48, 32, 48, 48, 58, 48, 48, 58, 48, 48, 58, 48, 50, 10]
theorem other_parse : parse otherT = .ok ([], 1, [⟨[113], 0, 1, 0, []⟩, ⟨[114], 0, 2, 0, []⟩]) := by kernel_rfl
theorem enter10 (a : Value) (w : World) : (callFunc 10 #[a]).run Zp w = .ok (.enter 10 #[a]) w := by kernel_rfl
theorem build26 : Pq Zp (Zb 26 #[]) = some (.agg #[.slice none 0 0, .slice none 0 0]) := id (by kernel_rfl)
section
variable {W : World} {X : Asn W.heap.size}
theorem keepCut {w : World} (x : Sat W X w) (t : List UInt8) (r : Int) (A : Option Addr) (n c : Nat) :
  ∃ b w1 w2, Eq_ Zp (Za 30 true (.tuple #[])) w = some (.pointer (some ⟨b, 0, none⟩), w1) ∧ Eq_ Zp (Zs 30 (.pointer (some ⟨b, 0, none⟩)) (cutV t r A n c)) w1 = some ((), w2) ∧ Sat W (blkA b 30 [st t, .int .i64 r, .slice A n c] * X) w2 := by
 have x1 := x.newBlk 30 zcs
 have a1 := alloc30 w
 obtain ⟨w2, k2, x2⟩ := put_cut x1 rfl t r A n c
 exact ⟨_, _, w2, a1, k2, x2⟩
theorem same_all {w : World} {A B : Option Addr} {c d : Nat} {t : List UInt8} {r : Int} {q : List Ev} (hq : q.length ≤ 200)
  (x : Sat W (rowA 51 5 (.slice A q.length c) q.length (q.flatMap Ev.cs) * (rowA 51 5 (.slice B q.length d) q.length (q.flatMap Ev.cs) * X)) w) :
  ∃ w', C 11 #[cutV t r A q.length c, cutV t r B q.length d] w = some (.bool true, w') ∧ w.grownBy w' none :=
 same_ok (Rd.own x.row) (Rd.own x.swap.row) (by omega)
end
theorem parseQ_all {w w' : World} {s : List UInt8} {v : Value} (h : ParseQ w s v w') : w.grownBy w' none ∧ ∃ A c, v = .tuple #[cutV (lstOf s).1 (lstOf s).2.1 A (lstOf s).2.2.length c, .int .i64 (errNo s), .int .i64 (errAt s)] ∧ w'.ownsRow w.heap.size 51 5 (.slice A (lstOf s).2.2.length c) (lstOf s).2.2.length ((lstOf s).2.2.flatMap Ev.cs) := by
 obtain ⟨g, ⟨t, r, q, A, c, hp, F, rfl, own⟩ | ⟨a, z, hp, rfl⟩⟩ := h
 ·refine ⟨g, A, c, ?_, ?_⟩
  ·unfold lstOf errNo errAt; rw [hp]
  ·unfold lstOf; rw [hp]; exact own
 ·refine ⟨g, none, 0, ?_, ?_⟩
  ·unfold lstOf errNo errAt; rw [hp]; rfl
  ·unfold lstOf; rw [hp]; exact World.ownsRow_nil w' w.heap.size 51 5
noncomputable def t4 (call : CallF) (p5 p7 p9 p11 p13 al pb v29 v34 v38 v43 v48 v49 : Value) (Wt : World) : Option Res :=
 (Rq Zp (Zl 30 p5) Wt).bind fun v50 =>
 (Rq Zp (Zl 30 p13) Wt).bind fun v51 =>
 (call 11 #[v50, v51] Wt).bind fun r52 =>
 (Rq Zp (Zl 30 p11) r52.2).bind fun v53 =>
 (Rq Zp (Zl 30 p13) r52.2).bind fun v54 =>
 (call 11 #[v53, v54] r52.2).bind fun r55 =>
 (call 12 #[v29, v49, v48] r55.2).bind fun r59 =>
 (call 12 #[v43, v49, v48] r59.2).bind fun r63 =>
 (Rq Zp (Zl 30 p7) r63.2).bind fun v64 =>
 (Rq Zp (Zl 30 p13) r63.2).bind fun v65 =>
 (call 11 #[v64, v65] r63.2).bind fun r66 =>
 (call 12 #[v34, v49, v48] r66.2).bind fun r70 =>
 (Pq Zp (Op.unary .not al)).bind fun v72 =>
 (asB v72).bind fun b73 =>
 (if b73 = false then (Pq Zp (Op.unary .not r66.1)).bind fun v75 =>
  some (v75, r70.2)
  else some ((Vb true), r70.2)).bind fun r76 =>
 (asB r76.1).bind fun b77 =>
 (if b77 = false then (Pq Zp (Op.unary .not r70.1)).bind fun v79 =>
  some (v79, r76.2)
  else some ((Vb true), r76.2)).bind fun r80 =>
 (asB r80.1).bind fun b81 =>
 (if b81 = false then (Pq Zp (Op.unary .not r52.1)).bind fun v83 =>
  some (v83, r80.2)
  else some ((Vb true), r80.2)).bind fun r84 =>
 (asB r84.1).bind fun b85 =>
 (if b85 = false then (Pq Zp (Op.unary .not r55.1)).bind fun v87 =>
  some (v87, r84.2)
  else some ((Vb true), r84.2)).bind fun r88 =>
 (asB r88.1).bind fun b89 =>
 (if b89 = false then (Pq Zp (Op.unary .not r59.1)).bind fun v91 =>
  some (v91, r88.2)
  else some ((Vb true), r88.2)).bind fun r92 =>
 (asB r92.1).bind fun b93 =>
 (if b93 = false then (Pq Zp (Op.unary .not r63.1)).bind fun v95 =>
  some (v95, r92.2)
  else some ((Vb true), r92.2)).bind fun r96 =>
 (asB r96.1).bind fun b97 =>
 (if b97 = false then (Rq Zp (do eqGuard .neq 32 (Operand.tmp 98) (Operand.const Vn) v38 Vn; binOp .neq 32 v38 Vn) r96.2).bind fun v99 =>
  some (v99, r96.2)
  else some ((Vb true), r96.2)).bind fun r100 =>
 (asB r100.1).bind fun b101 =>
 (if b101 = false then (Pq Zp (Zf 30 p9 2)).bind fun v102 =>
  (Rq Zp (Zl 28 v102) r100.2).bind fun v103 =>
  (Pq Zp (Builtin.len_ #[28] 3 #[v103])).bind fun v104 =>
  (bin .neq v104 (Value.int IntKind.i64 2)).bind fun v105 =>
  some (v105, r100.2)
  else some ((Vb true), r100.2)).bind fun r106 =>
 (asB r106.1).bind fun c106 =>
 if c106 then
  some (Xr [(Vb false)] r106.2)
 else
 (Pq Zp (Zf 30 p5 2)).bind fun v108 =>
 (Rq Zp (Zl 28 v108) r106.2).bind fun v109 =>
 (call 13 #[pb, v109] r106.2).bind fun r110 =>
 (Pq Zp (Zf 30 p7 2)).bind fun v112 =>
 (Rq Zp (Zl 28 v112) r110.2).bind fun v113 =>
 (call 13 #[pb, v113] r110.2).bind fun r114 =>
 (Pq Zp (Zf 30 p9 2)).bind fun v116 =>
 (Rq Zp (Zl 28 v116) r114.2).bind fun v117 =>
 (call 13 #[pb, v117] r114.2).bind fun r118 =>
 (Pq Zp (Zf 30 p11 2)).bind fun v120 =>
 (Rq Zp (Zl 28 v120) r118.2).bind fun v121 =>
 (call 13 #[pb, v121] r118.2).bind fun r122 =>
 (call 14 #[pb] r122.2).bind fun r124 =>
 some (Xr [r124.1] r124.2)
theorem f4.parts (call : CallF) (Rt : List Value → World → Prop) (s0 : Value) (W0 : World) : f4.w call Rt s0 W0 = (
 (okIf W0 (((call 8 #[] W0).bind fun r22 =>
 okIf W0 (((Pq Zp (Zb 26 #[])).bind fun v23 =>
 (Eq_ Zp (Zo 26 v23) r22.2).bind fun r24 =>
 okIf r22.2 (((call 9 #[s0] r24.2).bind fun r27 =>
 (Pq Zp (Zx r27.1 0)).bind fun v28 =>
 (Pq Zp (Zx r27.1 1)).bind fun v29 =>
 (Eq_ Zp (Za 30 true (.tuple #[])) r27.2).bind fun r5 =>
 (Eq_ Zp (Zs 30 r5.1 v28) r5.2).bind fun r =>
 okIf r24.2 (((call 9 #[s0] r.2).bind fun r32 =>
 (Pq Zp (Zx r32.1 0)).bind fun v33 =>
 (Pq Zp (Zx r32.1 1)).bind fun v34 =>
 (Eq_ Zp (Za 30 true (.tuple #[])) r32.2).bind fun r7 =>
 (Eq_ Zp (Zs 30 r7.1 v33) r7.2).bind fun r_1 =>
 okIf r.2 (((call 9 #[(Vs { data := #[108, 105, 115, 116, 32, 50, 52, 32, 34, 34, 10, 99, 117, 116, 32, 113, 32, 48, 48, 58, 48, 48, 58, 48, 48, 58, 48, 48, 32, 48, 48, 58, 48, 48, 58, 48, 48, 58, 48, 49, 10, 99, 117, 116, 32, 114, 32, 48, 48, 58, 48, 48, 58, 48, 48, 58, 48, 48, 32, 48, 48, 58, 48, 48, 58, 48, 48, 58, 48, 50, 10] })] r_1.2).bind fun r36 =>
 (Pq Zp (Zx r36.1 0)).bind fun v37 =>
 (Pq Zp (Zx r36.1 1)).bind fun v38 =>
 (Eq_ Zp (Za 30 true (.tuple #[])) r36.2).bind fun r9 =>
 (Eq_ Zp (Zs 30 r9.1 v37) r9.2).bind fun r_2 =>
 okIf r_1.2 (((call 9 #[s0] r_2.2).bind fun r41 =>
 (Pq Zp (Zx r41.1 0)).bind fun v42 =>
 (Pq Zp (Zx r41.1 1)).bind fun v43 =>
 (Eq_ Zp (Za 30 true (.tuple #[])) r41.2).bind fun r11 =>
 (Eq_ Zp (Zs 30 r11.1 v42) r11.2).bind fun r_3 =>
 okIf r_2.2 (true = true ∧ 1 < 10 ∧ (okIf r_3.2 (relF Zp 10 [s0].toArray r_3.2 fun r46 W1 =>
 ((Pq Zp (Zx r46 0)).bind fun v47 =>
 (Pq Zp (Zx r46 1)).bind fun v48 =>
 (Pq Zp (Zx r46 2)).bind fun v49 =>
 (Eq_ Zp (Za 30 true (.tuple #[])) W1).bind fun r13 =>
 (Eq_ Zp (Zs 30 r13.1 v47) r13.2).bind fun r_4 =>
 okIf r_3.2 (hold (t4 call r5.1 r7.1 r9.1 r11.1 r13.1 r22.1 r24.1 v29 v34 v38 v43 v48 v49 r_4.2) (after Rt [] (fun _ _ => False)))) = some (.norm [] r_3.2))) = some (.norm [] r_3.2))) = some (.norm [] r_2.2))) = some (.norm [] r_1.2))) = some (.norm [] r.2))) = some (.norm [] r24.2))) = some (.norm [] r22.2))) = some (.norm [] W0))) = some (.norm [] W0)) := rfl
section
variable {W : World}
theorem pR {w : World} {t : List UInt8} {r : Int} {q : List Ev} {A B : Option Addr} {c d : Nat} {R R' Z : Asn W.heap.size} (hR : R = rowA 51 5 (.slice A q.length c) q.length (q.flatMap Ev.cs)) (hR' : R' = rowA 51 5 (.slice B q.length d) q.length (q.flatMap Ev.cs)) (hq : q.length ≤ 200) (x : Sat W (R * (R' * Z)) w) :
  ∃ w', C 11 #[cutV t r A q.length c, cutV t r B q.length d] w = some (.bool true, w') ∧ Sat W (R * (R' * Z)) w' := by
 subst hR; subst hR'
 obtain ⟨w', k, g⟩ := same_all (t := t) (r := r) hq x
 exact ⟨w', k, x.grown g⟩
theorem pF {w : World} (L : Lay W) {s : List UInt8} {b : Nat} {F Z : Asn W.heap.size} (hF : F = errB s b) (x : Sat W (F * Z) w) :
  ∃ w', C 12 #[errV s b, .int .i64 (errAt s), .int .i64 (errNo s)] w = some (.bool true, w') ∧ Sat W (F * Z) w' := by
 subst hF
 exact fault_all L s b x
theorem pL {w : World} {b n c : Nat} {t : List UInt8} {r : Int} {A : Option Addr} {B Z : Asn W.heap.size} (hB : B = blkA b 30 [st t, .int .i64 r, .slice A n c]) (x : Sat W (B * Z) w) :
  Rq Zp (Zl 30 (.pointer (some ⟨b, 0, none⟩))) w = some (cutV t r A n c) := by
 subst hB
 exact ld_cut x
theorem pC {w : World} {b n c : Nat} {t : List UInt8} {r : Int} {A : Option Addr} {B Z : Asn W.heap.size} (hB : B = blkA b 30 [st t, .int .i64 r, .slice A n c]) (x : Sat W (B * Z) w) :
  w.cell? ⟨b, 2, none⟩ = some (.slice A n c) := by
 subst hB
 exact x.cell 2 rfl
theorem pK {w : World} {bb k k' n c : Nat} {L M : Value} {A : Option Addr} {ls us : List Value} {q : List Ev} {BB U V R Z : Asn W.heap.size} (hn : q.length = n) (hk : k ≤ 100) (hq : n ≤ 300) (hk' : k' = k + 1)
  (hB : BB = blkA bb 26 [L, M]) (hU : U = rowA 28 1 L k ls) (hV : V = rowA 28 1 M k us) (hR : R = rowA 51 5 (.slice A n c) n (q.flatMap Ev.cs)) (x : Sat W (BB * (U * (V * (R * Z)))) w) :
  ∃ r L' M' B d w', C 13 #[.pointer (some ⟨bb, 0, none⟩), .slice A n c] w = some (r, w') ∧ ∃ BB' U' V' N : Asn W.heap.size, BB' = blkA bb 26 [L', M'] ∧ U' = rowA 28 1 L' k' (ls ++ [.slice A n c]) ∧ V' = rowA 28 1 M' k' (us ++ [.slice B n d]) ∧ N = rowA 51 5 (.slice B n d) n (q.flatMap Ev.cs) ∧
   Sat W (BB' * (U' * (V' * (R * (N * Z))))) w' := by
 subst hB; subst hU; subst hV; subst hR; subst hk'
 obtain ⟨r, L', M', B, d, w', k1, x1⟩ := keep_ok hn hk hq x
 exact ⟨r, L', M', B, d, w', k1, _, _, _, _, rfl, rfl, rfl, rfl, x1⟩
theorem tail4 {w : World} (L : Lay W) {s t ot : List UInt8} {r or : Int} {q oq : List Ev} (hq : q.length ≤ 200) (ho : oq.length = 2) {b5 b7 b9 b11 b13 bb e5 e7 e11 : Nat} {A5 A7 A9 A11 A13 : Option Addr} {c5 c7 c9 c11 c13 : Nat} {B5 R5 F5 B7 R7 F7 B9 R9 B11 R11 F11 B13 R13 BB U V X : Asn W.heap.size}
  (hB5 : B5 = blkA b5 30 [st t, .int .i64 r, .slice A5 q.length c5]) (hR5 : R5 = rowA 51 5 (.slice A5 q.length c5) q.length (q.flatMap Ev.cs))
  (hB7 : B7 = blkA b7 30 [st t, .int .i64 r, .slice A7 q.length c7]) (hR7 : R7 = rowA 51 5 (.slice A7 q.length c7) q.length (q.flatMap Ev.cs))
  (hB11 : B11 = blkA b11 30 [st t, .int .i64 r, .slice A11 q.length c11]) (hR11 : R11 = rowA 51 5 (.slice A11 q.length c11) q.length (q.flatMap Ev.cs))
  (hB13 : B13 = blkA b13 30 [st t, .int .i64 r, .slice A13 q.length c13]) (hR13 : R13 = rowA 51 5 (.slice A13 q.length c13) q.length (q.flatMap Ev.cs))
  (hB9 : B9 = blkA b9 30 [st ot, .int .i64 or, .slice A9 2 c9]) (hR9 : R9 = rowA 51 5 (.slice A9 2 c9) 2 (oq.flatMap Ev.cs))
  (hF5 : F5 = errB s e5)    (hF7 : F7 = errB s e7)    (hF11 : F11 = errB s e11)
  (hBB : BB = blkA bb 26 [.slice none 0 0, .slice none 0 0]) (hU : U = rowA 28 1 (.slice none 0 0) 0 []) (hV : V = rowA 28 1 (.slice none 0 0) 0 [])
  (x : Sat W (B5 * (R5 * (F5 * (B7 * (R7 * (F7 * (B9 * (R9 * (B11 * (R11 * (F11 * (B13 * (R13 * (BB * (U * (V * X)))))))))))))))) w) :
  ∃ w', t4 C (.pointer (some ⟨b5, 0, none⟩)) (.pointer (some ⟨b7, 0, none⟩)) (.pointer (some ⟨b9, 0, none⟩)) (.pointer (some ⟨b11, 0, none⟩)) (.pointer (some ⟨b13, 0, none⟩)) (.bool true) (.pointer (some ⟨bb, 0, none⟩)) (errV s e5) (errV s e7) .nilIface (errV s e11) (.int .i64 (errNo s)) (.int .i64 (errAt s)) w = some (.ret [.bool true] w') ∧ W.grownBy w' none := by
 have l0_5 := pL hB5 (x.eq (by ac_rfl : _ = B5 * (R5 * (F5 * (B7 * (R7 * (F7 * (B9 * (R9 * (B11 * (R11 * (F11 * (B13 * (R13 * (BB * (U * (V * X)))))))))))))))))
 have l0_13 := pL hB13 (x.eq (by ac_rfl : _ = B13 * (B5 * (R5 * (F5 * (B7 * (R7 * (F7 * (B9 * (R9 * (B11 * (R11 * (F11 * (R13 * (BB * (U * (V * X)))))))))))))))))
 obtain ⟨w1, k1, x1⟩ := pR (t := t) (r := r) hR5 hR13 hq (x.eq (by ac_rfl : _ = R5 * (R13 * (B5 * (F5 * (B7 * (R7 * (F7 * (B9 * (R9 * (B11 * (R11 * (F11 * (B13 * (BB * (U * (V * X)))))))))))))))))
 have l1_11 := pL hB11 (x1.eq (by ac_rfl : _ = B11 * (B5 * (R5 * (F5 * (B7 * (R7 * (F7 * (B9 * (R9 * (R11 * (F11 * (B13 * (R13 * (BB * (U * (V * X)))))))))))))))))
 have l1_13 := pL hB13 (x1.eq (by ac_rfl : _ = B13 * (B5 * (R5 * (F5 * (B7 * (R7 * (F7 * (B9 * (R9 * (B11 * (R11 * (F11 * (R13 * (BB * (U * (V * X)))))))))))))))))
 obtain ⟨w2, k2, x2⟩ := pR (t := t) (r := r) hR11 hR13 hq (x1.eq (by ac_rfl : _ = R11 * (R13 * (B5 * (R5 * (F5 * (B7 * (R7 * (F7 * (B9 * (R9 * (B11 * (F11 * (B13 * (BB * (U * (V * X)))))))))))))))))
 obtain ⟨w3, k3, x3⟩ := pF L hF5 (x2.eq (by ac_rfl : _ = F5 * (B5 * (R5 * (B7 * (R7 * (F7 * (B9 * (R9 * (B11 * (R11 * (F11 * (B13 * (R13 * (BB * (U * (V * X)))))))))))))))))
 obtain ⟨w4, k4, x4⟩ := pF L hF11 (x3.eq (by ac_rfl : _ = F11 * (B5 * (R5 * (F5 * (B7 * (R7 * (F7 * (B9 * (R9 * (B11 * (R11 * (B13 * (R13 * (BB * (U * (V * X)))))))))))))))))
 have l4_7 := pL hB7 (x4.eq (by ac_rfl : _ = B7 * (B5 * (R5 * (F5 * (R7 * (F7 * (B9 * (R9 * (B11 * (R11 * (F11 * (B13 * (R13 * (BB * (U * (V * X)))))))))))))))))
 have l4_13 := pL hB13 (x4.eq (by ac_rfl : _ = B13 * (B5 * (R5 * (F5 * (B7 * (R7 * (F7 * (B9 * (R9 * (B11 * (R11 * (F11 * (R13 * (BB * (U * (V * X)))))))))))))))))
 obtain ⟨w5, k5, x5⟩ := pR (t := t) (r := r) hR7 hR13 hq (x4.eq (by ac_rfl : _ = R7 * (R13 * (B5 * (R5 * (F5 * (B7 * (F7 * (B9 * (R9 * (B11 * (R11 * (F11 * (B13 * (BB * (U * (V * X)))))))))))))))))
 obtain ⟨w6, k6, x6⟩ := pF L hF7 (x5.eq (by ac_rfl : _ = F7 * (B5 * (R5 * (F5 * (B7 * (R7 * (B9 * (R9 * (B11 * (R11 * (F11 * (B13 * (R13 * (BB * (U * (V * X)))))))))))))))))
 have l6_9 := pC hB9 (x6.eq (by ac_rfl : _ = B9 * (B5 * (R5 * (F5 * (B7 * (R7 * (F7 * (R9 * (B11 * (R11 * (F11 * (B13 * (R13 * (BB * (U * (V * X)))))))))))))))))
 have l6_5 := pC hB5 (x6.eq (by ac_rfl : _ = B5 * (R5 * (F5 * (B7 * (R7 * (F7 * (B9 * (R9 * (B11 * (R11 * (F11 * (B13 * (R13 * (BB * (U * (V * X)))))))))))))))))
 obtain ⟨v7, L7, M7, N7, d7, w7, k7, BB7, U7, V7, T7, hBB7, hU7, hV7, hT7, x7⟩ := pK (k := 0) (k' := 1) rfl (by omega) (by omega) rfl hBB hU hV hR5 (x6.eq (by ac_rfl : _ = BB * (U * (V * (R5 * (B5 * (F5 * (B7 * (R7 * (F7 * (B9 * (R9 * (B11 * (R11 * (F11 * (B13 * (R13 * X)))))))))))))))))
 have l7_7 := pC hB7 (x7.eq (by ac_rfl : _ = B7 * (BB7 * (U7 * (V7 * (T7 * (B5 * (R5 * (F5 * (R7 * (F7 * (B9 * (R9 * (B11 * (R11 * (F11 * (B13 * (R13 * X))))))))))))))))))
 obtain ⟨v8, L8, M8, N8, d8, w8, k8, BB8, U8, V8, T8, hBB8, hU8, hV8, hT8, x8⟩ := pK (k := 1) (k' := 2) rfl (by omega) (by omega) rfl hBB7 hU7 hV7 hR7 (x7.eq (by ac_rfl : _ = BB7 * (U7 * (V7 * (R7 * (T7 * (B5 * (R5 * (F5 * (B7 * (F7 * (B9 * (R9 * (B11 * (R11 * (F11 * (B13 * (R13 * X))))))))))))))))))
 have l8_9 := pC hB9 (x8.eq (by ac_rfl : _ = B9 * (BB8 * (U8 * (V8 * (T8 * (T7 * (B5 * (R5 * (F5 * (B7 * (R7 * (F7 * (R9 * (B11 * (R11 * (F11 * (B13 * (R13 * X)))))))))))))))))))
 obtain ⟨v9, L9, M9, N9, d9, w9, k9, BB9, U9, V9, T9, hBB9, hU9, hV9, hT9, x9⟩ := pK (k := 2) (k' := 3) ho (by omega) (by omega) rfl hBB8 hU8 hV8 hR9 (x8.eq (by ac_rfl : _ = BB8 * (U8 * (V8 * (R9 * (T8 * (T7 * (B5 * (R5 * (F5 * (B7 * (R7 * (F7 * (B9 * (B11 * (R11 * (F11 * (B13 * (R13 * X)))))))))))))))))))
 have l9_11 := pC hB11 (x9.eq (by ac_rfl : _ = B11 * (BB9 * (U9 * (V9 * (T9 * (T8 * (T7 * (B5 * (R5 * (F5 * (B7 * (R7 * (F7 * (B9 * (R9 * (R11 * (F11 * (B13 * (R13 * X))))))))))))))))))))
 obtain ⟨v10, L10, M10, N10, d10, w10, k10, BB10, U10, V10, T10, hBB10, hU10, hV10, hT10, x10⟩ := pK (k := 3) (k' := 4) rfl (by omega) (by omega) rfl hBB9 hU9 hV9 hR11 (x9.eq (by ac_rfl : _ = BB9 * (U9 * (V9 * (R11 * (T9 * (T8 * (T7 * (B5 * (R5 * (F5 * (B7 * (R7 * (F7 * (B9 * (R9 * (B11 * (F11 * (B13 * (R13 * X))))))))))))))))))))
 have y := x10.eq (by ac_rfl : _ = BB10 * (U10 * (V10 * ((R5 * (R7 * (R9 * R11))) * ((T7 * (T8 * (T9 * T10))) * (B5 * (F5 * (B7 * (F7 * (B9 * (B11 * (F11 * (B13 * (R13 * X))))))))))))))
 have eS : all (base := W.heap.size) lkA ([⟨A5, c5, q.length, q.flatMap Ev.cs⟩, ⟨A7, c7, q.length, q.flatMap Ev.cs⟩, ⟨A9, c9, 2, oq.flatMap Ev.cs⟩, ⟨A11, c11, q.length, q.flatMap Ev.cs⟩] : List Lk) = R5 * (R7 * (R9 * R11)) := by simp only [all, star_emp, lkA, Lk.v, hR5, hR7, hR9, hR11]
 have eT : all (base := W.heap.size) lkA ([⟨N7, d7, q.length, q.flatMap Ev.cs⟩, ⟨N8, d8, q.length, q.flatMap Ev.cs⟩, ⟨N9, d9, 2, oq.flatMap Ev.cs⟩, ⟨N10, d10, q.length, q.flatMap Ev.cs⟩] : List Lk) = T7 * (T8 * (T9 * T10)) := by simp only [all, star_emp, lkA, Lk.v, hT7, hT8, hT9, hT10]
 rw [← eS, ← eT, hBB10, hU10, hV10] at y
 obtain ⟨wz, kz, gz⟩ := ends_ok (N := 4) (S := [⟨A5, c5, q.length, q.flatMap Ev.cs⟩, ⟨A7, c7, q.length, q.flatMap Ev.cs⟩, ⟨A9, c9, 2, oq.flatMap Ev.cs⟩, ⟨A11, c11, q.length, q.flatMap Ev.cs⟩]) (T := [⟨N7, d7, q.length, q.flatMap Ev.cs⟩, ⟨N8, d8, q.length, q.flatMap Ev.cs⟩, ⟨N9, d9, 2, oq.flatMap Ev.cs⟩, ⟨N10, d10, q.length, q.flatMap Ev.cs⟩]) rfl rfl (by omega) (fun i a b ha hb => by
  match i, ha, hb with
  | 0, ha, hb => cases ha; cases hb; exact ⟨⟨q, rfl, rfl, rfl, rfl⟩, Nat.le_trans hq (by decide)⟩
  | 1, ha, hb => cases ha; cases hb; exact ⟨⟨q, rfl, rfl, rfl, rfl⟩, Nat.le_trans hq (by decide)⟩
  | 2, ha, hb => cases ha; cases hb; exact ⟨⟨oq, rfl, rfl, ho, ho⟩, (by show 2 ≤ 300; omega)⟩
  | 3, ha, hb => cases ha; cases hb; exact ⟨⟨q, rfl, rfl, rfl, rfl⟩, Nat.le_trans hq (by decide)⟩
  | n + 4, ha, hb => simp at ha) y
 refine ⟨wz, ?_, gz⟩
 simp [t4, addL, l0_5, l0_13, k1, l1_11, l1_13, k2, k3, k4, l4_7, l4_13, k5, k6, l6_9, l6_5, k7, l7_7, k8, l8_9, k9, l9_11, k10, kz]
end
open Go Go.Proofs Go.RowKit Go.Lib Go.ChangeShapes Go.WideShapes Go.Sh.Ev
section
variable {W : World} {X : Asn W.heap.size}
theorem parse_kept {w : World} (L : Lay W) (E : ErrVars W) (x : Sat W X w) {s t : List UInt8} {r : Int} {q : List Ev} (hL : lstOf s = (t, r, q)) (hl : s.length ≤ 9223372036854775807) :
  ∃ A c e b w1 w2 w3, C 9 #[st s] w = some (.tuple #[cutV t r A q.length c, errV s e], w1) ∧ q.length ≤ 200 ∧
   Eq_ Zp (Za 30 true (.tuple #[])) w1 = some (.pointer (some ⟨b, 0, none⟩), w2) ∧ Eq_ Zp (Zs 30 (.pointer (some ⟨b, 0, none⟩)) (cutV t r A q.length c)) w2 = some ((), w3) ∧
   Sat W (blkA b 30 [st t, .int .i64 r, .slice A q.length c] * (rowA 51 5 (.slice A q.length c) q.length (q.flatMap Ev.cs) * (errB s e * X))) w3 := by
 obtain ⟨A, c, e, w1, k1, hq, x1⟩ := parse_all L E x s hl
 rw [hL] at k1 hq x1
 obtain ⟨b, w2, w3, a2, s3, x3⟩ := keepCut x1 t r A q.length c
 exact ⟨A, c, e, b, w1, w2, w3, k1, hq, a2, s3, x3⟩
theorem other_kept {w : World} (L : Lay W) (E : ErrVars W) (x : Sat W X w) : ∃ (ot : List UInt8) (or : Int) (oq : List Ev), oq.length = 2 ∧ ∃ A c b w1 w2 w3, C 9 #[Vs ⟨#[108, 105, 115, 116, 32, 50, 52, 32, 34, 34, 10, 99, 117, 116, 32, 113, 32, 48, 48, 58, 48, 48, 58, 48, 48, 58, 48, 48, 32, 48, 48, 58, 48, 48, 58, 48, 48, 58, 48, 49, 10, 99, 117, 116, 32, 114, 32, 48, 48, 58, 48, 48, 58, 48, 48, 58, 48, 48, 32, 48, 48, 58, 48, 48, 58, 48, 48, 58, 48, 50, 10]⟩] w = some (.tuple #[cutV ot or A 2 c, .nilIface], w1) ∧
   Eq_ Zp (Za 30 true (.tuple #[])) w1 = some (.pointer (some ⟨b, 0, none⟩), w2) ∧ Eq_ Zp (Zs 30 (.pointer (some ⟨b, 0, none⟩)) (cutV ot or A 2 c)) w2 = some ((), w3) ∧
   Sat W (blkA b 30 [st ot, .int .i64 or, .slice A 2 c] * (rowA 51 5 (.slice A 2 c) 2 (oq.flatMap Ev.cs) * X)) w3 := by
 have hL : lstOf otherT = ([], 1, [⟨[113], 0, 1, 0, []⟩, ⟨[114], 0, 2, 0, []⟩]) := by unfold lstOf; rw [other_parse]
 have hE : ∀ e, (errB otherT e : Asn W.heap.size) = emp := fun e => by unfold errB; rw [other_parse]
 have hV : ∀ e, errV otherT e = .nilIface := fun e => by unfold errV; rw [other_parse]
 obtain ⟨A, c, e, b, w1, w2, w3, k1, hq, a2, s3, x3⟩ := parse_kept L E x hL (by decide)
 rw [hE, emp_star] at x3
 rw [hV] at k1
 exact ⟨_, _, [⟨[113], 0, 1, 0, []⟩, ⟨[114], 0, 2, 0, []⟩], rfl, A, c, b, w1, w2, w3, k1, a2, s3, x3⟩
end
theorem emp_sat0 (w : World) : Sat w emp w := ⟨Grew.refl _ _, ⟨fun _ => False, rfl⟩⟩
def alT : List UInt8 := [108, 105, 115, 116, 32, 50, 53, 32, 34, 111, 110, 101, 34, 10, 99, 117, 116, 32, 97, 32, 48, 48, 58, 48, 48, 58, 48, 49, 58, 48, 48, 32, 48, 48, 58, 48, 48, 58, 48, 50, 58, 48, 48]
def alE : Ev := ⟨[97], 25, 50, 0, []⟩
theorem al_parse : parse alT = .ok ([111, 110, 101], 2, [alE]) := by kernel_rfl
theorem al_ck : ckCode [111, 110, 101] 2 [alE] = none := by kernel_rfl
theorem al_lens : lens [alE] = 25 := by kernel_rfl
theorem alive_law {w : World} (L : Lay w) (E : ErrVars w) : ∃ w', C 8 #[] w = some (.bool true, w') ∧ w.grownBy w' none := by
 have hL : lstOf alT = ([111, 110, 101], 2, [alE]) := by unfold lstOf; rw [al_parse]
 have hV : ∀ e, errV alT e = .nilIface := fun e => by unfold errV; rw [al_parse]
 have hE : ∀ e, (errB alT e : Asn w.heap.size) = emp := fun e => by unfold errB; rw [al_parse]
 obtain ⟨A, c, e, b, w1, w2, w3, k1, hq, a2, s3, x3⟩ := parse_kept L E (emp_sat0 w) hL (by decide)
 rw [hV] at k1
 have k1' : C 9 #[Vs ⟨#[108, 105, 115, 116, 32, 50, 53, 32, 34, 111, 110, 101, 34, 10, 99, 117, 116, 32, 97, 32, 48, 48, 58, 48, 48, 58, 48, 49, 58, 48, 48, 32, 48, 48, 58, 48, 48, 58, 48, 50, 58, 48, 48]⟩] w = some (.tuple #[cutV [111, 110, 101] 2 A 1 c, .nilIface], w1) := k1
 have x3 : Sat w (blkA b 30 [st [111, 110, 101], .int .i64 2, .slice A 1 c] * (rowA 51 5 (.slice A 1 c) 1 alE.cs * (errB alT e * emp))) w3 := x3
 have s3 : Eq_ Zp (Zs 30 (.pointer (some ⟨b, 0, none⟩)) (cutV [111, 110, 101] 2 A 1 c)) w2 = some ((), w3) := s3
 have l3 := ld_cut x3
 have c0 : w3.cell? ⟨b, 0, none⟩ = some (st [111, 110, 101]) := x3.cell 0 rfl
 have c1 : w3.cell? ⟨b, 1, none⟩ = some (.int .i64 2) := x3.cell 1 rfl
 have c2 : w3.cell? ⟨b, 2, none⟩ = some (.slice A 1 c) := x3.cell 2 rfl
 have G3 := grown_of x3
 have rd := Rd.own (x3.right).row
 obtain ⟨A', c', he, hcc, _⟩ := own_form (x3.right).row
 cases he
 obtain ⟨n, v, w4, k4, g4, e4, n4, _⟩ := Length_ok (L.grown G3).u (L.grown G3).t [111, 110, 101] 2 (A := A) (c := c) (q := [alE]) rd hcc (fun e he => by
  rw [List.mem_singleton] at he
  subst he
  decide)
 rw [al_ck] at e4
 have e4 : v = .nilIface := e4
 subst e4
 have n4 := n4 al_ck
 rw [al_lens] at n4
 subst n4
 have k4 : C 18 #[.agg #[st [111, 110, 101], .int .i64 2, .slice A 1 c]] w3 = some (.tuple #[.int .i64 25, .nilIface], w4) := k4
 have d2 : w4.cell? ⟨b, 2, none⟩ = some (.slice A 1 c) := (x3.grown g4).cell 2 rfl
 have rd4 := rd.grown g4
 have b51 : Pq Zp (Zb 51 #[(0, .string ⟨#[97]⟩), (1, .int .i64 25), (2, .int .i64 50)]) = some (.agg #[st [97], .int .i64 25, .int .i64 50, .int .i64 0, st []]) := id (by kernel_rfl)
 obtain ⟨p, ix, ld⟩ : ∃ p, Pq Zp (Zj 28 (.slice A 1 c) (.int .i64 0)) = some p ∧ Rq Zp (Zl 51 p) w4 = some (.agg #[st [97], .int .i64 25, .int .i64 50, .int .i64 0, st []]) := by
  have hA : ∃ a, A = some a := by
   rcases ((x3.right).row).2 with ⟨h, _⟩ | ⟨g, cap, cur, hv, _⟩
   ·cases h
   ·cases hv
    exact ⟨_, rfl⟩
  obtain ⟨a, rfl⟩ := hA
  exact ⟨_, ix28 a 1 c .i64 0 (by omega) (by omega), ev_ld (q := [alE]) (i := 0) rd4 rfl⟩
 refine ⟨w4, f8.run rfl ?_, grown_step G3 g4⟩
 simp only [cutV] at k1' s3 l3
 simp [f8, k1', a2, s3, c0, c1, c2, l3, addL, k4, d2, ix, ld, b51]
theorem parses_w {W : World} (L : Lay W) (E : ErrVars W) (s : List UInt8) (hl : s.length ≤ 9223372036854775807) {Rt : List Value → World → Prop} (hRt : ∀ w', W.grownBy w' none → Rt [.bool true] w') : f4.w C Rt (st s) W := by
 obtain ⟨t, r, q, hL⟩ : ∃ t r q, lstOf s = (t, r, q) := ⟨_, _, _, rfl⟩
 obtain ⟨w1, k1, g1⟩ := alive_law L E
 have x1 := (emp_sat0 W).grown g1
 have x2 := x1.newBlk 26 [.slice none 0 0, .slice none 0 0]
 have b2 : Eq_ Zp (Zo 26 (.agg #[.slice none 0 0, .slice none 0 0])) w1 = some (.pointer (some ⟨w1.heap.size, 0, none⟩), w1.alloc (.cells #[.slice none 0 0, .slice none 0 0] 26)) := rfl
 obtain ⟨w2, hw2⟩ : ∃ w2, w2 = w1.alloc (.cells #[.slice none 0 0, .slice none 0 0] 26) := ⟨_, rfl⟩
 rw [← hw2] at b2
 have x2 : Sat W (blkA w1.heap.size 26 [.slice none 0 0, .slice none 0 0] * emp) w2 := hw2 ▸ x2
 obtain ⟨bb, hbb⟩ : ∃ b, b = w1.heap.size := ⟨_, rfl⟩
 rw [← hbb] at b2 x2
 have x3 := (x2.nilRow 28 1).nilRow 28 1
 obtain ⟨A5, c5, e5, b5, u1, u2, u3, k5, hq, a5, s5, x5⟩ := parse_kept L E x3 hL hl
 obtain ⟨A7, c7, e7, b7, u4, u5, u6, k7, _, a7, s7, x7⟩ := parse_kept L E x5 hL hl
 obtain ⟨ot, or, oq, ho, A9, c9, b9, u7, u8, u9, k9, a9, s9, x9⟩ := other_kept L E x7
 obtain ⟨A11, c11, e11, b11, u10, u11, u12, k11, _, a11, s11, x11⟩ := parse_kept L E x9 hL hl
 rw [f4.parts]
 simp [k1, build26, b2, k5, a5, s5, k7, a7, s7, k9, a9, s9, k11, a11, s11]
 unfold relF
 refine ⟨enter10 _ _, (rparse_ok s hl u12).mono ?_⟩
 rintro o w3 ⟨v, rfl, hP⟩
 obtain ⟨g3, A13, c13, rfl, own⟩ := parseQ_all hP
 rw [hL] at own ⊢
 have y1 := x11.newRow g3 own
 obtain ⟨b13, v1, v2, a13, s13, y2⟩ := keepCut y1 t r A13 q.length c13
 refine ⟨_, rfl, ?_⟩
 have y3 := y2.eq (by ac_rfl : _ = blkA b5 30 [st t, .int .i64 r, .slice A5 q.length c5] * (rowA 51 5 (.slice A5 q.length c5) q.length (q.flatMap Ev.cs) * (errB s e5 * (blkA b7 30 [st t, .int .i64 r, .slice A7 q.length c7] * (rowA 51 5 (.slice A7 q.length c7) q.length (q.flatMap Ev.cs) * (errB s e7 * (blkA b9 30 [st ot, .int .i64 or, .slice A9 2 c9] * (rowA 51 5 (.slice A9 2 c9) 2 (oq.flatMap Ev.cs) * (blkA b11 30 [st t, .int .i64 r, .slice A11 q.length c11] * (rowA 51 5 (.slice A11 q.length c11) q.length (q.flatMap Ev.cs) * (errB s e11 * (blkA b13 30 [st t, .int .i64 r, .slice A13 q.length c13] * (rowA 51 5 (.slice A13 q.length c13) q.length (q.flatMap Ev.cs) * (blkA bb 26 [.slice none 0 0, .slice none 0 0] * (rowA 28 1 (.slice none 0 0) 0 [] * (rowA 28 1 (.slice none 0 0) 0 [] * emp))))))))))))))))
 obtain ⟨wz, kz, gz⟩ := tail4 L hq ho rfl rfl rfl rfl rfl rfl rfl rfl rfl rfl rfl rfl rfl rfl rfl rfl y3
 simp [a13, s13, kz, after, hRt wz gz]
theorem parses_walk (W : World) (a : ByteArray) (wa : a.size ≤ 140737488351232) (hL : laidMetH Zp Go.Proofs.YtkghbcadnbojgaaGreatDoor.Rows.cutsParsesRow.laid W) :
  Calls Zp 4 #[.string a] W fun e w' => e = .returned (.bool true) ∧ Below W.heap.size W w' := by
 have hsz : a.data.toList.length ≤ 9223372036854775807 := by
  have : a.data.toList.length = a.size := by rw [Array.length_toList]; rfl
  omega
 have key := parses_w (Rt := fun vs w' => (fun v w' => v = Vb true ∧ Below W.heap.size W w') (outcome vs) w') (lay_of hL) (errs_of hL) a.data.toList hsz fun w' hg => ⟨rfl, below_of_grown hg⟩
 rw [← f4.weq] at key
 refine (calls_of_w (rs := [2]) (ann := anns) (prim := er) (by kernel_rfl) er_ok (fn := Tryz.f4) (c := Tryz.f4.body.getD .skip) Tryz.func4 (by kernel_rfl) (by kernel_rfl) (x := f4.wann) (Q := fun v w' => v = .bool true ∧ Below W.heap.size W w') key).mono fun e v ⟨v', h1, h2, h3⟩ => ⟨h1.trans (by rw [h2]), h3⟩
end Go.Sh.YtkghbcadnbojgaaGreatDoor
