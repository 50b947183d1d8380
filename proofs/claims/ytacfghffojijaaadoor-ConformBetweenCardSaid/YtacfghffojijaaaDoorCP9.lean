/- dailieslaw20.awake, pick: what they answer. Conditions: those of each statement. -/
import Derived.Test.YtacfghffojijaaaDoorCP8
namespace Go.Sh.YtacfghffojijaaaDoor
open Go Go.Proofs Go.RowKit
set_option linter.unusedVariables false
set_option linter.unusedSimpArgs false
set_option maxRecDepth 100000
theorem small_v {v : Int} (hv : v < 1024) {q : List Pl} (hl : q.length = 3) (hq : ∀ p x, q[p]? = some x → x.l = List.replicate (sz p) v) : vcode 16 16 10 false q = 0 := by
  have hS : Shd 16 16 10 false := ⟨by decide, by decide, by decide, by decide, by decide, by simp [ts, wd, pl]⟩
  have h2 : q.length = pl false := hl
  have h3 : ¬ ∃ p x, q[p]? = some x ∧ (x.l.length : Int) ≠ wd 16 p * 16 := by
    rintro ⟨p, x, hp, hne⟩
    apply hne
    rw [hq p x hp]
    have hp3 := (List.getElem?_eq_some_iff.mp hp).1
    rw [hl] at hp3
    rcases (by omega : p = 0 ∨ p = 1 ∨ p = 2) with rfl | rfl | rfl <;> simp [sz, wd]
  have h4 : ¬ ∃ x ∈ q, ∃ u ∈ x.l, (2 : Int) ^ (10 : Int).toNat ≤ u := by
    rintro ⟨x, hx, u, hu, hle⟩
    obtain ⟨p, hp⟩ := List.getElem?_of_mem hx
    rw [hq p x hp] at hu
    have := List.eq_of_mem_replicate hu
    have e : (2 : Int) ^ (10 : Int).toNat = 1024 := rfl
    omega
  unfold vcode
  rw [if_neg (fun h => h hS), if_neg (fun h => h h2), if_neg h3, if_neg h4]
theorem ext2_0 (a b : Value) : prun Tryd.prog (Instr.extract (.tuple #[a, b]) 0) = some a := id (by kernel_rfl)
theorem ext2_1 (a b : Value) : prun Tryd.prog (Instr.extract (.tuple #[a, b]) 1) = some b := id (by kernel_rfl)
theorem awake_ok {w : World} (h : Tb w) : ∃ w', C 5 #[] w = some (.bool true, w') ∧ w.grownBy w' none := by
  obtain ⟨A, ca, qa, w1, a1, la, ha, ra, oa, g1⟩ := small_ok (v := 10) (by omega) (by omega) w
  obtain ⟨B, cb, qb, w2, a2, lb, hb, rb, ob, g2⟩ := small_ok (v := 20) (by omega) (by omega) w1
  have va := small_v (by omega) la ha
  have vb := small_v (by omega) lb hb
  have hm : mcode 16 16 10 false qa 16 16 10 false qb = 0 := by
    unfold mcode
    rw [if_neg (fun h => h va), if_neg (fun h => h vb), if_pos ⟨rfl, rfl, rfl, rfl⟩]
  obtain ⟨v, w3, a3, g3, hcase⟩ := mix_ok (part := 1) (of := 3) (by omega) (by omega) (by omega) (by omega) (W := 16) (H := 16) (D := 10) (al := false) (ca := ca) (W' := 16) (H' := 16) (D' := 10) (al' := false) (cb := cb) (ra.grown g2) rb (fun x hx => (oa x hx).grown g2) ob (by simp [la, maxLen]) (by simp [lb, maxLen])
  rw [hm] at hcase a3
  rcases hcase with ⟨h0, _⟩ | ⟨_, AV, cV, q, rfl, lq, mid, F⟩
  · exact absurd rfl h0
  have G3 := grown_trans (grown_trans g1 g2 (by simp)) g3 (by simp)
  obtain ⟨W4, hW4⟩ : ∃ W4, W4 = w3.alloc (.cells #[.int .i64 0, .int .i64 0, .int .i64 0, .bool false, .slice none 0 0] 30) := ⟨_, rfl⟩
  have g4 : w3.grownBy W4 none := hW4 ▸ World.grownBy_alloc w3 _ none
  have b4 : Blk W4 w3.heap.size 30 (fcs 0 0 0 false (.slice none 0 0)) := hW4 ▸ Blk.new w3 30 (fcs 0 0 0 false (.slice none 0 0))
  obtain ⟨w5, s5, b5, g5⟩ := st30 b4 rfl 16 16 10 false AV q.length cV
  have G45 : w3.grownBy w5 none := grown_trans g4 g5 fun k hk => by cases hk; omega
  have F5 := F.new G45
  have G5 := grown_trans G3 G45 (by simp)
  obtain ⟨w6, a6, g6⟩ := Plan_ok (h.grown G5)
  have F6 := F5.new g6
  have b6 := b5.grown g6 (by simp)
  have hq0 : 0 < q.length := by omega
  obtain ⟨r, hr⟩ : ∃ r, q[0]? = some r := ⟨_, List.getElem?_eq_getElem hq0⟩
  obtain ⟨x, hx⟩ : ∃ x, qa[0]? = some x := ⟨_, List.getElem?_eq_getElem (by omega)⟩
  obtain ⟨y, hy⟩ : ∃ y, qb[0]? = some y := ⟨_, List.getElem?_eq_getElem (by omega)⟩
  obtain ⟨⟨P, hP⟩, hrl, hru⟩ := mid 0 r x y hr hx hy
  have hru := hru (by omega)
  have hxl := ha 0 x hx
  have hyl := hb 0 y hy
  have hx256 : x.l.length = 256 := by rw [hxl]; simp [sz]
  rw [hx256] at hP
  have o := F6.pl.part hr
  rw [hP, hrl, hx256] at o
  have d9 : r.2[9]? = some (.int .u16 13) := by
    rw [hru, hxl, hyl]
    unfold uv mixl
    rw [List.getElem?_map, List.getElem?_zipWith]
    simp [sz, mv]
    rfl
  obtain ⟨pa, e1, c1⟩ := own_cell o d9
  subst e1
  have rV := fr_rd F6
  have hv0 : (q.map (·.1))[0]? = some r.1 := by simp [hr]
  cases AV with
  | none => have h : q.map (·.1) = [] := rV; rw [h] at hv0; simp at hv0
  | some aV =>
    have c0 := rV 0 _ hv0
    rw [hP] at c0
    have c0' : w6.cell? aV = some (.slice (some pa) 256 256) := by simpa using c0
    have i1 := ix28 aV q.length cV .i64 0 (by omega) (by omega)
    have i3 := ix38 pa 256 256 .i64 9 (by omega) (by omega)
    simp only [show Int.toNat 0 = 0 from rfl, show Int.toNat 9 = 9 from rfl, Nat.mul_one] at i1 i3
    have hq3 : q.length = 3 := by omega
    rw [hq3] at s5 b6 i1 a3
    rw [la] at a1 a3
    rw [lb] at a2 a3
    refine ⟨w6, f5.run rfl ?_, grown_trans G5 g6 (by simp)⟩
    simp [f5, a1, a2, a3, ext2_0, ext2_1, alloc30, ← hW4, s5, show prun Tryd.prog (Instr.build 52 #[(0, (Value.string { data := #[120] })), (1, (Value.int IntKind.i64 2))]) = some cl from id (by kernel_rfl), a6, nil_eq, addL, b6.cell_eq 4 rfl, i1, c0, c0', i3, c1]
theorem pick_ok (c : Int) (n : Int) (hn : 0 < n) (hN : n ≤ 9223372036854775807) (hc : -9223372036854775808 ≤ c) (hc' : c ≤ 9223372036854775807) (w : World) :
    ∃ r : Int, C 13 #[.int .i64 c, .int .i64 n] w = some (.int .i64 r, w) ∧ 0 ≤ r ∧ r < n := by
  by_cases h : c < 0
  · have e1 : IntKind.i64.wrap (c + 1) = c + 1 := wrap_i64 (by omega) (by omega)
    have e2 : IntKind.i64.wrap (0 - (c + 1)) = -(c + 1) := by rw [Int.zero_sub]; exact wrap_i64 (by omega) (by omega)
    refine ⟨(-(c + 1)).tmod n, f13.run rfl ?_, Int.tmod_nonneg _ (by omega), Int.tmod_lt_of_pos _ hn⟩
    simp only [f13, bin_lss, h, decide_true, Option.bind_some, asB_bool, if_true, bin_add, e1, un_neg, e2, cont_norm, nth_zero, nth_succ]
    simp [bin_rem _ _ _ (show n ≠ 0 by omega)]
  · refine ⟨c.tmod n, f13.run rfl ?_, Int.tmod_nonneg _ (by omega), Int.tmod_lt_of_pos _ hn⟩
    simp [f13, h, bin_rem _ _ _ (show n ≠ 0 by omega)]
end Go.Sh.YtacfghffojijaaaDoor
