/- cuts: lines that say words: plain laws. No condition but those that each statement names. -/
import Derived.Lib.ConvBytes
import Derived.Test.YtkghbcadnbojgaaGreatDoorQD3
import Derived.Test.YtkghbcadnbojgaaGreatDoorQD6
namespace Go.Sh.YtkghbcadnbojgaaGreatDoor
open Go Go.Proofs Go.RowKit Go.Lib Go.Sh.Ev
set_option linter.unusedVariables false
set_option linter.unusedSimpArgs false
set_option maxRecDepth 100000
open Go Go.Proofs
open Go Go.Proofs Go.RowKit Go.Lib
open Go Go.Proofs Go.RowKit Go.Sh.Ev
open Go Go.Proofs Go.RowKit Go.ChangeShapes Go.WideShapes Go.Sh.Ev
open Go Go.Proofs Go.RowKit Go.Lib Go.ChangeShapes Go.WideShapes Go.Sh.Ev
open Go.Proofs.Tryz renaming prog → Zp, underlying9 → Uz
open Go.Instr renaming loadAt → Zl, fieldAt → Zf, storeAt → Zs, extract → Zx, alloc → Za, box → Zo, makeInterface → Zm
open Go.Value renaming int → Vi, string → Vs, nilIface → Vn
open Go.IntKind renaming i64 → Ki
open Go.Operand renaming tmp → Ot, const → Oc
open List renaming getElem?_eq_getElem → Yg
open Go.Sh.Res renaming norm → Xn, ret → Xr
open Go.Sh renaming prun → Pq, rrun → Rq, erun → Eq_
def fname (r : Int) (n : Int) : List UInt8 := match rates[r.toNat]? with
 | some x => nameOf x.1.toNat (markOf x.2.2.2) (n + leftOut x n).toNat
 | none => []
def blankS : List (List UInt8) := [[32], [32, 32], [9], [32, 9, 32]]
def freeS : List (List UInt8) := [[], [], [32], [9]]
def noneS : List (List UInt8) := [[], [], [10], [35, 32, 99, 117, 116, 32, 120, 10], [32, 9, 10], [35, 34, 10, 10]]
def endS : List (List UInt8) := [[10], [10], [32, 35, 32, 102, 97, 100, 101, 32, 51, 10], [9, 10], [32, 35, 10]]
open Go Go.Proofs
def numP (c d h mi sec fr : Int) : Int := c * (60 * (60 * h + mi) + sec) + fr - d * ((60 * h + mi) - (60 * h + mi) / 10)
theorem back0 (c M : Nat) (hc : 0 < c) (h : M < 86400 * c) : numP c 0 ((M / c / 3600 : Nat) : Int) ((M / c / 60 % 60 : Nat) : Int) ((M / c % 60 : Nat) : Int) ((M % c : Nat) : Int) = (M : Int) := by
 have e := Nat.div_add_mod M c
 generalize M / c = S at e ⊢
 generalize M % c = F at e ⊢
 have e2 : 60 * (60 * (S / 3600) + S / 60 % 60) + S % 60 = S := by omega
 unfold numP
 have e3 : (60 * (60 * ((S / 3600 : Nat) : Int) + ((S / 60 % 60 : Nat) : Int)) + ((S % 60 : Nat) : Int)) = (S : Int) := by omega
 rw [e3, ← e]
 push_cast
 omega
theorem back2 (T Q S : Nat) (c d : Nat) (hcd : (c = 30 ∧ d = 2) ∨ (c = 60 ∧ d = 4)) (hQ : Q ≤ 8) (hS : S < 60 * c - d) (n M : Nat) (hn : n = (600 * c - 9 * d) * T + 60 * c + (60 * c - d) * Q + S) (hM : M = 600 * c * T + 60 * c + d + 60 * c * Q + S) :
  ¬ (M / c / 60 % 60 % 10 ≠ 0 ∧ M / c % 60 = 0 ∧ M % c < d) ∧ numP c d ((M / c / 3600 : Nat) : Int) ((M / c / 60 % 60 : Nat) : Int) ((M / c % 60 : Nat) : Int) ((M % c : Nat) : Int) = (n : Int) := by
 unfold numP
 rcases hcd with ⟨rfl, rfl⟩ | ⟨rfl, rfl⟩
 ·have h1 : M / 30 / 60 = 10 * T + 1 + Q := by omega
  have h2 : M / 30 / 3600 = (M / 30 / 60) / 60 := by omega
  have h3 : M % 1800 = S + 2 := by omega
  have h4 : M / 30 % 60 = (S + 2) / 30 := by omega
  have h5 : M % 30 = (S + 2) % 30 := by omega
  rw [h2, h4, h5, h1]
  constructor
  ·omega
  ·omega
 ·have h1 : M / 60 / 60 = 10 * T + 1 + Q := by omega
  have h2 : M / 60 / 3600 = (M / 60 / 60) / 60 := by omega
  have h3 : M % 3600 = S + 4 := by omega
  have h4 : M / 60 % 60 = (S + 4) / 60 := by omega
  have h5 : M % 60 = (S + 4) % 60 := by omega
  rw [h2, h4, h5, h1]
  constructor
  ·omega
  ·omega
theorem back1 (T R : Nat) (c d : Nat) (hcd : (c = 30 ∧ d = 2) ∨ (c = 60 ∧ d = 4)) (hR : R < 60 * c) (n M : Nat) (hn : n = (600 * c - 9 * d) * T + R) (hM : M = 600 * c * T + R) :
  ¬ (M / c / 60 % 60 % 10 ≠ 0 ∧ M / c % 60 = 0 ∧ M % c < d) ∧ numP c d ((M / c / 3600 : Nat) : Int) ((M / c / 60 % 60 : Nat) : Int) ((M / c % 60 : Nat) : Int) ((M % c : Nat) : Int) = (n : Int) := by
 unfold numP
 rcases hcd with ⟨rfl, rfl⟩ | ⟨rfl, rfl⟩
 ·have h1 : M / 30 / 60 = 10 * T := by omega
  have h2 : M / 30 / 3600 = (M / 30 / 60) / 60 := by omega
  have h4 : M / 30 % 60 = R / 30 := by omega
  have h5 : M % 30 = R % 30 := by omega
  rw [h2, h4, h5, h1]
  constructor
  ·omega
  ·omega
 ·have h1 : M / 60 / 60 = 10 * T := by omega
  have h2 : M / 60 / 3600 = (M / 60 / 60) / 60 := by omega
  have h4 : M / 60 % 60 = R / 60 := by omega
  have h5 : M % 60 = R % 60 := by omega
  rw [h2, h4, h5, h1]
  constructor
  ·omega
  ·omega
theorem back {x : Int × Int × Int × Int} (hx : x ∈ rates) (h0 : x.1 ≠ 0) (n : Int) (hn : 0 ≤ n) (hn' : n < perDay x) (c M d : Nat) (hc : (c : Int) = x.1) (hd : (d : Int) = x.2.2.2) (hM : (M : Int) = n + leftOut x n) :
  ¬ (M / c / 60 % 60 % 10 ≠ 0 ∧ M / c % 60 = 0 ∧ M % c < d) ∧ numP c d ((M / c / 3600 : Nat) : Int) ((M / c / 60 % 60 : Nat) : Int) ((M / c % 60 : Nat) : Int) ((M % c : Nat) : Int) = n := by
 obtain ⟨b1, b2⟩ := leftOut_in hx h0 n hn hn'
 rw [← hM, ← hc] at b2
 obtain ⟨k, rfl⟩ : ∃ k : Nat, n = (k : Int) := ⟨n.toNat, by omega⟩
 have plain : d = 0 → leftOut x k = 0 → ¬ (M / c / 60 % 60 % 10 ≠ 0 ∧ M / c % 60 = 0 ∧ M % c < d) ∧ numP c d ((M / c / 3600 : Nat) : Int) ((M / c / 60 % 60 : Nat) : Int) ((M / c % 60 : Nat) : Int) ((M % c : Nat) : Int) = (k : Int) := by
  intro e1 e2
  subst e1
  rw [e2] at hM
  have hMk : M = k := by omega
  refine ⟨by omega, ?_⟩
  have := back0 c M (by omega) (by omega)
  rw [hMk] at this ⊢
  exact this
 have drops : (c = 30 ∧ d = 2) ∨ (c = 60 ∧ d = 4) → leftOut x k = (if 60 * (c : Int) ≤ (k : Int).tmod (600 * c - 9 * d) then (9 * (k : Int).tdiv (600 * c - 9 * d) + (1 + ((k : Int).tmod (600 * c - 9 * d) - 60 * c).tdiv (60 * c - d))) * d else 9 * (k : Int).tdiv (600 * c - 9 * d) * d) → ¬ (M / c / 60 % 60 % 10 ≠ 0 ∧ M / c % 60 = 0 ∧ M % c < d) ∧ numP c d ((M / c / 3600 : Nat) : Int) ((M / c / 60 % 60 : Nat) : Int) ((M / c % 60 : Nat) : Int) ((M % c : Nat) : Int) = (k : Int) := by
  intro hcd e2
  rw [e2, Int.tmod_eq_emod_of_nonneg (by omega), Int.tdiv_eq_ediv_of_nonneg (by omega)] at hM
  rcases hcd with ⟨rfl, rfl⟩ | ⟨rfl, rfl⟩
  ·split at hM
   ·rename_i hge
    rw [Int.tdiv_eq_ediv_of_nonneg (by omega)] at hM
    exact back2 (k / 17982) ((k % 17982 - 1800) / 1798) ((k % 17982 - 1800) % 1798) 30 2 (.inl ⟨rfl, rfl⟩) (by omega) (by omega) k M (by omega) (by omega)
   ·exact back1 (k / 17982) (k % 17982) 30 2 (.inl ⟨rfl, rfl⟩) (by omega) k M (by omega) (by omega)
  ·split at hM
   ·rename_i hge
    rw [Int.tdiv_eq_ediv_of_nonneg (by omega)] at hM
    exact back2 (k / 35964) ((k % 35964 - 3600) / 3596) ((k % 35964 - 3600) % 3596) 60 4 (.inr ⟨rfl, rfl⟩) (by omega) (by omega) k M (by omega) (by omega)
   ·exact back1 (k / 35964) (k % 35964) 60 4 (.inr ⟨rfl, rfl⟩) (by omega) k M (by omega) (by omega)
 have hz : ∀ y : Int × Int × Int × Int, y.2.2.2 = 0 → leftOut y k = 0 := fun y hy => by
  unfold leftOut
  rw [hy, Int.mul_zero, Int.mul_zero]
  split <;> rfl
 have hgen : leftOut x k = (if 60 * (c : Int) ≤ (k : Int).tmod (600 * c - 9 * d) then (9 * (k : Int).tdiv (600 * c - 9 * d) + (1 + ((k : Int).tmod (600 * c - 9 * d) - 60 * c).tdiv (60 * c - d))) * d else 9 * (k : Int).tdiv (600 * c - 9 * d) * d) := by
  unfold leftOut perTen
  rw [hc, hd]
 simp only [rates, List.mem_cons, List.not_mem_nil, or_false] at hx
 rcases hx with rfl | rfl | rfl | rfl | rfl | rfl | rfl | rfl
 ·exact absurd rfl h0
 ·exact plain (by simpa using hd) (hz _ rfl)
 ·exact plain (by simpa using hd) (hz _ rfl)
 ·exact plain (by simpa using hd) (hz _ rfl)
 ·exact drops (.inl ⟨by simp at hc; omega, by simp at hd; omega⟩) hgen
 ·exact plain (by simpa using hd) (hz _ rfl)
 ·exact plain (by simpa using hd) (hz _ rfl)
 ·exact drops (.inr ⟨by simp at hc; omega, by simp at hd; omega⟩) hgen
def gd (c : UInt8) : Bool := decide (36 ≤ c.toNat) && decide (c.toNat < 128)
theorem rate_of {r : Int} (h1 : 1 ≤ r) (h7 : r ≤ 7) : ∃ x, rates[r.toNat]? = some x ∧ x ∈ rates ∧ x.1 ≠ 0 ∧ dayOf r = perDay x ∧ ∀ n, fname r n = nameOf x.1.toNat (markOf x.2.2.2) (n + leftOut x n).toNat := by
 obtain ⟨k, rfl⟩ : ∃ k : Nat, r = (k : Int) := ⟨r.toNat, by omega⟩
 rw [Int.toNat_natCast]
 rcases (show k = 1 ∨ k = 2 ∨ k = 3 ∨ k = 4 ∨ k = 5 ∨ k = 6 ∨ k = 7 by omega) with rfl | rfl | rfl | rfl | rfl | rfl | rfl
 ·exact ⟨(24, 24, 1, 0), rfl, by simp [rates], by decide, rfl, fun n => rfl⟩
 ·exact ⟨(25, 25, 1, 0), rfl, by simp [rates], by decide, rfl, fun n => rfl⟩
 ·exact ⟨(30, 30, 1, 0), rfl, by simp [rates], by decide, rfl, fun n => rfl⟩
 ·exact ⟨(30, 30000, 1001, 2), rfl, by simp [rates], by decide, rfl, fun n => rfl⟩
 ·exact ⟨(50, 50, 1, 0), rfl, by simp [rates], by decide, rfl, fun n => rfl⟩
 ·exact ⟨(60, 60, 1, 0), rfl, by simp [rates], by decide, rfl, fun n => rfl⟩
 ·exact ⟨(60, 60000, 1001, 4), rfl, by simp [rates], by decide, rfl, fun n => rfl⟩
theorem isName_gd {s : List UInt8} (h : isName s = true) : s.all gd = true ∧ s ≠ [] ∧ s.length ≤ 16 := by
 simp only [isName, Bool.and_eq_true, decide_eq_true_eq] at h
 obtain ⟨⟨h1, h2⟩, h3⟩ := h
 refine ⟨List.all_eq_true.mpr fun c hc => ?_, by rintro rfl; simp at h2, h3⟩
 have := List.all_eq_true.mp h1 c hc
 simp only [nameByte, Bool.or_eq_true, Bool.and_eq_true, decide_eq_true_eq, beq_iff_eq] at this
 simp only [gd, Bool.and_eq_true, decide_eq_true_eq]
 omega
open Go Go.Proofs Go.RowKit Go.Lib
section
variable {W : World} {X : Asn W.heap.size}
end
def leftAt (d : Int) (m : Nat) : Int := if m % 10 = 0 then 0 else d
def cum (c d : Int) : Nat → Int
 | 0 => 0
 | m + 1 => cum c d m + (60 * c - leftAt d m)
theorem cum0 (c : Int) : ∀ m : Nat, cum c 0 m = 60 * c * m
 | 0 => by simp [cum]
 | m + 1 => by
  have : leftAt 0 m = 0 := by unfold leftAt; split <;> rfl
  rw [cum, cum0 c m, this, Int.natCast_succ, Int.mul_add]
  omega
theorem cum2 : ∀ m : Nat, cum 30 2 m = 1800 * m - 2 * (m - ((m + 9) / 10 : Nat))
 | 0 => by simp [cum]
 | m + 1 => by
  rw [cum, cum2 m, leftAt]
  split <;> omega
theorem cum4 : ∀ m : Nat, cum 60 4 m = 3600 * m - 4 * (m - ((m + 9) / 10 : Nat))
 | 0 => by simp [cum]
 | m + 1 => by
  rw [cum, cum4 m, leftAt]
  split <;> omega
def goodAt (mk i : Nat) (c : UInt8) : Prop := if i = 8 then c.toNat = mk else if i % 3 = 2 then c.toNat = 58 else 48 ≤ c.toNat ∧ c.toNat ≤ 57
theorem form_ok {w : World} (c n d r : Int) (s : List UInt8) (hl : s.length = 11) (hg : ∀ i c, s[i]? = some c → goodAt (markOf r) i c) : ∃ w', C 132 #[.agg #[.int .i64 c, .int .i64 n, .int .i64 d, .int .i64 r], st s] w = some (.int .i64 (-1), w') ∧ w.grownBy w' none := by
 have s0 : Sat w emp w := ⟨Grew.refl _ _, ⟨fun _ => False, rfl⟩⟩
 have y0 := s0.newBlk 145 (rc (c, n, d, r))
 obtain ⟨w0, hw0⟩ : ∃ w0, w0 = w.alloc (.cells (rc (c, n, d, r)).toArray 145) := ⟨_, rfl⟩
 have bx : Eq_ Zp (Zo 145 (.agg #[.int .i64 c, .int .i64 n, .int .i64 d, .int .i64 r])) w = some (.pointer (some ⟨w.heap.size, 0, none⟩), w0) := by rw [hw0]; rfl
 rw [← hw0] at y0
 have s1 := y0.newIter ⟨s.toArray⟩
 have rg := str_range (P := Zp) Uz ⟨s.toArray⟩ w0
 have hsz : (⟨s.toArray⟩ : ByteArray).size = s.length := st_size s
 have mb : markOf r = 58 ∨ markOf r = 59 := by unfold markOf; split <;> simp
 have key := iter_down (f := f132.l0 C) (fun k ws w1 => ∃ i : Nat, ws = [st s, .pointer (some ⟨w.heap.size, 0, none⟩), .int .i64 (i : Int), .pointer (some ⟨w0.heap.size, 0, none⟩)] ∧ i + k = 11 ∧ Sat w (iterA w0.heap.size ⟨s.toArray⟩ i * (blkA w.heap.size 145 (rc (c, n, d, r)) * emp)) w1)
  (fun q => ∃ w', q = .exit 0 [st s, .int .i64 11] w' ∧ w.grownBy w' none) (by
   rintro k ws w1 ⟨i, rfl, hik, x⟩
   cases k with
   | zero =>
    obtain rfl : i = 11 := by omega
    have h1 := x.iterEnd 0 (P := Zp) (by rw [hsz]; omega)
    exact .inr ⟨.exit 0 [st s, .int .i64 ((11 : Nat) : Int)] w1, by simp [f132.l0, h1], ⟨w1, rfl, grown_of x⟩, by simp⟩
   | succ k =>
    have hil : i < s.length := by omega
    obtain ⟨ch, hch⟩ : ∃ ch, s[i]? = some ch := ⟨s[i], Yg hil⟩
    have hgood := hg i ch hch
    have hct : s.drop i = ch :: s.drop (i + 1) := by
     rw [List.drop_eq_getElem_cons hil]
     rw [Yg hil] at hch
     rw [Option.some.inj hch]
    have hlow : ch.toNat < 128 := by
     unfold goodAt at hgood
     split at hgood
     ·omega
     ·split at hgood <;> omega
    have hdec : Utf8.decode ⟨s.toArray⟩ i = (ch.toNat, 1) := by
     rw [← decodeL_drop]
     show decodeL (s.drop i) = _
     rw [hct, dec_asc _ hlow]
    obtain ⟨w2, h2, x2⟩ := x.iterNext 0 (P := Zp) (by rw [hsz]; exact hil)
    rw [hdec] at h2 x2
    simp only [] at h2
    obtain ⟨N, hN⟩ : ∃ N : Nat, N = ch.toNat := ⟨_, rfl⟩
    rw [← hN] at h2 hlow
    have e1 : IntKind.i64.wrap ((i : Int) + 1) = ((i + 1 : Nat) : Int) := (wrap_i64 (by omega) (by omega)).trans (by omega)
    have n11 : ¬ (i : Int) = 11 := by omega
    by_cases h8 : i = 8
    ·subst h8
     rw [goodAt, if_pos rfl] at hgood
     have xb := x2.eq (by ac_rfl : _ = blkA w.heap.size 145 (rc (c, n, d, r)) * (iterA w0.heap.size ⟨s.toArray⟩ (8 + 1) * emp))
     have lb := ld145b xb.blk
     obtain ⟨w3, h3, g3⟩ := mark_ok c n d r w2
     have cv := cv5_21 (markOf r : Int)
     have e2 : IntKind.i32.wrap (markOf r : Int) = (markOf r : Int) := by rcases mb with h | h <;> rw [h] <;> decide
     rw [e2] at cv
     rw [show markOf r = N by omega] at cv h3
     refine .inl ⟨k, _, w3, by omega, ?_, ⟨9, rfl, by omega, x2.grown g3⟩⟩
     simp only [rv] at lb
     simp [f132.l0, h2, lb, h3, cv]
     decide
    ·rw [goodAt, if_neg h8] at hgood
     have n8 : ¬ (i : Int) = 8 := by omega
     have q := remN i 3 (by omega)
     rw [show ((3 : Nat) : Int) = 3 from rfl] at q
     by_cases h3 : i % 3 = 2
     ·rw [if_pos h3] at hgood
      have hN' : (N : Int) = 58 := by omega
      rw [hN'] at h2
      rw [h3] at q
      refine .inl ⟨k, _, w2, by omega, ?_, ⟨i + 1, rfl, by omega, x2⟩⟩
      simp [f132.l0, h2, n11, n8, q, e1]
     ·rw [if_neg h3] at hgood
      have a1 : ¬ (N : Int) < 48 := by omega
      have a2 : ¬ (57 : Int) < N := by omega
      obtain ⟨R, hR⟩ : ∃ R : Int, R = ((i % 3 : Nat) : Int) := ⟨_, rfl⟩
      have hR2 : ¬ R = 2 := by omega
      rw [← hR] at q
      refine .inl ⟨k, _, w2, by omega, ?_, ⟨i + 1, rfl, by omega, x2⟩⟩
      simp [f132.l0, h2, n11, n8, q, hR2, a1, a2, e1]) 11 _ _ ⟨0, rfl, by omega, s1⟩
 obtain ⟨q, h1, w', rfl, g⟩ := key
 refine ⟨w', f132.run rfl ?_, g⟩
 simp at h1
 simp [f132, bx, rg, h1]
theorem part_ok {w : World} {b : Nat} {s : List UInt8} (hb : Blk w b 9 [st s]) (i k : Nat) (hs : s.length ≤ 1000) (hi : i + 1 < s.length) (hk : k < 100) (h0 : s[i]? = some (UInt8.ofNat (48 + k / 10))) (h1 : s[i + 1]? = some (UInt8.ofNat (48 + k % 10))) : C 133 #[.int .i64 (i : Int), .pointer (some ⟨b, 0, none⟩)] w = some (.int .i64 (k : Int), w.drew) := by
 have c0 := hb.cell_eq 0 rfl
 have i0 := str_index (P := Zp) Uz s .i64 i (by omega)
 have i1 := str_index (P := Zp) Uz s .i64 (i + 1) hi
 rw [Yg (by omega)] at h0 h1
 rw [Option.some.inj h0] at i0
 rw [Option.some.inj h1] at i1
 have t1 : (UInt8.ofNat (48 + k / 10)).toNat = 48 + k / 10 := by simp; omega
 have t2 : (UInt8.ofNat (48 + k % 10)).toNat = 48 + k % 10 := by simp; omega
 rw [t1] at i0
 rw [t2] at i1
 have e0 : IntKind.u8.wrap (((48 + k / 10 : Nat) : Int) - 48) = ((k / 10 : Nat) : Int) := by rw [show ((48 + k / 10 : Nat) : Int) - 48 = ((k / 10 : Nat) : Int) by omega, wrap_u8n]; congr 1; omega
 have e1 : IntKind.u8.wrap (((48 + k % 10 : Nat) : Int) - 48) = ((k % 10 : Nat) : Int) := by rw [show ((48 + k % 10 : Nat) : Int) - 48 = ((k % 10 : Nat) : Int) by omega, wrap_u8n]; congr 1; omega
 have cv : ∀ z : Int, Pq Zp (convert 5 3 (.int .u8 z)) = some (.int .i64 (IntKind.i64.wrap z)) := fun z => id (by kernel_rfl)
 have a0 : IntKind.i64.wrap ((k / 10 : Nat) : Int) = ((k / 10 : Nat) : Int) := wrap_i64 (by omega) (by omega)
 have a1 : IntKind.i64.wrap ((k % 10 : Nat) : Int) = ((k % 10 : Nat) : Int) := wrap_i64 (by omega) (by omega)
 have a2 : IntKind.i64.wrap (10 * ((k / 10 : Nat) : Int)) = 10 * ((k / 10 : Nat) : Int) := wrap_i64 (by omega) (by omega)
 have a3 : IntKind.i64.wrap (10 * ((k / 10 : Nat) : Int) + ((k % 10 : Nat) : Int)) = (k : Int) := (wrap_i64 (by omega) (by omega)).trans (by omega)
 have a4 : IntKind.i64.wrap ((i : Int) + 1) = ((i + 1 : Nat) : Int) := (wrap_i64 (by omega) (by omega)).trans (by omega)
 refine f133.run rfl ?_
 obtain ⟨A, hA⟩ : ∃ A : Int, A = ((k / 10 : Nat) : Int) := ⟨_, rfl⟩
 obtain ⟨B, hB⟩ : ∃ B : Int, B = ((k % 10 : Nat) : Int) := ⟨_, rfl⟩
 obtain ⟨I, hI⟩ : ∃ I : Int, I = ((i + 1 : Nat) : Int) := ⟨_, rfl⟩
 obtain ⟨A2, hA2⟩ : ∃ A : Int, A = ((48 + k / 10 : Nat) : Int) := ⟨_, rfl⟩
 obtain ⟨B2, hB2⟩ : ∃ B : Int, B = ((48 + k % 10 : Nat) : Int) := ⟨_, rfl⟩
 rw [← hA] at e0 a0 a2 a3
 rw [← hB] at e1 a1 a3
 rw [← hI] at a4 i1
 rw [← hA2] at i0 e0
 rw [← hB2] at i1 e1
 simp [f133, c0, i0, i1, e0, e1, cv, a0, a1, a2, a3, a4]
def nm (h mi se fr mk : Nat) : List UInt8 := [UInt8.ofNat (48 + h / 10), UInt8.ofNat (48 + h % 10), 58, UInt8.ofNat (48 + mi / 10), UInt8.ofNat (48 + mi % 10), 58, UInt8.ofNat (48 + se / 10), UInt8.ofNat (48 + se % 10), UInt8.ofNat mk, UInt8.ofNat (48 + fr / 10), UInt8.ofNat (48 + fr % 10)]
theorem dg_in : ∀ a, a < 10 → 48 ≤ (UInt8.ofNat (48 + a)).toNat ∧ (UInt8.ofNat (48 + a)).toNat ≤ 57 := by decide
theorem nm_good (h mi se fr : Nat) (r : Int) (hh : h < 100) (hm : mi < 100) (hs : se < 100) (hf : fr < 100) : ∀ i c, (nm h mi se fr (markOf r))[i]? = some c → goodAt (markOf r) i c := by
 intro i c hi
 have hmk : (UInt8.ofNat (markOf r)).toNat = markOf r := by unfold markOf; split <;> rfl
 have hl : i < 11 := (List.getElem?_eq_some_iff.mp hi).1
 have h3 : ∀ a, a < 10 → ∀ i, i ≠ 8 → i % 3 ≠ 2 → goodAt (markOf r) i (UInt8.ofNat (48 + a)) := fun a ha i h1 h2 => by rw [goodAt, if_neg h1, if_neg h2]; exact dg_in a ha
 rcases (show i = 0 ∨ i = 1 ∨ i = 2 ∨ i = 3 ∨ i = 4 ∨ i = 5 ∨ i = 6 ∨ i = 7 ∨ i = 8 ∨ i = 9 ∨ i = 10 by omega) with rfl | rfl | rfl | rfl | rfl | rfl | rfl | rfl | rfl | rfl | rfl
 ·cases hi; exact h3 _ (by omega) _ (by decide) (by decide)
 ·cases hi; exact h3 _ (by omega) _ (by decide) (by decide)
 ·cases hi; rw [goodAt, if_neg (by decide), if_pos (by decide)]; rfl
 ·cases hi; exact h3 _ (by omega) _ (by decide) (by decide)
 ·cases hi; exact h3 _ (by omega) _ (by decide) (by decide)
 ·cases hi; rw [goodAt, if_neg (by decide), if_pos (by decide)]; rfl
 ·cases hi; exact h3 _ (by omega) _ (by decide) (by decide)
 ·cases hi; exact h3 _ (by omega) _ (by decide) (by decide)
 ·cases hi; rw [goodAt, if_pos rfl]; exact hmk
 ·cases hi; exact h3 _ (by omega) _ (by decide) (by decide)
 ·cases hi; exact h3 _ (by omega) _ (by decide) (by decide)
theorem read_ok {x : Int × Int × Int × Int} (hx : x ∈ rates) (h0 : x.1 ≠ 0) (h mi se fr : Nat) (hh : h < 24) (hm : mi < 60) (hs : se < 60) (hf : (fr : Int) < x.1) (hd : ¬ (mi % 10 ≠ 0 ∧ se = 0 ∧ (fr : Int) < x.2.2.2)) (w : World) :
  ∃ w', C 123 #[rv x, st (nm h mi se fr (markOf x.2.2.2))] w = some (.tuple #[.int .i64 (numP x.1 x.2.2.2 h mi se fr), .int .i64 0, .int .i64 0], w') ∧ w.grownBy w' none := by
 obtain ⟨r1, r2, r3, r4⟩ := rate_in hx h0
 obtain ⟨c, nu, de, d⟩ := x
 simp only at r1 r2 r3 r4 hf hd ⊢
 obtain ⟨s, hsd⟩ : ∃ s, s = nm h mi se fr (markOf d) := ⟨_, rfl⟩
 have hg := nm_good h mi se fr d (by omega) (by omega) (by omega) (by omega)
 have hsl : s.length = 11 := by rw [hsd]; rfl
 have g0 : s[0]? = some (UInt8.ofNat (48 + h / 10)) ∧ s[0 + 1]? = some (UInt8.ofNat (48 + h % 10)) := by rw [hsd]; exact ⟨rfl, rfl⟩
 have g3 : s[3]? = some (UInt8.ofNat (48 + mi / 10)) ∧ s[3 + 1]? = some (UInt8.ofNat (48 + mi % 10)) := by rw [hsd]; exact ⟨rfl, rfl⟩
 have g6 : s[6]? = some (UInt8.ofNat (48 + se / 10)) ∧ s[6 + 1]? = some (UInt8.ofNat (48 + se % 10)) := by rw [hsd]; exact ⟨rfl, rfl⟩
 have g9 : s[9]? = some (UInt8.ofNat (48 + fr / 10)) ∧ s[9 + 1]? = some (UInt8.ofNat (48 + fr % 10)) := by rw [hsd]; exact ⟨rfl, rfl⟩
 rw [← hsd] at hg ⊢
 obtain ⟨w1, hw1⟩ : ∃ w1, w1 = w.alloc (.cells (rc (c, nu, de, d)).toArray 145) := ⟨_, rfl⟩
 have b1 : Blk w1 w.heap.size 145 (rc (c, nu, de, d)) := hw1 ▸ Blk.new w 145 _
 have G1 : w.grownBy w1 none := hw1 ▸ World.grownBy_alloc w _ none
 have bx1 : Eq_ Zp (Zo 145 (.agg #[.int .i64 c, .int .i64 nu, .int .i64 de, .int .i64 d])) w = some (.pointer (some ⟨w.heap.size, 0, none⟩), w1) := by rw [hw1]; rfl
 obtain ⟨w2, hw2⟩ : ∃ w2, w2 = w1.alloc (.cells #[st s] 9) := ⟨_, rfl⟩
 have b2 : Blk w2 w1.heap.size 9 [st s] := hw2 ▸ Blk.new w1 9 [st s]
 have G2 : w1.grownBy w2 none := hw2 ▸ World.grownBy_alloc w1 _ none
 have bx2 : Eq_ Zp (Zo 9 (st s)) w1 = some (.pointer (some ⟨w1.heap.size, 0, none⟩), w2) := by rw [hw2]; rfl
 have b12 : Blk w2 w.heap.size 145 (rc (c, nu, de, d)) := b1.grown G2 (by simp)
 have l2 := ld145b b12
 have c2 := b2.cell_eq 0 rfl
 obtain ⟨w3, h3, G3⟩ := form_ok (w := w2) c nu de d s hsl hg
 have b13 := b12.grown G3 (by simp)
 have b23 := b2.grown G3 (by simp)
 have c0 := b13.cell_eq 0 rfl
 have c3 := b13.cell_eq 3 rfl
 have p0 : C 133 #[.int .i64 0, .pointer (some ⟨w1.heap.size, 0, none⟩)] w3 = some (.int .i64 (h : Int), w3.drew) := part_ok b23 0 h (by omega) (by omega) (by omega) g0.1 g0.2
 have p3 : C 133 #[.int .i64 3, .pointer (some ⟨w1.heap.size, 0, none⟩)] w3.drew = some (.int .i64 (mi : Int), w3.drew.drew) := part_ok (w := w3.drew) b23 3 mi (by omega) (by omega) (by omega) g3.1 g3.2
 have p6 : C 133 #[.int .i64 6, .pointer (some ⟨w1.heap.size, 0, none⟩)] w3.drew.drew = some (.int .i64 (se : Int), w3.drew.drew.drew) := part_ok (w := w3.drew.drew) b23 6 se (by omega) (by omega) (by omega) g6.1 g6.2
 have p9 : C 133 #[.int .i64 9, .pointer (some ⟨w1.heap.size, 0, none⟩)] w3.drew.drew.drew = some (.int .i64 (fr : Int), w3.drew.drew.drew.drew) := part_ok (w := w3.drew.drew.drew) b23 9 fr (by omega) (by omega) (by omega) g9.1 g9.2
 have G7 : w.grownBy w3.drew.drew.drew.drew none := grown_step (grown_step (grown_step (grown_step (grown_step (grown_step G1 G2) G3) (drew_grown _)) (drew_grown _)) (drew_grown _)) (drew_grown _)
 refine ⟨_, f123.run rfl ?_, G7⟩
 obtain ⟨H, hH⟩ : ∃ H : Int, H = (h : Int) := ⟨_, rfl⟩
 obtain ⟨MI, hMI⟩ : ∃ H : Int, H = (mi : Int) := ⟨_, rfl⟩
 obtain ⟨SE, hSE⟩ : ∃ H : Int, H = (se : Int) := ⟨_, rfl⟩
 obtain ⟨FR, hFR⟩ : ∃ H : Int, H = (fr : Int) := ⟨_, rfl⟩
 have q1 := remN mi 10 (by omega)
 have q2 := quoN (60 * h + mi) 10 (by omega) (by omega)
 rw [show ((10 : Nat) : Int) = 10 from rfl] at q1 q2
 rw [← hH] at p0 ⊢
 rw [← hMI] at p3 q1 ⊢
 rw [← hSE] at p6 ⊢
 rw [← hFR] at p9 ⊢
 have z1 : ¬ (23 : Int) < H := by omega
 have z2 : ¬ (59 : Int) < MI := by omega
 have z3 : ¬ (59 : Int) < SE := by omega
 have z4 : ¬ c ≤ FR := by omega
 obtain ⟨V, hV⟩ : ∃ V : Int, V = ((60 * h + mi : Nat) : Int) := ⟨_, rfl⟩
 obtain ⟨T, hT⟩ : ∃ T : Int, T = (((60 * h + mi) / 10 : Nat) : Int) := ⟨_, rfl⟩
 rw [← hV, ← hT] at q2
 have e1 : IntKind.i64.wrap (60 * H) = 60 * H := wrap_i64 (by omega) (by omega)
 have e2 : IntKind.i64.wrap (60 * H + MI) = V := (wrap_i64 (by omega) (by omega)).trans (by omega)
 have e3 : IntKind.i64.wrap (60 * V) = 60 * V := wrap_i64 (by omega) (by omega)
 obtain ⟨U, hU⟩ : ∃ U, U = 60 * V + SE := ⟨_, rfl⟩
 have e4 : IntKind.i64.wrap (60 * V + SE) = U := (wrap_i64 (by omega) (by omega)).trans hU.symm
 have hU0 : 0 ≤ U ∧ U < 86400 := by omega
 have hcU : 0 ≤ c * U ∧ c * U ≤ 60 * U := ⟨Int.mul_nonneg (by omega) hU0.1, Int.mul_le_mul_of_nonneg_right (by omega) hU0.1⟩
 have e5 : IntKind.i64.wrap (c * U) = c * U := wrap_i64 (by omega) (by omega)
 have e6 : IntKind.i64.wrap (c * U + FR) = c * U + FR := wrap_i64 (by omega) (by omega)
 obtain ⟨K, hK⟩ : ∃ K, K = V - T := ⟨_, rfl⟩
 have e7 : IntKind.i64.wrap (V - T) = K := (wrap_i64 (by omega) (by omega)).trans hK.symm
 have hK0 : 0 ≤ K ∧ K ≤ 2000 := by omega
 have hdK : 0 ≤ d * K ∧ d * K ≤ 4 * K := ⟨Int.mul_nonneg (by omega) hK0.1, Int.mul_le_mul_of_nonneg_right (by omega) hK0.1⟩
 have e8 : IntKind.i64.wrap (d * K) = d * K := wrap_i64 (by omega) (by omega)
 have e9 : IntKind.i64.wrap (c * U + FR - d * K) = numP c d H MI SE FR := by
  have hV' : V = 60 * H + MI := by omega
  have hT' : T = (60 * H + MI) / 10 := by omega
  rw [wrap_i64 (by omega) (by omega), numP, hU, hK, hT', hV']
 have c0' : w3.cell? ⟨w.heap.size, 0, none⟩ = some (.int .i64 c) := c0
 have c3' : w3.cell? ⟨w.heap.size, 3, none⟩ = some (.int .i64 d) := c3
 obtain ⟨Q, hQ⟩ : ∃ Q : Int, Q = ((mi % 10 : Nat) : Int) := ⟨_, rfl⟩
 rw [← hQ] at q1
 obtain ⟨Z, hZ⟩ : ∃ Z, Z = numP c d H MI SE FR := ⟨_, rfl⟩
 rw [← hZ] at e9 ⊢
 simp only [rv] at l2 ⊢
 by_cases y1 : mi % 10 = 0
 ·have y1' : Q = 0 := by omega
  rw [y1'] at q1
  simp [f123, bx1, bx2, l2, c2, h3, callV, p0, p3, p6, p9, z1, z2, z3, addL, c0', z4, q1, e1, e2, e3, e4, e5, e6, c3', q2, e7, e8, e9]
 ·have y1' : ¬ Q = 0 := by omega
  by_cases y2 : SE = 0
  ·have y3 : ¬ FR < d := fun h => hd ⟨y1, by omega, by omega⟩
   have eU : IntKind.i64.wrap U = U := wrap_i64 (by omega) (by omega)
   have e3' : IntKind.i64.wrap (60 * V) = U := by rw [e3]; omega
   rw [y2] at p6 e4
   rw [Int.add_zero] at e4
   simp [f123, bx1, bx2, l2, c2, h3, callV, p0, p3, p6, p9, z1, z2, addL, c0', z4, q1, y1', y3, e1, e2, e3', eU, e5, e6, c3', q2, e7, e8, e9]
  ·simp [f123, bx1, bx2, l2, c2, h3, callV, p0, p3, p6, p9, z1, z2, z3, addL, c0', z4, q1, y1', y2, e1, e2, e3, e4, e5, e6, c3', q2, e7, e8, e9]
def num (l : List UInt8) : Nat := l.foldl (fun n c => 10 * n + (c.toNat - 48)) 0
theorem num_add (l : List UInt8) (c : UInt8) : num (l ++ [c]) = 10 * num l + (c.toNat - 48) := by simp [num]
theorem num_dec : ∀ k, k < 1000 → num (dec k) = k := by decide +kernel
theorem dec_dig : ∀ k, k < 1000 → (dec k).all (fun c => decide (48 ≤ c.toNat) && decide (c.toNat ≤ 57)) = true := by decide +kernel
theorem bytes_grown (w : World) (e : TypeId) (s : ByteArray) : w.grownBy (bytesWorld w e s) none :=
 ⟨rfl, rfl, rfl, by rw [bytesWorld_size]; omega, fun k hk _ => bytesWorld_at_old w e s k hk⟩
theorem cv9_160 (l : List UInt8) (w : World) : Eq_ Zp (convert 9 160 (st l)) w = some (.slice (some ⟨w.heap.size, 0, none⟩) l.length (grownCap w l.length 0 5), bytesWorld w 5 ⟨l.toArray⟩) := by
 have h := Go.Lib.run_convert_string_bytes (P := Zp) w 9 160 5 ⟨l.toArray⟩ Uz Tryz.underlying160 Tryz.underlying5
 rw [st_size] at h
 exact erun_of_run h
theorem atoi98 (l : List UInt8) (hl : 1 ≤ l.length) (hl' : l.length ≤ 18) (hd : ∀ c ∈ l, 48 ≤ c.toNat ∧ c.toNat ≤ 57) (w : World) : ∃ w', C 98 #[st l] w = some (.tuple #[.int .i64 (num l : Nat), .nilIface], w') ∧ w.grownBy w' none := by
 have hs := fun t => str_len (P := Zp) Uz t l
 have ix := str_index (P := Zp) Uz l .i64 0 (by omega)
 have hd0 := hd l[0] (List.getElem_mem _)
 obtain ⟨N0, hN0⟩ : ∃ N : Nat, N = l[0].toNat := ⟨_, rfl⟩
 rw [← hN0] at ix hd0
 rw [show ((0 : Nat) : Int) = 0 from rfl] at ix
 have a1 : ¬ (N0 : Int) = 45 := by omega
 have a2 : ¬ (N0 : Int) = 43 := by omega
 have p1 : (0 : Int) < l.length := by omega
 have p1' : 0 < l.length := by omega
 have p2 : (l.length : Int) < 19 := by omega
 obtain ⟨w1, hw1⟩ : ∃ w1, w1 = bytesWorld w 5 ⟨l.toArray⟩ := ⟨_, rfl⟩
 have cv := cv9_160 l w
 have g1 : w.grownBy w1 none := hw1 ▸ bytes_grown w 5 ⟨l.toArray⟩
 rw [← hw1] at cv
 obtain ⟨cp, hcp⟩ : ∃ cp, cp = grownCap w l.length 0 5 := ⟨_, rfl⟩
 rw [← hcp] at cv
 have rd : ∀ j (hj : j < l.length), w1.cell? ⟨w.heap.size, j, none⟩ = some (.int .u8 (l[j].toNat)) := fun j hj => by
  rw [hw1, bytesWorld_cell w 5 ⟨l.toArray⟩ j (by rw [st_size]; exact hj)]
  simp [List.getD_eq_getElem?_getD, Yg hj]
 have cv3 : ∀ z : Int, Pq Zp (convert 5 3 (.int .u8 z)) = some (.int .i64 (IntKind.i64.wrap z)) := fun z => id (by kernel_rfl)
 have key := iter_down (f := f98.l0 C) (fun d ws w2 => ∃ i : Nat, ws = [st l, .int .i64 ((num (l.take i) : Nat) : Int), .slice (some ⟨w.heap.size, 0, none⟩) l.length cp, .int .i64 (l.length : Int), .int .i64 (i : Int)] ∧ i + d = l.length ∧ w2 = w1 ∧ num (l.take i) < 10 ^ i)
  (fun r => r = .exit 0 [st l, .int .i64 ((num l : Nat) : Int)] w1) (by
   rintro d ws w2 ⟨i, rfl, hi, rfl, hb⟩
   cases d with
   | zero =>
    obtain rfl : i = l.length := by omega
    rw [List.take_length]
    exact .inr ⟨.exit 0 [st l, .int .i64 ((num l : Nat) : Int)] w2, by simp [f98.l0], rfl, by simp⟩
   | succ d =>
    have hil : i < l.length := by omega
    have hlt : (i : Int) < l.length := by omega
    have i1 := ix160 ⟨w.heap.size, 0, none⟩ l.length cp .i64 (i : Int) (by omega) hlt
    have c1 := rd i hil
    have hdi := hd l[i] (List.getElem_mem _)
    have htk : l.take (i + 1) = l.take i ++ [l[i]] := List.take_succ_eq_append_getElem hil
    have hna := num_add (l.take i) l[i]
    rw [← htk] at hna
    obtain ⟨N, hN⟩ : ∃ N : Nat, N = l[i].toNat := ⟨_, rfl⟩
    rw [← hN] at c1 hdi hna
    have hp : 10 ^ i ≤ 10 ^ 17 := Nat.pow_le_pow_right (by omega) (by omega)
    have hps : 10 ^ (i + 1) = 10 * 10 ^ i := by rw [Nat.pow_succ]; omega
    have e0 : IntKind.u8.wrap ((N : Int) - 48) = ((N - 48 : Nat) : Int) := by rw [show (N : Int) - 48 = ((N - 48 : Nat) : Int) by omega, wrap_u8n]; congr 1; omega
    obtain ⟨M, hM⟩ : ∃ M : Nat, M = num (l.take i) := ⟨_, rfl⟩
    rw [← hM] at hb hna ⊢
    obtain ⟨D, hD⟩ : ∃ D : Nat, D = N - 48 := ⟨_, rfl⟩
    rw [← hD] at e0 hna
    have e1 : IntKind.i64.wrap ((M : Int) * 10) = (M : Int) * 10 := wrap_i64 (by omega) (by omega)
    have e2 : IntKind.i64.wrap (D : Int) = (D : Int) := wrap_i64 (by omega) (by omega)
    have e3 : IntKind.i64.wrap ((M : Int) * 10 + (D : Int)) = ((num (l.take (i + 1)) : Nat) : Int) := (wrap_i64 (by omega) (by omega)).trans (by omega)
    have e4 : IntKind.i64.wrap ((i : Int) + 1) = ((i + 1 : Nat) : Int) := (wrap_i64 (by omega) (by omega)).trans (by omega)
    have hng : ¬ (9 : Int) < D := by omega
    refine .inl ⟨d, _, w2, by omega, ?_, ⟨i + 1, rfl, by omega, rfl, by omega⟩⟩
    obtain ⟨Q, hQ⟩ : ∃ Q : Int, Q = ((num (l.take (i + 1)) : Nat) : Int) := ⟨_, rfl⟩
    rw [← hQ] at e3 ⊢
    simp [f98.l0, hlt, i1, addL, c1, e0, hng, e1, cv3, e2, e3, e4]) l.length [st l, .int .i64 0, .slice (some ⟨w.heap.size, 0, none⟩) l.length cp, .int .i64 (l.length : Int), .int .i64 0] w1 ⟨0, rfl, by omega, rfl, by simp [num]⟩
 obtain ⟨r, h1, rfl⟩ := key
 refine ⟨w1, f98.run rfl ?_, g1⟩
 simp [f98, hs, p1, p1', p2, ix, a1, a2, cv, h1]
theorem atoi_ok (l : List UInt8) (hl : 1 ≤ l.length) (hl' : l.length ≤ 18) (hd : ∀ c ∈ l, 48 ≤ c.toNat ∧ c.toNat ≤ 57) (w : World) : ∃ w', C 66 #[st l] w = some (.tuple #[.int .i64 (num l : Nat), .nilIface], w') ∧ w.grownBy w' none := by
 obtain ⟨w', h, g⟩ := atoi98 l hl hl' hd w
 exact ⟨w', f66.run rfl (by simp [f66, h]), g⟩
theorem atoi_dec {k : Nat} (h : k < 1000) (w : World) : ∃ w', C 66 #[st (dec k)] w = some (.tuple #[.int .i64 (k : Int), .nilIface], w') ∧ w.grownBy w' none := by
 obtain ⟨d1, d2⟩ : (1 ≤ (dec k).length ∧ (dec k).length ≤ 18) := by
  have := dec_len k
  refine ⟨?_, by omega⟩
  unfold dec
  cases Nat.blt k 10 <;> cases Nat.blt k 100 <;> simp
 have := atoi_ok (dec k) d1 d2 (fun c hc => by
  have := List.all_eq_true.mp (dec_dig k h) c hc
  simpa using this) w
 rw [num_dec k h] at this
 exact this
theorem isFade_ok {w : World} (hG : GlobOk gl2 w) {k : Nat} (h1 : 1 ≤ k) (h2 : k ≤ 100) : ∃ w', C 65 #[st (dec k)] w = some (.bool true, w') ∧ w.grownBy w' none := by
 obtain ⟨w1, k1, g1⟩ := atoi_dec (k := k) (by omega) w
 obtain ⟨w2, k2, g2⟩ := itoa_ok (globOk_grown hG g1) (k := k) (by omega)
 have a1 : (1 : Int) ≤ k := by omega
 have a2 : (k : Int) ≤ 100 := by omega
 have eq := fun x y => str_eql (P := Zp) (t := 9) x y (dec k) (dec k)
 exact ⟨w2, f65.run rfl (by simp [f65, k1, a1, a2, k2, eq]), grown_step g1 g2⟩
theorem left_any (r d : Int) (hr : (r = 4 ∧ d = 2) ∨ (r = 7 ∧ d = 4) ∨ (r ≠ 4 ∧ r ≠ 7 ∧ d = 0)) (m : Nat) (hm : m ≤ 2000) (w : World) : C 108 #[.int .i64 r, .int .i64 (m : Int)] w = some (.int .i64 (leftAt d m), w) := by
 have q := remN m 10 (by omega)
 rw [show ((10 : Nat) : Int) = 10 from rfl] at q
 refine f108.run rfl ?_
 unfold leftAt
 by_cases h : m % 10 = 0
 ·rw [h] at q
  rw [if_pos h]
  simp [f108, q]
 ·rw [if_neg h]
  obtain ⟨Q, hQ⟩ : ∃ Q : Int, Q = ((m % 10 : Nat) : Int) := ⟨_, rfl⟩
  rw [← hQ] at q
  have hQ0 : ¬ Q = 0 := by omega
  rcases hr with ⟨rfl, rfl⟩ | ⟨rfl, rfl⟩ | ⟨h1, h2, rfl⟩
  ·simp [f108, q, hQ0]
  ·simp [f108, q, hQ0]
  ·simp [f108, q, hQ0, h1, h2]
structure RefRate (r : Int) (x : Int × Int × Int × Int) : Prop where
 may : ∀ w, C 124 #[.int .i64 r] w = some (.bool true, w)
 count : ∀ w, C 87 #[.int .i64 r] w = some (.int .i64 x.1, w)
 left : ∀ (m : Nat) (w : World), m ≤ 2000 → C 108 #[.int .i64 r, .int .i64 (m : Int)] w = some (.int .i64 (leftAt x.2.2.2 m), w)
theorem leftAt_in {d : Int} (h0 : 0 ≤ d) (m : Nat) : 0 ≤ leftAt d m ∧ leftAt d m ≤ d := by unfold leftAt; split <;> omega
theorem cum_in {c d : Int} (hc : 24 ≤ c ∧ c ≤ 60) (hd : 0 ≤ d ∧ d ≤ 4) : ∀ m : Nat, 0 ≤ cum c d m ∧ cum c d m ≤ 3600 * m
 | 0 => by simp [cum]
 | m + 1 => by
  have ih := cum_in hc hd m
  have := leftAt_in hd.1 m
  rw [cum]
  omega
theorem ref_behind {r : Int} {x : Int × Int × Int × Int} (R : RefRate r x) (w : World) : C 88 #[.int .i64 r] w = some (st [UInt8.ofNat (markOf x.2.2.2)], w) := by
 have h1 := R.left 1 w (by omega)
 have e : leftAt x.2.2.2 1 = x.2.2.2 := rfl
 rw [e, show ((1 : Nat) : Int) = 1 from rfl] at h1
 refine f88.run rfl ?_
 unfold markOf
 by_cases h : 0 < x.2.2.2
 ·simp [f88, h1, h]
 ·simp [f88, h1, h]
theorem ref_rname {r : Int} (h1 : 1 ≤ r) (h7 : r ≤ 7) (w : World) : C 42 #[.int .i64 r] w = some (st (rname r), w) := by
 rcases (show r = 1 ∨ r = 2 ∨ r = 3 ∨ r = 4 ∨ r = 5 ∨ r = 6 ∨ r = 7 by omega) with rfl | rfl | rfl | rfl | rfl | rfl | rfl <;> exact f42.run rfl (by simp [f42]; rfl)
open Go Go.Proofs Go.RowKit Go.Sh.Ev
structure Lay (w : World) : Prop where
 u : Ut w
 t : Tb w
 g : GlobOk gl2 w
 h : w.cell? ⟨0, 0, none⟩ = some hnd
theorem Lay.grown {w w' : World} (h : Lay w) (g : w.grownBy w' none) : Lay w' := ⟨h.u.grown g, h.t.grown g, globOk_grown h.g g, by
 have h1 : Rd w (some ⟨0, 0, none⟩) [hnd] := fun j v hj => by
  cases j with
  | zero => simp at hj; subst hj; exact h.h
  | succ j => simp at hj
 exact h1.grown g 0 hnd rfl⟩
theorem as_nil (v : Value) (w : World) : C 34 #[.nilIface, v] w = some (.bool false, w) := f34.run rfl (by simp [f34])
theorem is_nil (z : Int) (w : World) : C 22 #[.nilIface, .iface 35 (.int .i64 z)] w = some (.bool false, w) := by
 have h : ∀ x y, Rq Zp (do eqGuard .eql 32 x y .nilIface (.iface 35 (.int .i64 z)); binOp .eql 32 .nilIface (.iface 35 (.int .i64 z))) w = some (.bool false) := fun x y => id (by kernel_rfl)
 exact f22.run rfl (by simp [f22, h])
theorem alloc82 (w : World) : Eq_ Zp (Za 82 true (.tuple #[])) w = some (.pointer (some ⟨w.heap.size, 0, none⟩), w.alloc (.cells #[.pointer none] 82)) := id (by kernel_rfl)
theorem mk85 (v : Value) : Pq Zp (Zm 85 v) = some (.iface 85 v) := id (by kernel_rfl)
section
variable {W : World} {X : Asn W.heap.size}
end
noncomputable def ev3 (call : CallF) (vs_1 : List Value) (W2 : World) : Option Res :=
 let t0_2 := nth vs_1 0
 let o1_2 := nth vs_1 1
 let a5_1 := nth vs_1 2
 let y6_1 := nth vs_1 3
 let v11 := nth vs_1 4
 (call 63 #[t0_2] W2).bind fun r114 =>
 (Rq Zp (do eqGuard .neq 32 (Ot 115) (Oc Vn) r114.1 Vn; binOp .neq 32 r114.1 Vn) r114.2).bind fun v116 =>
 (asB v116).bind fun c116 =>
 if c116 then
  some (Xr [r114.1] r114.2)
 else
 ((nilV Zp o1_2).bind fun v120 =>
 some (v120, r114.2.drew)).bind fun r120 =>
 ((Pq Zp (Zf 30 r120.1 2)).bind fun v121 =>
 some (v121, r120.2)).bind fun r121 =>
 ((Rq Zp (Zl 28 r121.1) r121.2).bind fun v122 =>
 some (v122, r121.2)).bind fun r122 =>
 ((Rq Zp (Zl 51 a5_1) r122.2).bind fun v123 =>
 some (v123, r122.2)).bind fun r123 =>
 ((Eq_ Zp (Instr.buildSlice 28 1 #[(0, r123.1)]) r123.2).bind fun r124_1 =>
 some (r124_1.1, r124_1.2)).bind fun r124 =>
 ((Eq_ Zp (Builtin.append_ #[28, 28] 28 #[r122.1, r124.1]) r124.2).bind fun r125_1 =>
 some (r125_1.1, r125_1.2)).bind fun r125 =>
 ((nilV Zp o1_2).bind fun v126 =>
 some (v126, r125.2)).bind fun r126 =>
 ((Pq Zp (Zf 30 r126.1 2)).bind fun v127 =>
 some (v127, r126.2)).bind fun r127 =>
 ((Eq_ Zp (Zs 28 r127.1 r125.1) r127.2).bind fun r_12 =>
 some (undef, r_12.2)).bind fun r_11 =>
 chkThen ((((Rq Zp (Zl 28 r121.1) r123.2).bind fun v122_1 => some v122_1) = some r122.1 ∧ ((Rq Zp (Zl 28 r121.1) r124.2).bind fun v122_2 => some v122_2) = some r122.1) ∧ True)
 ((nilV Zp o1_2).bind fun v129 =>
 (Rq Zp (Zl 30 v129) r_11.2).bind fun v130 =>
 (call 15 #[v130] r_11.2).bind fun r131 =>
 ((Pq Zp (Zm 35 (Vi Ki 194))).bind fun v134 =>
 (call 22 #[r131.1, v134] r131.2).bind fun r135 =>
 (asB r135.1).bind fun c132 =>
 if c132 then
  (Pq Zp (Zf 114 v11 0)).bind fun v136 =>
  (Rq Zp (Zl 3 v136) r135.2).bind fun v137 =>
  (call 23 #[v137, (Vi Ki 194)] r135.2).bind fun r138 =>
  some (Xr [r138.1] r138.2)
 else
 (Rq Zp (do eqGuard .neq 32 (Ot 140) (Oc Vn) r131.1 Vn; binOp .neq 32 r131.1 Vn) r135.2).bind fun v141 =>
 (asB v141).bind fun c139 =>
 if c139 then
  (Pq Zp (Zf 114 y6_1 0)).bind fun v142 =>
  (Rq Zp (Zl 3 v142) r135.2).bind fun v143 =>
  (call 23 #[v143, (Vi Ki 195)] r135.2).bind fun r144 =>
  some (Xr [r144.1] r144.2)
 else
 some (Xn [] r135.2)).bind fun (r : Res) => (r.unblock 0).cont fun vs_2 W3 =>
 some (Xr [Vn] W3))
noncomputable def ev2 (call : CallF) (vs : List Value) (W1 : World) : Option Res :=
 let t0_1 := nth vs 0
 let o1_1 := nth vs 1
 let a5 := nth vs 2
 let y6 := nth vs 3
 (call 58 #[t0_1, (.func (.func 67) #[] #[])] W1).bind fun r58 =>
 (Pq Zp (Zx r58.1 0)).bind fun v59 =>
 (Pq Zp (Zx r58.1 1)).bind fun v60 =>
 (Eq_ Zp (Za 114 true (.tuple #[])) r58.2).bind fun r10 =>
 (Eq_ Zp (Zs 114 r10.1 v59) r10.2).bind fun r_3 =>
 (Rq Zp (do eqGuard .neq 32 (Ot 61) (Oc Vn) v60 Vn; binOp .neq 32 v60 Vn) r_3.2).bind fun v62 =>
 (asB v62).bind fun c62 =>
 if c62 then
  some (Xr [v60] r_3.2)
 else
 (Pq Zp (Zf 114 r10.1 1)).bind fun v64 =>
 (Rq Zp (Zl 9 v64) r_3.2).bind fun v65 =>
 (Pq Zp (Zf 51 a5 0)).bind fun v66 =>
 (Eq_ Zp (Zs 9 v66 v65) r_3.2).bind fun r_4 =>
 (nilV Zp o1_1).bind fun v70 =>
 (Pq Zp (Zf 30 v70 1)).bind fun v71 =>
 (Rq Zp (Zl 27 v71) r_4.2).bind fun v72 =>
 (call 68 #[t0_1, v72] r_4.2).bind fun r73 =>
 (Pq Zp (Zx r73.1 0)).bind fun v74 =>
 (Pq Zp (Zx r73.1 1)).bind fun v75 =>
 (Pq Zp (Zx r73.1 2)).bind fun v76 =>
 (Pq Zp (Zf 51 a5 1)).bind fun v77 =>
 (Eq_ Zp (Zs 3 v77 v74) r73.2).bind fun r_5 =>
 (Rq Zp (do eqGuard .neq 32 (Ot 78) (Oc Vn) v76 Vn; binOp .neq 32 v76 Vn) r_5.2).bind fun v79 =>
 (asB v79).bind fun c79 =>
 if c79 then
  some (Xr [v76] r_5.2)
 else
 (Pq Zp (Instr.build 114 #[])).bind fun v81 =>
 (Eq_ Zp (Za 114 true (.tuple #[])) r_5.2).bind fun r11 =>
 (Eq_ Zp (Zs 114 r11.1 v81) r11.2).bind fun r_6 =>
 (nilV Zp o1_1).bind fun v85 =>
 (Pq Zp (Zf 30 v85 1)).bind fun v86 =>
 (Rq Zp (Zl 27 v86) r_6.2).bind fun v87 =>
 (call 68 #[t0_1, v87] r_6.2).bind fun r88 =>
 (Pq Zp (Zx r88.1 0)).bind fun v89 =>
 (Pq Zp (Zx r88.1 1)).bind fun v90 =>
 (Pq Zp (Zx r88.1 2)).bind fun v91 =>
 (Pq Zp (Zf 51 a5 2)).bind fun v92 =>
 (Eq_ Zp (Zs 3 v92 v89) r88.2).bind fun r_7 =>
 (Eq_ Zp (Zs 114 r11.1 v90) r_7.2).bind fun r_8 =>
 (Rq Zp (do eqGuard .neq 32 (Ot 93) (Oc Vn) v91 Vn; binOp .neq 32 v91 Vn) r_8.2).bind fun v94 =>
 (asB v94).bind fun c94 =>
 if c94 then
  some (Xr [v91] r_8.2)
 else
 (nilV Zp t0_1).bind fun v97 =>
 (Pq Zp (Zf 64 v97 0)).bind fun v98 =>
 (Rq Zp (Zl 62 v98) r_8.2).bind fun v99 =>
 (Pq Zp (Builtin.len_ #[62] 3 #[v99])).bind fun v100 =>
 (bin .gtr v100 (Vi Ki 0)).bind fun v101 =>
 (asB v101).bind fun c101 =>
 (if c101 then
  (call 62 #[t0_1, (Value.bool true)] r_8.2).bind fun r104 =>
  (Pq Zp (Zx r104.1 0)).bind fun v105 =>
  (Pq Zp (Zx r104.1 1)).bind fun v106 =>
  (Eq_ Zp (Za 114 true (.tuple #[])) r104.2).bind fun r12 =>
  (Eq_ Zp (Zs 114 r12.1 v105) r12.2).bind fun r_9 =>
  (Rq Zp (do eqGuard .neq 32 (Ot 107) (Oc Vn) v106 Vn; binOp .neq 32 v106 Vn) r_9.2).bind fun v108 =>
  (asB v108).bind fun c108 =>
  if c108 then
   some (Xr [v106] r_9.2)
  else
  (Pq Zp (Zf 114 r12.1 1)).bind fun v110 =>
  (Rq Zp (Zl 9 v110) r_9.2).bind fun v111 =>
  (Pq Zp (Zf 51 a5 4)).bind fun v112 =>
  (Eq_ Zp (Zs 9 v112 v111) r_9.2).bind fun r_10 =>
  some (Xn [t0_1, o1_1, a5, y6, r11.1] r_10.2)
  else
  some (Xn [t0_1, o1_1, a5, y6, r11.1] r_8.2)).bind fun (r : Res) => r.cont (ev3 call)
theorem f28.parts (call : CallF) (t0 : Value) (o1 : Value) (W0 : World) : f28 call t0 o1 W0 =
 ((nilV Zp o1).bind fun v17 =>
 (Pq Zp (Zf 30 v17 2)).bind fun v18 =>
 (Rq Zp (Zl 28 v18) W0).bind fun v19 =>
 (Pq Zp (Builtin.len_ #[28] 3 #[v19])).bind fun v20 =>
 (bin .eql v20 (Vi Ki 200)).bind fun v21 =>
 (asB v21).bind fun c21 =>
 if c21 then
  (nilV Zp t0).bind fun v23 =>
  (Pq Zp (Zf 64 v23 0)).bind fun v24 =>
  (Rq Zp (Zl 62 v24) W0).bind fun v25 =>
  (Pq Zp (Instr.indexAt 62 v25 (Vi Ki 0))).bind fun v26 =>
  (Pq Zp (Zf 114 v26 0)).bind fun v27 =>
  (Rq Zp (Zl 3 v27) W0).bind fun v28 =>
  (call 23 #[v28, (Vi Ki 196)] W0).bind fun r29 =>
  some (Xr [r29.1] r29.2)
 else
 (Eq_ Zp (Za 51 true (.tuple #[])) W0).bind fun r5 =>
 (call 58 #[t0, (.func (.func 64) #[] #[])] r5.2).bind fun r32 =>
 (Pq Zp (Zx r32.1 0)).bind fun v33 =>
 (Pq Zp (Zx r32.1 1)).bind fun v34 =>
 (Eq_ Zp (Za 114 true (.tuple #[])) r32.2).bind fun r6 =>
 (Eq_ Zp (Zs 114 r6.1 v33) r6.2).bind fun r =>
 (Rq Zp (do eqGuard .neq 32 (Ot 35) (Oc Vn) v34 Vn; binOp .neq 32 v34 Vn) r.2).bind fun v36 =>
 (asB v36).bind fun c36 =>
 if c36 then
  some (Xr [v34] r.2)
 else
 (Pq Zp (Zf 114 r6.1 1)).bind fun v38 =>
 (Rq Zp (Zl 9 v38) r.2).bind fun v39 =>
 (Pq Zp (do eqGuard .eql 9 (Ot 39) (Oc (Vs { data := #[102, 97, 100, 101] })) v39 (Vs { data := #[102, 97, 100, 101] }); binOp .eql 9 v39 (Vs { data := #[102, 97, 100, 101] }))).bind fun v40 =>
 (asB v40).bind fun c40 =>
 (if c40 then
  (call 58 #[t0, (.func (.func 65) #[] #[])] r.2).bind fun r43 =>
  (Pq Zp (Zx r43.1 0)).bind fun v44 =>
  (Pq Zp (Zx r43.1 1)).bind fun v45 =>
  (Eq_ Zp (Za 114 true (.tuple #[])) r43.2).bind fun r8 =>
  (Eq_ Zp (Zs 114 r8.1 v44) r8.2).bind fun r_1 =>
  (Rq Zp (do eqGuard .neq 32 (Ot 46) (Oc Vn) v45 Vn; binOp .neq 32 v45 Vn) r_1.2).bind fun v47 =>
  (asB v47).bind fun c47 =>
  if c47 then
   some (Xr [v45] r_1.2)
  else
  (Pq Zp (Zf 114 r8.1 1)).bind fun v50 =>
  (Rq Zp (Zl 9 v50) r_1.2).bind fun v51 =>
  (call 66 #[v51] r_1.2).bind fun r52 =>
  (Pq Zp (Zx r52.1 0)).bind fun v53 =>
  (Pq Zp (Zx r52.1 1)).bind fun v54 =>
  (Pq Zp (Zf 51 r5.1 3)).bind fun v55 =>
  (Eq_ Zp (Zs 3 v55 v53) r52.2).bind fun r_2 =>
  some (Xn [t0, o1, r5.1, r6.1] r_2.2)
  else
  some (Xn [t0, o1, r5.1, r6.1] r.2)).bind fun (r : Res) => r.cont (ev2 call)).bind Res.done := rfl
theorem fine_short {t : List UInt8} {r : Int} {q : List Ev} (F : Fine t r q) : Short q := fun e he => by
 obtain ⟨i, hi⟩ := List.getElem?_of_mem he
 obtain ⟨⟨m0, m1, m2⟩, m3, m4, n1, n2, n3, n4, n5⟩ := evCode_zero (F.ev i e hi) (dayOf_le r)
 have := (isName_gd n1).2.2
 exact ⟨by omega, by omega⟩
theorem bs28 (e : Ev) (w : World) : Eq_ Zp (Instr.buildSlice 28 1 #[(0, e.v)]) w = some (.slice (some ⟨w.heap.size, 0, none⟩) 1 1, w.alloc (.cells e.cs.toArray 51)) := id (by kernel_rfl)
theorem cs_one (e : Ev) : ∀ u ∈ e.cs, u.oneCell' = true := by
 intro u hu
 simp only [Ev.cs, List.mem_cons, List.not_mem_nil, or_false] at hu
 rcases hu with rfl | rfl | rfl | rfl | rfl <;> rfl
section
variable {W : World} {X : Asn W.heap.size}
theorem ev_bl {w : World} {b : Nat} {e : Ev} (s : Sat W (blkA b 51 e.cs * X) w) : Rq Zp (Zl 51 (.pointer (some ⟨b, 0, none⟩))) w = some e.v := ev_blk s.blk
abbrev cutS (lb : Nat) (t : List UInt8) (r : Int) (v : Value) (q : List Ev) (X : Asn W.heap.size) : Asn W.heap.size := blkA lb 30 [st t, .int .i64 r, v] * (rowA 51 5 v q.length (q.flatMap Ev.cs) * X)
end
def sv (l : List (List UInt8)) : List Value := l.map fun s => st s
section
variable {W : World} {X : Asn W.heap.size}
abbrev Part := Option Addr × Nat × List (List UInt8)
def pv (p : Part) : Value := .slice p.1 p.2.2.length p.2.1
end
def outs (ks : List Tk) : List (List UInt8) := ks.map Tk.out
section
variable {W : World} {X : Asn W.heap.size}
end
def LinesAt (w : World) (A : Option Addr) (ls : List (List (List UInt8))) : Prop := ∃ parts : List Part, Rd w A (parts.map pv) ∧ parts.map (·.2.2) = ls ∧ ∀ p ∈ parts, Rd w p.1 (sv p.2.2)
theorem LinesAt.grown {w w' : World} {A : Option Addr} {ls : List (List (List UInt8))} (h : LinesAt w A ls) (g : w.grownBy w' none) : LinesAt w' A ls := by
 obtain ⟨parts, h1, h2, h3⟩ := h
 exact ⟨parts, h1.grown g, h2, fun p hp => (h3 p hp).grown g⟩
structure Fill (w : World) (A : Option Addr) (c : Nat) (kss : List (List Tk)) (Af : Option Addr) (cf : Nat) (zs : List Int) (b1 b2 b3 b4 : Nat) : Prop where
 lines : LinesAt w A (kss.map outs)
 fill : Rd w Af (zs.map (Vi .i64))
 wf : ∀ z ∈ zs, -9223372036854775808 ≤ z ∧ z ≤ 9223372036854775807
 zl : zs.length ≤ 9223372036854775807
 blank : Blk w b1 9 (sv blankS)
 free : Blk w b2 9 (sv freeS)
 none : Blk w b3 9 (sv noneS)
 ends : Blk w b4 9 (sv endS)
theorem Fill.drew {w : World} {A : Option Addr} {c : Nat} {kss : List (List Tk)} {Af : Option Addr} {cf : Nat} {zs : List Int} {b1 b2 b3 b4 : Nat} (h : Fill w A c kss Af cf zs b1 b2 b3 b4) : Fill w.drew A c kss Af cf zs b1 b2 b3 b4 :=
 ⟨h.lines.grown (drew_grown w), h.fill.grown (drew_grown w), h.wf, h.zl, h.blank.grown (drew_grown w) (by simp), h.free.grown (drew_grown w) (by simp), h.none.grown (drew_grown w) (by simp), h.ends.grown (drew_grown w) (by simp)⟩
section
variable {w : World} {A : Option Addr} {c : Nat} {kss : List (List Tk)} {Af : Option Addr} {cf : Nat} {zs : List Int} {b1 b2 b3 b4 : Nat}
end
abbrev sl (b m : Nat) : Value := .slice (some ⟨b, 0, none⟩) m m
section
variable {w : World} {A : Option Addr} {c : Nat} {kss : List (List Tk)} {Af : Option Addr} {cf : Nat} {zs : List Int} {b1 b2 b3 b4 : Nat}
end
section
variable {W : World} {X : Asn W.heap.size}
abbrev evB (eb : Nat) (s : List UInt8) (i o f : Int) (n : List UInt8) : Asn W.heap.size := blkA eb 51 [st s, .int .i64 i, .int .i64 o, .int .i64 f, st n]
end
section
variable {W : World} {X : Asn W.heap.size}
end
theorem indexByte_at : ∀ (l r : List UInt8), (∀ c ∈ l, c ≠ 10) → indexByte (l ++ 10 :: r) 10 = l.length
 | [], r, _ => by simp [indexByte]
 | c :: l, r, h => by
  have ih := indexByte_at l r fun d hd => h d (by simp [hd])
  have hc := h c (by simp)
  rw [List.cons_append, indexByte]
  simp [hc, ih]
  try omega
theorem build64 : Pq Zp (Instr.build 64 #[]) = some (.agg #[.slice none 0 0, .int .i64 0]) := id (by kernel_rfl)
section
variable {W : World} {X : Asn W.heap.size}
end
section
variable {W : World} {X : Asn W.heap.size}
end
section
variable {W : World} {X : Asn W.heap.size}
end
theorem sameEvents_ok {w : World} {A B : Option Addr} {c d : Nat} {q : List Ev} (hA : Rd w A (q.flatMap Ev.cs)) (hB : Rd w B (q.flatMap Ev.cs)) (hq : q.length ≤ 1000) : ∃ w', C 33 #[.slice A q.length c, .slice B q.length d] w = some (.bool true, w') ∧ w.grownBy w' none := by
 have ne51 : ∀ (e : Ev) (x y : Operand) (w : World), Rq Zp (do eqGuard .neq 51 x y e.v e.v; binOp .neq 51 e.v e.v) w = some (.bool false) := fun e x y w => by simp [Ev.v]
 have key := iter_down (f := f33.l0 C) (fun n ws w1 => ∃ i : Nat, ws = [.slice A q.length c, .slice B q.length d, .int .i64 (i : Int)] ∧ i + n = q.length ∧ w.grownBy w1 none)
  (fun res => ∃ w1, res = .exit 0 [] w1 ∧ w.grownBy w1 none) (by
   rintro n ws w1 ⟨i, rfl, hi, g⟩
   cases n with
   | zero =>
    obtain rfl : i = q.length := by omega
    exact .inr ⟨.exit 0 [] w1, by simp [f33.l0], ⟨w1, rfl, g⟩, by simp⟩
   | succ n =>
    have hil : i < q.length := by omega
    have hlt : (i : Int) < (q.length : Int) := by omega
    have hqe : q[i]? = some q[i] := Yg hil
    have e1 : IntKind.i64.wrap ((i : Int) + 1) = ((i + 1 : Nat) : Int) := (wrap_i64 (by omega) (by omega)).trans (by omega)
    have hne : q.flatMap Ev.cs ≠ [] := by
     intro h
     have := fm_len q
     rw [h] at this
     simp only [List.length_nil] at this
     omega
    cases A with
    | none => exact absurd hA hne
    | some a =>
     cases B with
     | none => exact absurd hB hne
     | some b =>
      have ia := ix28 a q.length c .i64 (i : Int) (by omega) hlt
      have ib := ix28 b q.length d .i64 (i : Int) (by omega) hlt
      simp only [Int.toNat_natCast] at ia ib
      have la := ev_ld (hA.grown (grown_step g (drew_grown w1))) hqe
      have lb := ev_ld (hB.grown (grown_step g (drew_grown w1))) hqe
      have ne := ne51 q[i]
      obtain ⟨V, hV⟩ : ∃ V, V = (q[i]).v := ⟨_, rfl⟩
      rw [← hV] at la lb
      simp only [← hV] at ne
      obtain ⟨I, hI⟩ : ∃ I : Int, I = ((i + 1 : Nat) : Int) := ⟨_, rfl⟩
      refine .inl ⟨n, _, w1.drew, by omega, ?_, ⟨i + 1, rfl, by omega, grown_step g (drew_grown w1)⟩⟩
      rw [← hI] at e1 ⊢
      simp [f33.l0, hlt, hil, ia, ib, la, lb, ne, e1]) q.length [.slice A q.length c, .slice B q.length d, .int .i64 0] w ⟨0, rfl, by omega, grown_refl _ _⟩
 obtain ⟨res, h1, w1, rfl, g⟩ := key
 exact ⟨w1, f33.run rfl (by simp [f33, h1]), g⟩
theorem same_ok {w : World} {A B : Option Addr} {c d : Nat} {t : List UInt8} {r : Int} {q : List Ev} (hA : Rd w A (q.flatMap Ev.cs)) (hB : Rd w B (q.flatMap Ev.cs)) (hq : q.length ≤ 1000) : ∃ w', C 11 #[cutV t r A q.length c, cutV t r B q.length d] w = some (.bool true, w') ∧ w.grownBy w' none := by
 obtain ⟨w1, hw1⟩ : ∃ w1, w1 = w.alloc (.cells #[st t, .int .i64 r, .slice A q.length c] 30) := ⟨_, rfl⟩
 have B1 : Blk w1 w.heap.size 30 [st t, .int .i64 r, .slice A q.length c] := hw1 ▸ Blk.new w 30 _
 have g1 : w.grownBy w1 none := hw1 ▸ World.grownBy_alloc w _ none
 have b1 : Eq_ Zp (Zo 30 (.agg #[st t, .int .i64 r, .slice A q.length c])) w = some (.pointer (some ⟨w.heap.size, 0, none⟩), w1) := by rw [hw1]; rfl
 obtain ⟨w2, hw2⟩ : ∃ w2, w2 = w1.alloc (.cells #[st t, .int .i64 r, .slice B q.length d] 30) := ⟨_, rfl⟩
 have B2 : Blk w2 w1.heap.size 30 [st t, .int .i64 r, .slice B q.length d] := hw2 ▸ Blk.new w1 30 _
 have g2 : w1.grownBy w2 none := hw2 ▸ World.grownBy_alloc w1 _ none
 have b2 : Eq_ Zp (Zo 30 (.agg #[st t, .int .i64 r, .slice B q.length d])) w1 = some (.pointer (some ⟨w1.heap.size, 0, none⟩), w2) := by rw [hw2]; rfl
 have B12 := B1.grown g2 (by simp)
 have G := grown_step g1 g2
 obtain ⟨w3, h3, g3⟩ := sameEvents_ok (c := c) (d := d) (hA.grown G) (hB.grown G) hq
 have c2 := B12.cell_eq 2 rfl
 have d2 := B2.cell_eq 2 rfl
 have c0 := (B12.grown g3 (by simp)).cell_eq 0 rfl
 have d0 := (B2.grown g3 (by simp)).cell_eq 0 rfl
 have c1 := (B12.grown g3 (by simp)).cell_eq 1 rfl
 have d1 := (B2.grown g3 (by simp)).cell_eq 1 rfl
 have eq := fun a b => str_eql (P := Zp) (t := 9) a b t t
 refine ⟨w3, f11.run rfl ?_, grown_step G g3⟩
 simp [f11, cutV, b1, b2, addL, c2, d2, h3, c0, d0, eq, c1, d1]
open Go Go.Proofs Go.RowKit Go.ChangeShapes Go.WideShapes Go.Sh.Ev
theorem rt163 : (Tryz.prog.cutTypes.find? (·.1 == "internal/reflectlite.rtype")).map (·.2) = some 163 := by kernel_rfl
theorem oneError : ((List.range Tryz.prog.types.size).filter fun t => Tryz.prog.rowNamed t [101, 114, 114, 111, 114]) = [32] := by kernel_rfl
theorem et0 : Tryz.prog.globalNamed "errors.errorType" = some 0 := by kernel_rfl
theorem hnd_of {W : World} (h : laidMetH Zp Go.Proofs.YtkghbcadnbojgaaGreatDoor.Rows.cutsLengthsRow.laid W) : W.cell? ⟨0, 0, none⟩ = some hnd := by
 have h' : laidMet Zp (Go.Proofs.YtkghbcadnbojgaaGreatDoor.Rows.cutsLengthsRow.laid.filter fun x => x.2.handleName?.isNone) W ∧ handlesMet Zp [("errors.errorType", Go.Proofs.YtkghbcadnbojgaaGreatDoor.Rows.laid_errors_errorType)] W := h
 obtain ⟨name, u, ty, e1, e2, e3, e4, e5⟩ := h'.2 _ (List.mem_singleton.2 rfl)
 have en : name = [101, 114, 114, 111, 114] := (Option.some.inj e1).symm
 subst en
 obtain rfl := Option.some.inj (rt163.symm.trans e2)
 have hm : ty ∈ (List.range Tryz.prog.types.size).filter fun t => Tryz.prog.rowNamed t [101, 114, 114, 111, 114] := List.mem_filter.2 ⟨List.mem_range.2 e3, e4⟩
 rw [oneError] at hm
 obtain rfl := List.mem_singleton.1 hm
 have hh : typeHandle Zp 32 = .pointer (some ⟨15, 32, none⟩) := by kernel_rfl
 rw [hh] at e5
 simpa [hnd] using World.var?_cell et0 e5 0
theorem tbl_lit : flatD Go.Proofs.YtkghbcadnbojgaaGreatDoor.Rows.laid_dailies_timecode_table = some tbl := by kernel_rfl
theorem rd_of {W : World} {b : Nat} {cs : List Value} (h : ∀ i V, cs[i]? = some V → W.cell? ⟨b, i, none⟩ = some V) : Rd W (some ⟨b, 0, none⟩) cs := fun j v hj => by
 rw [addL, Nat.zero_add]
 exact h j v hj
def p10 : List Value := (List.range 20).map fun i => .int .u64 ((10 ^ i : Nat) : Int)
theorem p10_lit : flatD Go.Proofs.YtkghbcadnbojgaaGreatDoor.Rows.laid_internal_strconv_uint64pow10 = some p10 := by kernel_rfl
theorem lay_of {W : World} (h : laidMetH Zp Go.Proofs.YtkghbcadnbojgaaGreatDoor.Rows.cutsLengthsRow.laid W) : Lay W := by
 have ht := cells_of_laid h (n := "dailies/timecode.table") (b := 3) (vs := tbl) ⟨by repeat (first | exact List.Mem.head _ | apply List.Mem.tail), by kernel_rfl, by kernel_rfl, ⟨_, rfl, by kernel_rfl⟩, tbl_lit⟩
 have hf := cells_of_laid h (n := "unicode/utf8.first") (b := 1) (vs := fcs) ⟨by repeat (first | exact List.Mem.head _ | apply List.Mem.tail), by kernel_rfl, by kernel_rfl, ⟨_, rfl, by kernel_rfl⟩, first_lit⟩
 have ha := cells_of_laid h (n := "unicode/utf8.acceptRanges") (b := 2) (vs := acs) ⟨by repeat (first | exact List.Mem.head _ | apply List.Mem.tail), by kernel_rfl, by kernel_rfl, ⟨_, rfl, by kernel_rfl⟩, acc_lit⟩
 have hp := cells_of_laid h (n := "internal/strconv.uint64pow10") (b := 7) (vs := p10) ⟨by repeat (first | exact List.Mem.head _ | apply List.Mem.tail), by kernel_rfl, by kernel_rfl, ⟨_, rfl, by kernel_rfl⟩, p10_lit⟩
 exact ⟨⟨rd_of hf, rd_of ha⟩, rd_of ht, hp 2 _ rfl, hnd_of h⟩
section
variable {W : World} {H : Type} {enc : TypeId × Value → H}
end
open Go Go.Proofs Go.RowKit Go.Lib Go.ChangeShapes Go.WideShapes Go.Sh.Ev
end Go.Sh.YtkghbcadnbojgaaGreatDoor
