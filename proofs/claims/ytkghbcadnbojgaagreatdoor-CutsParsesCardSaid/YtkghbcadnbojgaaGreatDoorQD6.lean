/- cuts: signs of a text, decoded and written again: plain laws. No condition but those that each statement names. -/
import Derived.Lib.TrimUEq
import Derived.Lib.DecodeNEq
import Derived.Lib.Bytealg
import Derived.Test.YtkghbcadnbojgaaGreatDoorQD3
import Derived.Test.YtkghbcadnbojgaaGreatDoorQD5
namespace Go.Sh.YtkghbcadnbojgaaGreatDoor
open Go Go.Proofs Go.RowKit Go.Lib
set_option linter.unusedVariables false
set_option linter.unusedSimpArgs false
set_option maxRecDepth 100000
open Go Go.Proofs Go.RowKit
open Go Go.Proofs Go.RowKit Go.Sh.Ev
open Go Go.Proofs Go.RowKit Go.Lib Go.Sh.Ev
open Go Go.Proofs
open Go.Proofs.Tryz renaming prog → Zp, underlying9 → Uz
open Go.Instr renaming loadAt → Zl, sliceAt → Zc, index → Zi, indexAt → Zj, alloc → Za, build → Zb
open Go.Value renaming bool → Vb
open Go.Builtin renaming len_ → Yl, append_ → Yb
open Option.some renaming injEq → Oj
open List renaming getElem?_eq_getElem → Yg, length_append → Ya, length_cons → Yc, drop_drop → Yd, getElem?_append_left → Yf, length_drop → Ye
open Go.Sh renaming prun → Pq, rrun → Rq, erun → Eq_
def chk (n : Nat) (k : Nat × Nat × Nat × Nat × Nat) : Bool := (k == (2, 2, 0, 128, 191) && (decide (194 ≤ n) && decide (n < 224))) || (k == (19, 3, 1, 160, 191) && decide (n = 224)) || (k == (3, 3, 0, 128, 191) && ((decide (225 ≤ n) && decide (n < 237)) || (decide (238 ≤ n) && decide (n < 240)))) || (k == (35, 3, 2, 128, 159) && decide (n = 237)) ||
  (k == (52, 4, 3, 144, 191) && decide (n = 240)) || (k == (4, 4, 0, 128, 191) && (decide (241 ≤ n) && decide (n < 244))) || (k == (68, 4, 4, 128, 143) && decide (n = 244)) || (k == (241, 1, 15, 0, 0) && (decide (n < 194) || decide (244 < n)))
theorem chk_all : ∀ n, n < 128 → chk (n + 128) (kindOf (firsts.getD (n + 128) 0)) = true := by decide +kernel
theorem lead_cls {c : UInt8} (h : 128 ≤ c.toNat) : (lead c = (2, 2, 0, 128, 191) ∧ 194 ≤ c.toNat ∧ c.toNat < 224) ∨ (lead c = (19, 3, 1, 160, 191) ∧ c.toNat = 224) ∨ (lead c = (3, 3, 0, 128, 191) ∧ ((225 ≤ c.toNat ∧ c.toNat < 237) ∨ (238 ≤ c.toNat ∧ c.toNat < 240))) ∨ (lead c = (35, 3, 2, 128, 159) ∧ c.toNat = 237) ∨
  (lead c = (52, 4, 3, 144, 191) ∧ c.toNat = 240) ∨ (lead c = (4, 4, 0, 128, 191) ∧ 241 ≤ c.toNat ∧ c.toNat < 244) ∨ (lead c = (68, 4, 4, 128, 143) ∧ c.toNat = 244) ∨ (lead c = (241, 1, 15, 0, 0) ∧ (c.toNat < 194 ∨ 244 < c.toNat)) := by
 have hb := c.toNat_lt
 have := chk_all (c.toNat - 128) (by omega)
 rw [show c.toNat - 128 + 128 = c.toNat by omega] at this
 have e : kindOf (firsts.getD c.toNat 0) = lead c := rfl
 rw [e] at this
 generalize lead c = k at this
 simp only [chk, Bool.or_eq_true, Bool.and_eq_true, decide_eq_true_eq, beq_iff_eq] at this
 rcases this with (((((((h1 | h1) | h1) | h1) | h1) | h1) | h1) | h1)
 ·exact .inl h1
 ·exact .inr (.inl h1)
 ·exact .inr (.inr (.inl h1))
 ·exact .inr (.inr (.inr (.inl h1)))
 ·exact .inr (.inr (.inr (.inr (.inl h1))))
 ·exact .inr (.inr (.inr (.inr (.inr (.inl h1)))))
 ·exact .inr (.inr (.inr (.inr (.inr (.inr (.inl h1))))))
 ·exact .inr (.inr (.inr (.inr (.inr (.inr (.inr h1))))))
def runeOf (n : Nat) (c : UInt8) (r : List UInt8) : Nat :=
 let a := (r.getD 0 0).toNat; let b := (r.getD 1 0).toNat; let d := (r.getD 2 0).toNat
 if n = 2 then c.toNat % 32 * 64 + a % 64 else if n = 3 then c.toNat % 16 * 4096 + a % 64 * 64 + b % 64 else c.toNat % 8 * 262144 + a % 64 * 4096 + b % 64 * 64 + d % 64
def encL (x : Nat) : List UInt8 :=
 if x < 128 then [UInt8.ofNat x] else if x < 2048 then [UInt8.ofNat (192 + x / 64), UInt8.ofNat (128 + x % 64)] else if x < 65536 then [UInt8.ofNat (224 + x / 4096), UInt8.ofNat (128 + x / 64 % 64), UInt8.ofNat (128 + x % 64)]
 else [UInt8.ofNat (240 + x / 262144), UInt8.ofNat (128 + x / 4096 % 64), UInt8.ofNat (128 + x / 64 % 64), UInt8.ofNat (128 + x % 64)]
theorem dec_asc {c : UInt8} (r : List UInt8) (h : c.toNat < 128) : decodeL (c :: r) = (c.toNat, 1) := by
 rw [decodeL_N]
 simp [decodeN, h]
theorem u8_eq {c : UInt8} {n : Nat} (h : c.toNat = n) : UInt8.ofNat n = c := by rw [← h]; simp
theorem so_len {n lo hi : Nat} {r : List UInt8} (h : so n lo hi r = true) : (n = 2 ∧ 1 ≤ r.length) ∨ (n = 3 ∧ 2 ≤ r.length) ∨ (n = 4 ∧ 3 ≤ r.length) := by
 unfold so at h
 split at h <;> simp_all
theorem so2 {lo hi : Nat} {r : List UInt8} (h : so 2 lo hi r = true) : ∃ a t, r = a :: t ∧ lo ≤ a.toNat ∧ a.toNat ≤ hi := by
 match r, h with
 | a :: t, h => simp [so] at h; exact ⟨a, t, rfl, h.1, h.2⟩
theorem so3 {lo hi : Nat} {r : List UInt8} (h : so 3 lo hi r = true) : ∃ a b t, r = a :: b :: t ∧ lo ≤ a.toNat ∧ a.toNat ≤ hi ∧ 128 ≤ b.toNat ∧ b.toNat ≤ 191 := by
 match r, h with
 | a :: b :: t, h => simp [so, goesOn] at h; exact ⟨a, b, t, rfl, h.1.1, h.1.2, h.2.1, h.2.2⟩
theorem so4 {lo hi : Nat} {r : List UInt8} (h : so 4 lo hi r = true) : ∃ a b d t, r = a :: b :: d :: t ∧ lo ≤ a.toNat ∧ a.toNat ≤ hi ∧ 128 ≤ b.toNat ∧ b.toNat ≤ 191 ∧ 128 ≤ d.toNat ∧ d.toNat ≤ 191 := by
 match r, h with
 | a :: b :: d :: t, h => simp [so, goesOn] at h; exact ⟨a, b, d, t, rfl, h.1.1, h.1.2, h.2.1.1, h.2.1.2, h.2.2.1, h.2.2.2⟩
set_option maxHeartbeats 4000000 in
theorem dec_ok {c : UInt8} {r : List UInt8} (h : 128 ≤ c.toNat) (ho : signOk (lead c) r = true) : decodeL (c :: r) = (runeOf (lead c).2.1 c r, (lead c).2.1) ∧ encL (runeOf (lead c).2.1 c r) = (c :: r).take (lead c).2.1 ∧ 128 ≤ runeOf (lead c).2.1 c r ∧ runeOf (lead c).2.1 c r < 1114112 ∧ ¬ (55296 ≤ runeOf (lead c).2.1 c r ∧ runeOf (lead c).2.1 c r < 57344) := by
 rw [decodeL_N]
 rcases lead_cls h with ⟨e, h1⟩ | ⟨e, h1⟩ | ⟨e, h1⟩ | ⟨e, h1⟩ | ⟨e, h1⟩ | ⟨e, h1⟩ | ⟨e, h1⟩ | ⟨e, h1⟩ <;> rw [e] at ho ⊢ <;> simp only [signOk] at ho
 ·obtain ⟨a, t, rfl, a1, a2⟩ := so2 ho
  simp only [runeOf, decodeN, encL, Yc, List.getD_cons_zero, List.getD_cons_succ, Nat.reduceEqDiff, reduceIte, List.take_succ_cons, List.take_zero]
  refine ⟨?_, ?_, by omega, by omega, by omega⟩
  ·repeat' split
   all_goals first | rfl | (exfalso; omega)
  ·rw [if_neg (by omega), if_pos (by omega)]
   rw [u8_eq (c := c) (by omega), u8_eq (c := a) (by omega)]
 ·obtain ⟨a, b, t, rfl, a1, a2, b1, b2⟩ := so3 ho
  simp only [runeOf, decodeN, encL, Yc, List.getD_cons_zero, List.getD_cons_succ, Nat.reduceEqDiff, reduceIte, List.take_succ_cons, List.take_zero]
  refine ⟨?_, ?_, by omega, by omega, by omega⟩
  ·repeat' split
   all_goals first | rfl | (exfalso; omega)
  ·rw [if_neg (by omega), if_neg (by omega), if_pos (by omega)]
   rw [u8_eq (c := c) (by omega), u8_eq (c := a) (by omega), u8_eq (c := b) (by omega)]
 ·obtain ⟨a, b, t, rfl, a1, a2, b1, b2⟩ := so3 ho
  simp only [runeOf, decodeN, encL, Yc, List.getD_cons_zero, List.getD_cons_succ, Nat.reduceEqDiff, reduceIte, List.take_succ_cons, List.take_zero]
  refine ⟨?_, ?_, by omega, by omega, by omega⟩
  ·repeat' split
   all_goals first | rfl | (exfalso; omega)
  ·rw [if_neg (by omega), if_neg (by omega), if_pos (by omega)]
   rw [u8_eq (c := c) (by omega), u8_eq (c := a) (by omega), u8_eq (c := b) (by omega)]
 ·obtain ⟨a, b, t, rfl, a1, a2, b1, b2⟩ := so3 ho
  simp only [runeOf, decodeN, encL, Yc, List.getD_cons_zero, List.getD_cons_succ, Nat.reduceEqDiff, reduceIte, List.take_succ_cons, List.take_zero]
  refine ⟨?_, ?_, by omega, by omega, by omega⟩
  ·repeat' split
   all_goals first | rfl | (exfalso; omega)
  ·rw [if_neg (by omega), if_neg (by omega), if_pos (by omega)]
   rw [u8_eq (c := c) (by omega), u8_eq (c := a) (by omega), u8_eq (c := b) (by omega)]
 ·obtain ⟨a, b, d, t, rfl, a1, a2, b1, b2, d1, d2⟩ := so4 ho
  simp only [runeOf, decodeN, encL, Yc, List.getD_cons_zero, List.getD_cons_succ, Nat.reduceEqDiff, reduceIte, List.take_succ_cons, List.take_zero]
  refine ⟨?_, ?_, by omega, by omega, by omega⟩
  ·repeat' split
   all_goals first | rfl | (exfalso; omega)
  ·rw [if_neg (by omega), if_neg (by omega), if_neg (by omega)]
   rw [u8_eq (c := c) (by omega), u8_eq (c := a) (by omega), u8_eq (c := b) (by omega), u8_eq (c := d) (by omega)]
 ·obtain ⟨a, b, d, t, rfl, a1, a2, b1, b2, d1, d2⟩ := so4 ho
  simp only [runeOf, decodeN, encL, Yc, List.getD_cons_zero, List.getD_cons_succ, Nat.reduceEqDiff, reduceIte, List.take_succ_cons, List.take_zero]
  refine ⟨?_, ?_, by omega, by omega, by omega⟩
  ·repeat' split
   all_goals first | rfl | (exfalso; omega)
  ·rw [if_neg (by omega), if_neg (by omega), if_neg (by omega)]
   rw [u8_eq (c := c) (by omega), u8_eq (c := a) (by omega), u8_eq (c := b) (by omega), u8_eq (c := d) (by omega)]
 ·obtain ⟨a, b, d, t, rfl, a1, a2, b1, b2, d1, d2⟩ := so4 ho
  simp only [runeOf, decodeN, encL, Yc, List.getD_cons_zero, List.getD_cons_succ, Nat.reduceEqDiff, reduceIte, List.take_succ_cons, List.take_zero]
  refine ⟨?_, ?_, by omega, by omega, by omega⟩
  ·repeat' split
   all_goals first | rfl | (exfalso; omega)
  ·rw [if_neg (by omega), if_neg (by omega), if_neg (by omega)]
   rw [u8_eq (c := c) (by omega), u8_eq (c := a) (by omega), u8_eq (c := b) (by omega), u8_eq (c := d) (by omega)]
 ·simp [so] at ho
theorem slow_bad (c : Nat) {n lo hi : Nat} {r : List UInt8} (hn : n = 2 ∨ n = 3 ∨ n = 4) (ho : so n lo hi r = false) : slowN (r.length + 1) c (r.getD 0 0).toNat (r.getD 1 0).toNat (r.getD 2 0).toNat n lo hi = (65533, 1) := by
 unfold slowN
 by_cases h1 : r.length + 1 < n
 ·rw [if_pos h1]
 rw [if_neg h1]
 by_cases h2 : (r.getD 0 0).toNat < lo ∨ hi < (r.getD 0 0).toNat
 ·rw [if_pos h2]
 rw [if_neg h2]
 rcases hn with rfl | rfl | rfl
 ·match r, h1, ho with
  | [], h1, _ => simp at h1
  | a :: t, h1, ho =>
   simp [so] at ho h2
   omega
 ·match r, h1, ho with
  | [], h1, _ => simp at h1
  | [a], h1, _ => simp at h1
  | a :: b :: t, h1, ho =>
   simp [so, goesOn] at ho h2 ⊢
   omega
 ·match r, h1, ho with
  | [], h1, _ => simp at h1
  | [a], h1, _ => simp at h1
  | [a, b], h1, _ => simp at h1
  | a :: b :: d :: t, h1, ho =>
   simp [so, goesOn] at ho h2 ⊢
   omega
set_option maxHeartbeats 4000000 in
theorem dec_bad {c : UInt8} {r : List UInt8} (h : 128 ≤ c.toNat) (ho : signOk (lead c) r = false) : decodeL (c :: r) = (65533, 1) := by
 rw [decodeL_N]
 simp only [Yc, List.getD_cons_zero, List.getD_cons_succ]
 have hc := c.toNat_lt
 have u0 := (r.getD 0 0).toNat_lt
 have u1 := (r.getD 1 0).toNat_lt
 have u2 := (r.getD 2 0).toNat_lt
 rcases lead_cls h with ⟨e, h1⟩ | ⟨e, h1⟩ | ⟨e, h1⟩ | ⟨e, h1⟩ | ⟨e, h1⟩ | ⟨e, h1⟩ | ⟨e, h1⟩ | ⟨e, h1⟩ <;> rw [e] at ho <;> simp only [signOk] at ho
 ·rw [← slow_C2 _ _ _ _ _ (by omega) u0 u1 u2 h1]; exact slow_bad _ (by simp) ho
 ·rw [← slow_E0 _ _ _ _ _ (by omega) u0 u1 u2 h1]; exact slow_bad _ (by simp) ho
 ·rw [← slow_E1 _ _ _ _ _ (by omega) u0 u1 u2 h1]; exact slow_bad _ (by simp) ho
 ·rw [← slow_ED _ _ _ _ _ (by omega) u0 u1 u2 h1]; exact slow_bad _ (by simp) ho
 ·rw [← slow_F0 _ _ _ _ _ (by omega) u0 u1 u2 h1]; exact slow_bad _ (by simp) ho
 ·rw [← slow_F1 _ _ _ _ _ (by omega) u0 u1 u2 h1]; exact slow_bad _ (by simp) ho
 ·rw [← slow_F4 _ _ _ _ _ (by omega) u0 u1 u2 h1]; exact slow_bad _ (by simp) ho
 ·refine bad_eq _ _ _ _ _ hc ?_
  unfold firstT
  repeat' split
  all_goals omega
def bad : Nat → List UInt8 → Nat → Option Nat
 | _, [], _ => none
 | k + 1, _ :: r, p => bad k r (p + 1)
 | 0, c :: r, p => bif decide (c.toNat < 128) then bad 0 r (p + 1) else bif signOk (lead c) r then bad ((lead c).2.1 - 1) r (p + 1) else some p
theorem bad_drop : ∀ (k : Nat) (l : List UInt8) (p : Nat), bad k l p = bad 0 (l.drop k) (p + k)
 | 0, l, p => by simp
 | k + 1, [], p => by simp [bad]
 | k + 1, c :: r, p => by rw [bad, bad_drop k r, List.drop_succ_cons]; congr 1; omega
theorem bad_none : ∀ (n : Nat) (k : Nat) (l : List UInt8) (p : Nat), l.length ≤ n → ((bad k l p).isNone = vs k l)
 | _, k, [], p, _ => by cases k <;> simp [bad, vs]
 | n + 1, k + 1, c :: r, p, h => by
  rw [bad, vs]
  exact bad_none n k r _ (by simpa using h)
 | n + 1, 0, c :: r, p, h => by
  rw [bad, vs]
  have h1 := bad_none n 0 r (p + 1) (by simpa using h)
  have h2 := bad_none n ((lead c).2.1 - 1) r (p + 1) (by simpa using h)
  cases decide (c.toNat < 128) <;> cases signOk (lead c) r <;> simp_all
theorem valid_bad (l : List UInt8) : valid l = (bad 0 l 0).isNone := (bad_none l.length 0 l 0 (Nat.le_refl _)).symm
theorem cv5_21 (x : Int) : Pq Zp (convert 5 21 (.int .u8 x)) = some (.int .i32 (IntKind.i32.wrap x)) := id (by kernel_rfl)
theorem fin {w w' : World} {s : Value} {n : Int} (g : w.grownBy w' none) (h : ∃ v, f92 C s w = some (.tuple #[v, .int .i64 n], w')) : ∃ v w', C 92 #[s] w = some (.tuple #[v, .int .i64 n], w') ∧ w.grownBy w' none := by
 obtain ⟨v, h⟩ := h
 exact ⟨v, w', f92.run rfl h, g⟩
theorem slow_ok {w : World} (T : Ut w) {c : UInt8} {r : List UInt8} (hc : 128 ≤ c.toNat) : ∃ v w', C 92 #[st (c :: r)] w = some (.tuple #[v, .int .i64 (if signOk (lead c) r = true then ((lead c).2.1 : Int) else 1)], w') ∧ w.grownBy w' none := by
 obtain ⟨k, hk, hlead, ix1, c1⟩ := ut_first T c hc
 obtain ⟨a7, cv, a4, ix2, l2⟩ := ut_kind T hk
 obtain ⟨w2, h2, b2, g2⟩ := lay152 k.2.2.2.1 k.2.2.2.2 w
 have hs : ∀ ty, Pq Zp (Yl #[9] ty #[st (c :: r)]) = some (.int .i64 (c :: r).length) := fun ty => str_len Uz ty _
 have ix := str_index (P := Zp) Uz (c :: r) .i64 0 (by simp)
 rw [show ((0 : Nat) : Int) = 0 from rfl] at ix
 simp only [List.getElem_cons_zero] at ix
 obtain ⟨L, hL, hs1⟩ : ∃ L : Int, L = ((c :: r).length : Int) ∧ ∀ ty, Pq Zp (Yl #[9] ty #[st (c :: r)]) = some (.int .i64 L) := ⟨_, rfl, hs⟩
 have hL1 : ¬ L < 1 := by rw [hL]; simp; omega
 have hLr : L = r.length + 1 := by rw [hL]; simp
 have p0 := b2.cell_eq 0 rfl
 have p1 := b2.cell_eq 1 rfl
 rw [hlead]
 by_cases hx : k = (241, 1, 15, 0, 0)
 ·subst hx
  have e0 : signOk (241, 1, 15, 0, 0) r = false := by simp [signOk, so]
  rw [e0]
  refine fin (w' := w) (n := _) (grown_refl _ _) ?_
  simp [f92, hs1, hL1, ix, ix1, c1, cv5_21, p_shl, p_shr, p_andNot, p_and, p_or]
 ·have hx1 : k.1 < 240 ∧ (k.2.1 = 2 ∨ k.2.1 = 3 ∨ k.2.1 = 4) := by
   simp only [kinds, List.mem_cons, List.not_mem_nil, or_false] at hk
   rcases hk with rfl | rfl | rfl | rfl | rfl | rfl | rfl | rfl <;> first | (exact absurd rfl hx) | (constructor <;> decide)
  obtain ⟨hx1, hx2⟩ := hx1
  have hge : ¬ (240 : Int) ≤ (k.1 : Int) := by omega
  obtain ⟨n, lo, hi, hn, hlo, hhi⟩ : ∃ n lo hi, n = k.2.1 ∧ lo = k.2.2.2.1 ∧ hi = k.2.2.2.2 := ⟨_, _, _, rfl, rfl, rfl⟩
  have hso : signOk k r = so n lo hi r := by rw [hn, hlo, hhi]; rfl
  rw [hso]
  rw [← hn] at a7 cv hx2 ⊢
  rw [← hlo, ← hhi] at l2 h2
  rw [← hlo] at p0
  rw [← hhi] at p1
  by_cases hshort : L < n
  ·have e0 : so n lo hi r = false := by
    cases h : so n lo hi r with
    | false => rfl
    | true => have := so_len h; omega
   rw [e0]
   refine fin (w' := w2) (n := _) (g2) ?_
   simp [f92, hs1, hL1, ix, ix1, c1, hge, a7, cv, a4, ix2, l2, alloc152, h2, hshort]
  ·match r, hLr with
   | [], hLr => simp at hLr; omega
   | a :: t, hLr =>
    have i1 := str_index (P := Zp) Uz (c :: a :: t) .i64 1 (by simp)
    rw [show ((1 : Nat) : Int) = 1 from rfl] at i1
    simp only [List.getElem_cons_succ, List.getElem_cons_zero] at i1
    by_cases q0 : (a.toNat : Int) < lo
    ·have e0 : so n lo hi (a :: t) = false := by
      rcases hx2 with e | e | e <;> rw [e]
      ·simp [so]; omega
      ·cases t <;> simp [so]; omega
      ·match t with
       | [] => simp [so]
       | [_] => simp [so]
       | _ :: _ :: _ => simp [so]; omega
     rw [e0]
     refine fin (w' := w2) (n := _) (g2) ?_
     simp [f92, hs1, hL1, ix, ix1, c1, hge, a7, cv, a4, ix2, l2, alloc152, h2, hshort, i1, addL, p0, q0]
    ·by_cases q1 : (hi : Int) < a.toNat
     ·have e0 : so n lo hi (a :: t) = false := by
       rcases hx2 with e | e | e <;> rw [e]
       ·simp [so]; omega
       ·cases t <;> simp [so]; omega
       ·match t with
        | [] => simp [so]
        | [_] => simp [so]
        | _ :: _ :: _ => simp [so]; omega
      rw [e0]
      refine fin (w' := w2) (n := _) (g2) ?_
      simp [f92, hs1, hL1, ix, ix1, c1, hge, a7, cv, a4, ix2, l2, alloc152, h2, hshort, i1, addL, p0, p1, q0, q1]
     ·rcases hx2 with e | e | e
      ·have e0 : so n lo hi (a :: t) = true := by rw [e]; simp [so]; omega
       rw [e0, e]
       rw [e] at a7 cv hshort
       have cv' : Pq Zp (convert 5 3 (.int .u8 2)) = some (.int .i64 2) := cv
       have hsh : ¬ L < 2 := hshort
       refine fin (w' := w2) (n := _) g2 ?_
       simp [f92, hs1, hL1, ix, ix1, c1, hge, a7, cv', a4, ix2, l2, alloc152, h2, hsh, i1, addL, p0, p1, q0, q1, cv5_21, p_shl, p_and, p_or]
      ·match t, hLr, i1 with
       | [], hLr, i1 => exfalso; simp at hLr; omega
       | b :: t, hLr, i1 =>
        have i2 := str_index (P := Zp) Uz (c :: a :: b :: t) .i64 2 (by simp)
        rw [show ((2 : Nat) : Int) = 2 from rfl] at i2
        simp only [List.getElem_cons_succ, List.getElem_cons_zero] at i2
        rw [e] at a7 cv hshort ⊢
        have cv' : Pq Zp (convert 5 3 (.int .u8 3)) = some (.int .i64 3) := cv
        have hsh : ¬ L < 3 := hshort
        by_cases q2 : (b.toNat : Int) < 128
        ·have e0 : so 3 lo hi (a :: b :: t) = false := by simp [so, goesOn]; omega
         rw [e0]
         refine fin (w' := w2) (n := _) g2 ?_
         simp [f92, hs1, hL1, ix, ix1, c1, hge, a7, cv', a4, ix2, l2, alloc152, h2, hsh, i1, addL, p0, p1, q0, q1, i2, q2]
        by_cases q3 : (191 : Int) < b.toNat
        ·have e0 : so 3 lo hi (a :: b :: t) = false := by simp [so, goesOn]; omega
         rw [e0]
         refine fin (w' := w2) (n := _) g2 ?_
         simp [f92, hs1, hL1, ix, ix1, c1, hge, a7, cv', a4, ix2, l2, alloc152, h2, hsh, i1, addL, p0, p1, q0, q1, i2, q2, q3]
        ·have e0 : so 3 lo hi (a :: b :: t) = true := by simp [so, goesOn]; omega
         rw [e0]
         refine fin (w' := w2) (n := _) g2 ?_
         simp [f92, hs1, hL1, ix, ix1, c1, hge, a7, cv', a4, ix2, l2, alloc152, h2, hsh, i1, addL, p0, p1, q0, q1, i2, q2, q3, cv5_21, p_shl, p_and, p_or]
      ·match t, hLr, i1 with
       | [], hLr, i1 => exfalso; simp at hLr; omega
       | [_], hLr, i1 => exfalso; simp at hLr; omega
       | b :: d :: t, hLr, i1 =>
        have i2 := str_index (P := Zp) Uz (c :: a :: b :: d :: t) .i64 2 (by simp)
        have i3 := str_index (P := Zp) Uz (c :: a :: b :: d :: t) .i64 3 (by simp)
        rw [show ((2 : Nat) : Int) = 2 from rfl] at i2
        rw [show ((3 : Nat) : Int) = 3 from rfl] at i3
        simp only [List.getElem_cons_succ, List.getElem_cons_zero] at i2 i3
        rw [e] at a7 cv hshort ⊢
        have cv' : Pq Zp (convert 5 3 (.int .u8 4)) = some (.int .i64 4) := cv
        have hsh : ¬ L < 4 := hshort
        by_cases q2 : (b.toNat : Int) < 128
        ·have e0 : so 4 lo hi (a :: b :: d :: t) = false := by simp [so, goesOn]; omega
         rw [e0]
         refine fin (w' := w2) (n := _) g2 ?_
         simp [f92, hs1, hL1, ix, ix1, c1, hge, a7, cv', a4, ix2, l2, alloc152, h2, hsh, i1, addL, p0, p1, q0, q1, i2, q2]
        by_cases q3 : (191 : Int) < b.toNat
        ·have e0 : so 4 lo hi (a :: b :: d :: t) = false := by simp [so, goesOn]; omega
         rw [e0]
         refine fin (w' := w2) (n := _) g2 ?_
         simp [f92, hs1, hL1, ix, ix1, c1, hge, a7, cv', a4, ix2, l2, alloc152, h2, hsh, i1, addL, p0, p1, q0, q1, i2, q2, q3]
        by_cases q4 : (d.toNat : Int) < 128
        ·have e0 : so 4 lo hi (a :: b :: d :: t) = false := by simp [so, goesOn]; omega
         rw [e0]
         refine fin (w' := w2) (n := _) g2 ?_
         simp [f92, hs1, hL1, ix, ix1, c1, hge, a7, cv', a4, ix2, l2, alloc152, h2, hsh, i1, addL, p0, p1, q0, q1, i2, q2, q3, i3, q4]
        by_cases q5 : (191 : Int) < d.toNat
        ·have e0 : so 4 lo hi (a :: b :: d :: t) = false := by simp [so, goesOn]; omega
         rw [e0]
         refine fin (w' := w2) (n := _) g2 ?_
         simp [f92, hs1, hL1, ix, ix1, c1, hge, a7, cv', a4, ix2, l2, alloc152, h2, hsh, i1, addL, p0, p1, q0, q1, i2, q2, q3, i3, q4, q5]
        ·have e0 : so 4 lo hi (a :: b :: d :: t) = true := by simp [so, goesOn]; omega
         rw [e0]
         refine fin (w' := w2) (n := _) g2 ?_
         simp [f92, hs1, hL1, ix, ix1, c1, hge, a7, cv', a4, ix2, l2, alloc152, h2, hsh, i1, addL, p0, p1, q0, q1, i2, q2, q3, i3, q4, q5, cv5_21, p_shl, p_and, p_or]
theorem rune_ok {w : World} (T : Ut w) {c : UInt8} {r : List UInt8} (hc : 128 ≤ c.toNat) : ∃ v w', C 54 #[st (c :: r)] w = some (.tuple #[v, .int .i64 (if signOk (lead c) r = true then ((lead c).2.1 : Int) else 1)], w') ∧ w.grownBy w' none := by
 obtain ⟨v, w', h, g⟩ := slow_ok T (r := r) hc
 have ix := str_index (P := Zp) Uz (c :: r) .i64 0 (by simp)
 rw [show ((0 : Nat) : Int) = 0 from rfl] at ix
 simp only [List.getElem_cons_zero] at ix
 have ne := fun x y => str_neq (P := Zp) (t := 9) x y (c :: r) []
 have hc' : ¬ (c.toNat : Int) < 128 := by omega
 obtain ⟨N, hN⟩ : ∃ N : Int, N = (if signOk (lead c) r = true then ((lead c).2.1 : Int) else 1) := ⟨_, rfl⟩
 rw [← hN] at h ⊢
 refine ⟨v, w', f54.run rfl ?_, g⟩
 simp [-neq9_s, f54, ne, ix, hc', h]
theorem grown_of {W w : World} {X : Asn W.heap.size} (s : Sat W X w) : W.grownBy w none := ⟨s.1.os, s.1.tape, s.1.output, s.1.size, fun k hk _ => s.1.block k hk id⟩
def placeOf : Option Nat → Int
 | none => -1
 | some p => p
@[simp] theorem ext1 (b : Bool) : Pq Zp (Instr.extract (.tuple #[.bool b]) 0) = some (.bool b) := id (by kernel_rfl)
theorem unruly_ok {w : World} (T : Ut w) (l : List UInt8) (hl : l.length ≤ 1000000) : ∃ w', C 24 #[st l] w = some (.int .i64 (placeOf (bad 0 l 0)), w') ∧ w.grownBy w' none := by
 have s0 : Sat w emp w := ⟨Grew.refl _ _, ⟨fun _ => False, rfl⟩⟩
 have s1 := s0.newIter ⟨l.toArray⟩
 have rg := str_range (P := Zp) Uz ⟨l.toArray⟩ w
 have hsz : (⟨l.toArray⟩ : ByteArray).size = l.length := st_size l
 have key := iter_down (f := f24.l0 C) (fun d ws w1 => ∃ pos : Nat, ws = [st l, .pointer (some ⟨w.heap.size, 0, none⟩)] ∧ pos ≤ l.length ∧ d = l.length - pos ∧ Sat w (iterA w.heap.size ⟨l.toArray⟩ pos * emp) w1 ∧ bad 0 (l.drop pos) pos = bad 0 l 0)
  (fun r => ∃ w', w.grownBy w' none ∧ ((r = .exit 0 [] w' ∧ bad 0 l 0 = none) ∨ ∃ p, r = .ret [.int .i64 ((p : Nat) : Int)] w' ∧ bad 0 l 0 = some p)) (by
   rintro d ws w1 ⟨pos, rfl, hp, hd, x, hb⟩
   by_cases hlt : pos < l.length
   ·obtain ⟨c, t, hct⟩ : ∃ c t, l.drop pos = c :: t := by
     cases h : l.drop pos with
     | nil => have := congrArg List.length h; simp at this; omega
     | cons c t => exact ⟨c, t, rfl⟩
    have hlen : t.length + 1 = l.length - pos := by have := congrArg List.length hct; simp at this; omega
    have hdec : Utf8.decode ⟨l.toArray⟩ pos = decodeL (c :: t) := by rw [← decodeL_drop]; show decodeL (l.drop pos) = _; rw [hct]
    obtain ⟨w2, h2, x2⟩ := x.iterNext 0 (P := Zp) (by rw [hsz]; exact hlt)
    rw [hdec] at h2 x2
    rw [hct] at hb
    have hdr : ∀ k, l.drop (pos + 1 + k) = t.drop k := fun k => by
     rw [Nat.add_assoc, ← Yd, hct, Nat.add_comm 1 k, List.drop_succ_cons]
    by_cases hc : c.toNat < 128
    ·rw [dec_asc t hc] at h2 x2
     have hne : ((c.toNat : Int) != 65533) = true := by simp; omega
     refine .inl ⟨l.length - (pos + 1), _, w2, by omega, ?_, ⟨pos + 1, rfl, by omega, rfl, x2, ?_⟩⟩
     ·simp only [] at h2
      simp [f24.l0, h2, hne]
     ·rw [← hb, bad]
      have := hdr 0
      simp only [Nat.add_zero, List.drop_zero] at this
      simp [hc, this]
    ·have hc' : 128 ≤ c.toNat := by omega
     have hsl := str_from (P := Zp) Uz l .i64 pos hp
     rw [hct] at hsl
     obtain ⟨v, w3, h3, g3⟩ := rune_ok (T.grown (grown_of x2)) (r := t) hc'
     cases ho : signOk (lead c) t with
     | true =>
      obtain ⟨e1, _⟩ := dec_ok hc' ho
      rw [e1] at h2 x2
      rw [ho] at h3
      have hk := so_len ho
      simp only [if_true] at h3
      have hn1 : (((lead c).2.1 : Int) == 1) = false := by simp; omega
      have hb2 : bad 0 (l.drop (pos + (lead c).2.1)) (pos + (lead c).2.1) = bad 0 l 0 := by
       rw [← hb, bad, bad_drop ((lead c).2.1 - 1)]
       have := hdr ((lead c).2.1 - 1)
       rw [show pos + 1 + ((lead c).2.1 - 1) = pos + (lead c).2.1 by omega] at this ⊢
       simp [hc, ho, this]
      obtain ⟨R, hR⟩ : ∃ R, R = runeOf (lead c).2.1 c t := ⟨_, rfl⟩
      obtain ⟨N, hN⟩ : ∃ N, N = (lead c).2.1 := ⟨_, rfl⟩
      simp only [← hR] at h2 x2
      rw [← hN] at hn1 hk x2 h3 hb2
      by_cases hz : R = 65533
      ·refine .inl ⟨l.length - (pos + N), _, w3, by omega, ?_, ⟨pos + N, rfl, by omega, rfl, x2.grown g3, hb2⟩⟩
       subst hz
       simp [f24.l0, h2, hsl, h3, hn1]
      ·have hne : ((R : Int) != 65533) = true := by simp; omega
       refine .inl ⟨l.length - (pos + N), _, w2, by omega, ?_, ⟨pos + N, rfl, by omega, rfl, x2, hb2⟩⟩
       simp [f24.l0, h2, hne]
     | false =>
      rw [dec_bad hc' ho] at h2 x2
      rw [ho] at h3
      simp only [Bool.false_eq_true, if_false] at h3
      refine .inr ⟨.ret [.int .i64 (pos : Int)] w3, ?_, ⟨w3, grown_step (grown_of x2) g3, .inr ⟨pos, rfl, ?_⟩⟩, by simp⟩
      ·simp only [] at h2
       simp [f24.l0, h2, hsl, h3]
      ·rw [← hb, bad]
       simp [hc, ho]
   ·have hpe : pos = l.length := by omega
    have h1 := x.iterEnd 0 (P := Zp) (by rw [hsz]; exact hlt)
    refine .inr ⟨.exit 0 [] w1, by simp [f24.l0, h1], ⟨w1, grown_of x, .inl ⟨rfl, ?_⟩⟩, by simp⟩
    rw [← hb, hpe, List.drop_length, bad]) (l.length - 0) _ _ ⟨0, rfl, by omega, rfl, s1, by simp⟩
 obtain ⟨r, h1, w', g, h2⟩ := key
 refine ⟨w', f24.run rfl ?_, g⟩
 rcases h2 with ⟨rfl, h2⟩ | ⟨p, rfl, h2⟩
 ·rw [h2]
  simp [f24, rg, h1, placeOf]
 ·rw [h2]
  simp [f24, rg, h1, placeOf]
theorem bv_len (l : List UInt8) : (bv l).length = l.length := by simp [bv]
theorem bv_app (l m : List UInt8) : bv (l ++ m) = bv l ++ bv m := by simp [bv]
theorem bv_one (l : List UInt8) : ∀ u ∈ bv l, u.oneCell' = true := by
 intro u hu
 simp [bv] at hu
 obtain ⟨b, _, rfl⟩ := hu
 rfl
theorem put_ok {W w : World} {X : Asn W.heap.size} {v : Value} {l : List UInt8} (x : Sat W (rowA 5 1 v l.length (bv l) * X) w) (news : List UInt8) (hb : l.length + news.length ≤ 1000000) :
  ∃ v' w', Eq_ Zp (Yb #[160, 160] 160 #[v, .slice (some ⟨w.heap.size, 0, none⟩) news.length news.length]) (w.alloc (.cells (bv news).toArray 5)) = some (v', w') ∧ Sat W (rowA 5 1 v' (l ++ news).length (bv (l ++ news)) * X) w' := by
 have x1 := x.alloc_ge (.cells (bv news).toArray 5)
 have r1 : Rd (w.alloc (.cells (bv news).toArray 5)) (some ⟨w.heap.size, 0, none⟩) (bv news) := by
  intro j v hj
  rw [addL, Nat.zero_add, World.cell?_alloc_new]
  simpa using hj
 obtain ⟨v', w', k1, k2, k3, k4⟩ := e_append2 (P := Zp) (ty := 160) Tryz.underlying160 inf5 zero5 size5 bytes5 rfl (by decide) x1.row (m := news.length) (c := news.length) (news := bv news) (by rw [bv_len]; omega) r1 (fun h => by cases h) (bv_one _) (by simp [maxLen]; omega) (by omega) x1.size
 rw [Ya, bv_app]
 exact ⟨v', w', k1, x1.rowStep k3 k2 k4⟩
theorem or192 : ∀ y : Nat, y < 64 → bits .or .u8 192 (y : Int) = ((192 + y : Nat) : Int) := by decide +kernel
theorem or128 : ∀ y : Nat, y < 64 → bits .or .u8 128 (y : Int) = ((128 + y : Nat) : Int) := by decide +kernel
theorem or224 : ∀ y : Nat, y < 16 → bits .or .u8 224 (y : Int) = ((224 + y : Nat) : Int) := by decide +kernel
theorem or240 : ∀ y : Nat, y < 8 → bits .or .u8 240 (y : Int) = ((240 + y : Nat) : Int) := by decide +kernel
theorem and63 : ∀ y : Nat, y < 256 → bits .and .u8 (y : Int) 63 = ((y % 64 : Nat) : Int) := by decide +kernel
theorem cv21_190 (x : Int) : Pq Zp (convert 21 190 (.int .i32 x)) = some (.int .u32 (IntKind.u32.wrap x)) := id (by kernel_rfl)
theorem cv21_5 (x : Int) : Pq Zp (convert 21 5 (.int .i32 x)) = some (.int .u8 (IntKind.u8.wrap x)) := id (by kernel_rfl)
theorem wrap_u32 {x : Int} (h0 : 0 ≤ x) (h1 : x < 4294967296) : IntKind.u32.wrap x = x := by
 simp [IntKind.wrap, IntKind.signed, IntKind.bits]; omega
theorem wrap_u8n (x : Nat) : IntKind.u8.wrap (x : Int) = ((x % 256 : Nat) : Int) := by
 simp [IntKind.wrap, IntKind.signed, IntKind.bits]
theorem shr32 (x k : Nat) (hk : k ≤ 32) (t : TypeId) (a b : Operand) : Pq Zp (do eqGuard .shr t a b (.int .i32 (x : Int)) (.int .u64 (k : Int)); binOp .shr t (.int .i32 (x : Int)) (.int .u64 (k : Int))) = some (.int .i32 ((x / 2 ^ k : Nat) : Int)) := by
 rw [p_shr _ _ _ _ _ _ _ (by omega)]
 have e : min ((k : Nat) : Int).toNat IntKind.i32.bits = k := by
  have : IntKind.i32.bits = 32 := rfl
  omega
 rw [e, Int.fdiv_eq_ediv_of_nonneg _ (Int.le_of_lt (Int.pow_pos (by decide)))]
 congr 2
theorem bs2 (a b : Int) (w : World) : Eq_ Zp (Instr.buildSlice 160 2 #[(0, .int .u8 a), (1, .int .u8 b)]) w = some (.slice (some ⟨w.heap.size, 0, none⟩) 2 2, w.alloc (.cells #[.int .u8 a, .int .u8 b] 5)) := id (by kernel_rfl)
theorem bs1 (a : Int) (w : World) : Eq_ Zp (Instr.buildSlice 160 1 #[(0, .int .u8 a)]) w = some (.slice (some ⟨w.heap.size, 0, none⟩) 1 1, w.alloc (.cells #[.int .u8 a] 5)) := id (by kernel_rfl)
theorem bs3 (a b c : Int) (w : World) : Eq_ Zp (Instr.buildSlice 160 3 #[(0, .int .u8 a), (1, .int .u8 b), (2, .int .u8 c)]) w = some (.slice (some ⟨w.heap.size, 0, none⟩) 3 3, w.alloc (.cells #[.int .u8 a, .int .u8 b, .int .u8 c] 5)) := id (by kernel_rfl)
theorem bs4 (a b c d : Int) (w : World) : Eq_ Zp (Instr.buildSlice 160 4 #[(0, .int .u8 a), (1, .int .u8 b), (2, .int .u8 c), (3, .int .u8 d)]) w = some (.slice (some ⟨w.heap.size, 0, none⟩) 4 4, w.alloc (.cells #[.int .u8 a, .int .u8 b, .int .u8 c, .int .u8 d] 5)) := id (by kernel_rfl)
theorem rune_put {W w : World} {X : Asn W.heap.size} {v : Value} {l : List UInt8} (x : Sat W (rowA 5 1 v l.length (bv l) * X) w) (r : Nat) (hr : r < 1114112) (hs : ¬ (55296 ≤ r ∧ r < 57344)) (hb : l.length ≤ 900000) :
  ∃ v' w', C 89 #[v, .int .i32 r] w = some (v', w') ∧ Sat W (rowA 5 1 v' (l ++ encL r).length (bv (l ++ encL r)) * X) w' := by
 have e0 : IntKind.u32.wrap (r : Int) = (r : Int) := wrap_u32 (by omega) (by omega)
 have s6 := fun t a b => shr32 r 6 (by omega) t a b
 have s12 := fun t a b => shr32 r 12 (by omega) t a b
 have s18 := fun t a b => shr32 r 18 (by omega) t a b
 rw [show ((6 : Nat) : Int) = 6 from rfl, show (2 : Nat) ^ 6 = 64 from rfl] at s6
 rw [show ((12 : Nat) : Int) = 12 from rfl, show (2 : Nat) ^ 12 = 4096 from rfl] at s12
 rw [show ((18 : Nat) : Int) = 18 from rfl, show (2 : Nat) ^ 18 = 262144 from rfl] at s18
 by_cases h1 : r < 128
 ·obtain ⟨v', w', h, y⟩ := put_ok x [UInt8.ofNat r] (by simp; omega)
  have hle : (r : Int) ≤ 127 := by omega
  have e1 : IntKind.u8.wrap (r : Int) = (r : Int) := by rw [wrap_u8n]; congr 1; omega
  have e2 : encL r = [UInt8.ofNat r] := by rw [encL, if_pos h1]
  have e3 : (UInt8.ofNat r).toNat = r := by simp; omega
  refine ⟨v', w', f89.run rfl ?_, by rw [e2]; exact y⟩
  simp only [bv, List.map_cons, List.map_nil, e3, Yc, List.length_nil] at h
  simp [f89, cv21_190, e0, hle, cv21_5, e1, bs1, h]
 have hgt : ¬ (r : Int) ≤ 127 := by omega
 have low : IntKind.u8.wrap (r : Int) = ((r % 256 : Nat) : Int) := wrap_u8n r
 have m63 := and63 (r % 256) (by omega)
 rw [show r % 256 % 64 = r % 64 by omega] at m63
 have l128 := or128 (r % 64) (by omega)
 by_cases h2 : r < 2048
 ·obtain ⟨v', w', h, y⟩ := put_ok x [UInt8.ofNat (192 + r / 64), UInt8.ofNat (128 + r % 64)] (by simp; omega)
  have hle : (r : Int) ≤ 2047 := by omega
  have t6 : IntKind.u8.wrap ((r / 64 : Nat) : Int) = ((r / 64 : Nat) : Int) := by rw [wrap_u8n]; congr 1; omega
  have o6 := or192 (r / 64) (by omega)
  have e2 : encL r = [UInt8.ofNat (192 + r / 64), UInt8.ofNat (128 + r % 64)] := by rw [encL, if_neg h1, if_pos h2]
  have e3 : (UInt8.ofNat (192 + r / 64)).toNat = 192 + r / 64 := by simp; omega
  have e4 : (UInt8.ofNat (128 + r % 64)).toNat = 128 + r % 64 := by simp; omega
  simp only [bv, List.map_cons, List.map_nil, e3, e4, Yc, List.length_nil] at h
  have hc : C 109 #[v, .int .i32 r] w = some (v', w') := by
   refine f109.run rfl ?_
   obtain ⟨Q, hQ⟩ : ∃ Q : Int, Q = ((r / 64 : Nat) : Int) := ⟨_, rfl⟩
   obtain ⟨Q2, hQ2⟩ : ∃ Q2 : Int, Q2 = ((192 + r / 64 : Nat) : Int) := ⟨_, rfl⟩
   obtain ⟨Q3, hQ3⟩ : ∃ Q3 : Int, Q3 = ((r % 256 : Nat) : Int) := ⟨_, rfl⟩
   obtain ⟨Q4, hQ4⟩ : ∃ Q4 : Int, Q4 = ((r % 64 : Nat) : Int) := ⟨_, rfl⟩
   obtain ⟨Q5, hQ5⟩ : ∃ Q5 : Int, Q5 = ((128 + r % 64 : Nat) : Int) := ⟨_, rfl⟩
   rw [← hQ] at t6 s6 o6
   rw [← hQ2] at o6 h
   rw [← hQ3] at low m63
   rw [← hQ4] at m63 l128
   rw [← hQ5] at l128 h
   have h' : Eq_ Zp (Yb #[160, 160] 160 #[v, .slice (some ⟨w.heap.size, 0, none⟩) 2 2]) (w.alloc (.cells #[.int .u8 Q2, .int .u8 Q5] 5)) = some (v', w') := h
   simp [f109, cv21_190, e0, hle, s6, cv21_5, t6, p_or, o6, low, p_and, m63, l128, bs2, h']
  refine ⟨v', w', f89.run rfl ?_, by rw [e2]; exact y⟩
  simp [f89, cv21_190, e0, hgt, hc]
 have q6 : IntKind.u8.wrap ((r / 64 : Nat) : Int) = ((r / 64 % 256 : Nat) : Int) := wrap_u8n _
 have m6 := and63 (r / 64 % 256) (by omega)
 rw [show r / 64 % 256 % 64 = r / 64 % 64 by omega] at m6
 have l6 := or128 (r / 64 % 64) (by omega)
 have n2 : ¬ (r : Int) ≤ 2047 := by omega
 by_cases h3 : r < 65536
 ·obtain ⟨v', w', h, y⟩ := put_ok x [UInt8.ofNat (224 + r / 4096), UInt8.ofNat (128 + r / 64 % 64), UInt8.ofNat (128 + r % 64)] (by simp; omega)
  have t12 : IntKind.u8.wrap ((r / 4096 : Nat) : Int) = ((r / 4096 : Nat) : Int) := by rw [wrap_u8n]; congr 1; omega
  have o12 := or224 (r / 4096) (by omega)
  have e2 : encL r = [UInt8.ofNat (224 + r / 4096), UInt8.ofNat (128 + r / 64 % 64), UInt8.ofNat (128 + r % 64)] := by rw [encL, if_neg h1, if_neg h2, if_pos h3]
  have e3 : (UInt8.ofNat (224 + r / 4096)).toNat = 224 + r / 4096 := by simp; omega
  have e4 : (UInt8.ofNat (128 + r / 64 % 64)).toNat = 128 + r / 64 % 64 := by simp; omega
  have e5 : (UInt8.ofNat (128 + r % 64)).toNat = 128 + r % 64 := by simp; omega
  simp only [bv, List.map_cons, List.map_nil, e3, e4, e5, Yc, List.length_nil] at h
  have hc : C 109 #[v, .int .i32 r] w = some (v', w') := by
   refine f109.run rfl ?_
   obtain ⟨P1, hP1⟩ : ∃ P1 : Int, P1 = ((r / 4096 : Nat) : Int) := ⟨_, rfl⟩
   obtain ⟨P2, hP2⟩ : ∃ P2 : Int, P2 = ((224 + r / 4096 : Nat) : Int) := ⟨_, rfl⟩
   obtain ⟨Q, hQ⟩ : ∃ Q : Int, Q = ((r / 64 : Nat) : Int) := ⟨_, rfl⟩
   obtain ⟨R1, hR1⟩ : ∃ R1 : Int, R1 = ((r / 64 % 256 : Nat) : Int) := ⟨_, rfl⟩
   obtain ⟨R2, hR2⟩ : ∃ R2 : Int, R2 = ((r / 64 % 64 : Nat) : Int) := ⟨_, rfl⟩
   obtain ⟨R3, hR3⟩ : ∃ R3 : Int, R3 = ((128 + r / 64 % 64 : Nat) : Int) := ⟨_, rfl⟩
   obtain ⟨Q3, hQ3⟩ : ∃ Q3 : Int, Q3 = ((r % 256 : Nat) : Int) := ⟨_, rfl⟩
   obtain ⟨Q4, hQ4⟩ : ∃ Q4 : Int, Q4 = ((r % 64 : Nat) : Int) := ⟨_, rfl⟩
   obtain ⟨Q5, hQ5⟩ : ∃ Q5 : Int, Q5 = ((128 + r % 64 : Nat) : Int) := ⟨_, rfl⟩
   rw [← hP1] at t12 s12 o12
   rw [← hP2] at o12 h
   rw [← hQ] at s6 q6
   rw [← hR1] at q6 m6
   rw [← hR2] at m6 l6
   rw [← hR3] at l6 h
   rw [← hQ3] at low m63
   rw [← hQ4] at m63 l128
   rw [← hQ5] at l128 h
   have h' : Eq_ Zp (Yb #[160, 160] 160 #[v, .slice (some ⟨w.heap.size, 0, none⟩) 3 3]) (w.alloc (.cells #[.int .u8 P2, .int .u8 R3, .int .u8 Q5] 5)) = some (v', w') := h
   by_cases h4 : r < 55296
   ·have n4 : (r : Int) < 55296 := by omega
    simp [f109, cv21_190, e0, n2, n4, s6, s12, cv21_5, t12, q6, p_or, o12, low, p_and, m63, m6, l6, l128, bs3, h']
   ·have n4 : ¬ (r : Int) < 55296 := by omega
    have n5 : (57343 : Int) < r := by omega
    have n6 : (r : Int) ≤ 65535 := by omega
    simp [f109, cv21_190, e0, n2, n4, n5, n6, s6, s12, cv21_5, t12, q6, p_or, o12, low, p_and, m63, m6, l6, l128, bs3, h']
  refine ⟨v', w', f89.run rfl ?_, by rw [e2]; exact y⟩
  simp [f89, cv21_190, e0, hgt, hc]
 ·obtain ⟨v', w', h, y⟩ := put_ok x [UInt8.ofNat (240 + r / 262144), UInt8.ofNat (128 + r / 4096 % 64), UInt8.ofNat (128 + r / 64 % 64), UInt8.ofNat (128 + r % 64)] (by simp; omega)
  have t18 : IntKind.u8.wrap ((r / 262144 : Nat) : Int) = ((r / 262144 : Nat) : Int) := by rw [wrap_u8n]; congr 1; omega
  have o18 := or240 (r / 262144) (by omega)
  have q12 : IntKind.u8.wrap ((r / 4096 : Nat) : Int) = ((r / 4096 % 256 : Nat) : Int) := wrap_u8n _
  have m12 := and63 (r / 4096 % 256) (by omega)
  rw [show r / 4096 % 256 % 64 = r / 4096 % 64 by omega] at m12
  have l12 := or128 (r / 4096 % 64) (by omega)
  have e2 : encL r = [UInt8.ofNat (240 + r / 262144), UInt8.ofNat (128 + r / 4096 % 64), UInt8.ofNat (128 + r / 64 % 64), UInt8.ofNat (128 + r % 64)] := by rw [encL, if_neg h1, if_neg h2, if_neg h3]
  have e3 : (UInt8.ofNat (240 + r / 262144)).toNat = 240 + r / 262144 := by simp; omega
  have e6 : (UInt8.ofNat (128 + r / 4096 % 64)).toNat = 128 + r / 4096 % 64 := by simp; omega
  have e4 : (UInt8.ofNat (128 + r / 64 % 64)).toNat = 128 + r / 64 % 64 := by simp; omega
  have e5 : (UInt8.ofNat (128 + r % 64)).toNat = 128 + r % 64 := by simp; omega
  simp only [bv, List.map_cons, List.map_nil, e3, e4, e5, e6, Yc, List.length_nil] at h
  have hc : C 109 #[v, .int .i32 r] w = some (v', w') := by
   refine f109.run rfl ?_
   obtain ⟨S1, hS1⟩ : ∃ S1 : Int, S1 = ((r / 262144 : Nat) : Int) := ⟨_, rfl⟩
   obtain ⟨S2, hS2⟩ : ∃ S2 : Int, S2 = ((240 + r / 262144 : Nat) : Int) := ⟨_, rfl⟩
   obtain ⟨P1, hP1⟩ : ∃ P1 : Int, P1 = ((r / 4096 : Nat) : Int) := ⟨_, rfl⟩
   obtain ⟨T1, hT1⟩ : ∃ T1 : Int, T1 = ((r / 4096 % 256 : Nat) : Int) := ⟨_, rfl⟩
   obtain ⟨T2, hT2⟩ : ∃ T2 : Int, T2 = ((r / 4096 % 64 : Nat) : Int) := ⟨_, rfl⟩
   obtain ⟨T3, hT3⟩ : ∃ T3 : Int, T3 = ((128 + r / 4096 % 64 : Nat) : Int) := ⟨_, rfl⟩
   obtain ⟨Q, hQ⟩ : ∃ Q : Int, Q = ((r / 64 : Nat) : Int) := ⟨_, rfl⟩
   obtain ⟨R1, hR1⟩ : ∃ R1 : Int, R1 = ((r / 64 % 256 : Nat) : Int) := ⟨_, rfl⟩
   obtain ⟨R2, hR2⟩ : ∃ R2 : Int, R2 = ((r / 64 % 64 : Nat) : Int) := ⟨_, rfl⟩
   obtain ⟨R3, hR3⟩ : ∃ R3 : Int, R3 = ((128 + r / 64 % 64 : Nat) : Int) := ⟨_, rfl⟩
   obtain ⟨Q3, hQ3⟩ : ∃ Q3 : Int, Q3 = ((r % 256 : Nat) : Int) := ⟨_, rfl⟩
   obtain ⟨Q4, hQ4⟩ : ∃ Q4 : Int, Q4 = ((r % 64 : Nat) : Int) := ⟨_, rfl⟩
   obtain ⟨Q5, hQ5⟩ : ∃ Q5 : Int, Q5 = ((128 + r % 64 : Nat) : Int) := ⟨_, rfl⟩
   rw [← hS1] at t18 s18 o18
   rw [← hS2] at o18 h
   rw [← hP1] at s12 q12
   rw [← hT1] at q12 m12
   rw [← hT2] at m12 l12
   rw [← hT3] at l12 h
   rw [← hQ] at s6 q6
   rw [← hR1] at q6 m6
   rw [← hR2] at m6 l6
   rw [← hR3] at l6 h
   rw [← hQ3] at low m63
   rw [← hQ4] at m63 l128
   rw [← hQ5] at l128 h
   have h' : Eq_ Zp (Yb #[160, 160] 160 #[v, .slice (some ⟨w.heap.size, 0, none⟩) 4 4]) (w.alloc (.cells #[.int .u8 S2, .int .u8 T3, .int .u8 R3, .int .u8 Q5] 5)) = some (v', w') := h
   have n4 : ¬ (r : Int) < 55296 := by omega
   have n5 : (57343 : Int) < r := by omega
   have n6 : ¬ (r : Int) ≤ 65535 := by omega
   have n7 : (65535 : Int) < r := by omega
   have n8 : (r : Int) ≤ 1114111 := by omega
   simp [f109, cv21_190, e0, n2, n4, n5, n6, n7, n8, s6, s12, s18, cv21_5, t18, q12, q6, p_or, o18, low, p_and, m63, m12, l12, m6, l6, l128, bs4, h']
  refine ⟨v', w', f89.run rfl ?_, by rw [e2]; exact y⟩
  simp [f89, cv21_190, e0, hgt, hc]
theorem put_blk {W w : World} {R : Asn W.heap.size} {b : Nat} {e : TypeId} {cs cs' : List Value} (s : Sat W (blkA b e cs * R) w) {t : TypeId} {i : TypeInfo} (hi : Tryz.prog.info? t = some i) {v : Value} (hv : v.cells = cs'.toArray) (hs : cs'.length = i.size) (hl : cs'.length = cs.length) (h1 : ∀ u ∈ cs', u.oneCell' = true) :
  ∃ w', Eq_ Zp (Instr.storeAt t (.pointer (some ⟨b, 0, none⟩)) v) w = some ((), w') ∧ Sat W (blkA b e cs' * R) w' := by
 obtain ⟨g, S, A, B, d, e', ⟨p, hb, hA⟩, q⟩ := s
 subst hA
 obtain ⟨w', k1, k2, k3⟩ := p.storeAll (P := Zp) (t := t) hi (o := 0) (v := v) (vs := cs') (cs' := cs') hv hs (by omega) h1 (by simp [hl])
 have hg : Grew (fun k => k = b) w w' := grew_of k3 fun k hk => .inl (by cases hk; rfl)
 exact ⟨w', k1, g.trans hg fun k hk => .inr (hk ▸ hb), fun k => k = b ∨ B k, fun k => k = b, B, d, rfl, ⟨k2, hb, rfl⟩, R.frame q hg fun k hB hk => d k hk hB⟩
def wc (a : Int) (s : List UInt8) (t b : Bool) : List Value := [.int .i64 a, st s, .bool t, .bool b]
def wv (a : Int) (s : List UInt8) (t b : Bool) : Value := .agg #[.int .i64 a, st s, .bool t, .bool b]
theorem alloc114 (w : World) : Eq_ Zp (Za 114 true (.tuple #[])) w = some (.pointer (some ⟨w.heap.size, 0, none⟩), w.alloc (.cells (wc 0 [] false false).toArray 114)) := id (by kernel_rfl)
theorem build114q : Pq Zp (Zb 114 #[(2, .bool true)]) = some (wv 0 [] true false) := id (by kernel_rfl)
theorem build114b : Pq Zp (Zb 114 #[(2, .bool true), (3, .bool true)]) = some (wv 0 [] true true) := id (by kernel_rfl)
theorem wc_one (a : Int) (s : List UInt8) (t b : Bool) : ∀ u ∈ wc a s t b, u.oneCell' = true := by
 intro u hu
 simp only [wc, List.mem_cons, List.not_mem_nil, or_false] at hu
 rcases hu with rfl | rfl | rfl | rfl <;> rfl
theorem put_word {W w : World} {R : Asn W.heap.size} {b : Nat} {cs : List Value} (s : Sat W (blkA b 114 cs * R) w) (hl : cs.length = 4) (a : Int) (x : List UInt8) (t d : Bool) : ∃ w', Eq_ Zp (Instr.storeAt 114 (.pointer (some ⟨b, 0, none⟩)) (wv a x t d)) w = some ((), w') ∧ Sat W (blkA b 114 (wc a x t d) * R) w' :=
 put_blk s inf114 (cs' := wc a x t d) rfl (by rw [size114]; rfl) (by rw [hl]; rfl) (wc_one _ _ _ _)
theorem ld_word {W w : World} {R : Asn W.heap.size} {b : Nat} {a : Int} {x : List UInt8} {t d : Bool} (s : Sat W (blkA b 114 (wc a x t d) * R) w) : Rq Zp (Zl 114 (.pointer (some ⟨b, 0, none⟩))) w = some (wv a x t d) :=
 ld114 (a := ⟨b, 0, none⟩) (by rw [addL]; exact s.cell 0 rfl) (by rw [addL]; exact s.cell 1 rfl) (by rw [addL]; exact s.cell 2 rfl) (by rw [addL]; exact s.cell 3 rfl)
def wid (c : UInt8) : Nat := bif decide (c.toNat < 128) then 1 else (lead c).2.1
def qt : Nat → List UInt8 → Bool → Bool → List UInt8 → Nat → Option (List UInt8 × Bool × Nat)
 | _, [], _, _, _, _ => none
 | k + 1, _ :: r, tu, b, o, p => qt k r tu b o (p + 1)
 | 0, c :: r, true, b, o, p => if c = 34 ∨ c = 92 then qt 0 r false b (o ++ [c]) (p + 1) else if c = 110 then qt 0 r false b (o ++ [10]) (p + 1) else qt (wid c - 1) r false true o (p + 1)
 | 0, c :: r, false, b, o, p => if c = 92 then qt 0 r true b o (p + 1) else if c = 34 then some (o, b, p) else qt (wid c - 1) r false b (o ++ (c :: r).take (wid c)) (p + 1)
theorem qt_drop : ∀ (k : Nat) (l : List UInt8) (tu b : Bool) (o : List UInt8) (p : Nat), qt k l tu b o p = qt 0 (l.drop k) tu b o (p + k)
 | 0, l, tu, b, o, p => by simp
 | k + 1, [], tu, b, o, p => by simp [qt]
 | k + 1, c :: r, tu, b, o, p => by rw [qt, qt_drop k r, List.drop_succ_cons]; congr 1; omega
theorem sign_at {c : UInt8} {r : List UInt8} (hv : vs 0 (c :: r) = true) : ∃ R, decodeL (c :: r) = (R, wid c) ∧ encL R = (c :: r).take (wid c) ∧ R < 1114112 ∧ ¬ (55296 ≤ R ∧ R < 57344) ∧ (c.toNat < 128 → R = c.toNat) ∧ (128 ≤ c.toNat → 128 ≤ R) ∧ 1 ≤ wid c ∧ wid c ≤ r.length + 1 ∧ vs 0 ((c :: r).drop (wid c)) = true := by
 by_cases hc : c.toNat < 128
 ·have e : wid c = 1 := by simp [wid, hc]
  rw [e]
  refine ⟨c.toNat, dec_asc r hc, ?_, by omega, by omega, fun _ => rfl, fun h => by omega, by omega, by omega, ?_⟩
  ·simp [encL, hc]
  ·rw [vs_byte r hc] at hv
   simpa using hv
 ·have hc' : 128 ≤ c.toNat := by omega
  have e : wid c = (lead c).2.1 := by simp [wid, hc]
  rw [vs_lead r hc'] at hv
  simp only [Bool.and_eq_true] at hv
  obtain ⟨d1, d2, d3, d4, d5⟩ := dec_ok hc' hv.1
  have hk := so_len hv.1
  rw [e]
  refine ⟨_, d1, d2, d4, d5, fun h => by omega, fun _ => d3, by omega, by omega, ?_⟩
  obtain ⟨m, hm⟩ : ∃ m, (lead c).2.1 = m + 1 := ⟨(lead c).2.1 - 1, by omega⟩
  rw [hm, List.drop_succ_cons]
  rw [hm] at hv
  simpa using hv.2
theorem c_eq {c : UInt8} {n : Nat} (hn : n < 256) : (c.toNat = n) = (c = UInt8.ofNat n) := propext ⟨fun h => by rw [← h]; simp, fun h => by rw [h]; simp; omega⟩
section
variable {W : World} {X : Asn W.heap.size}
abbrev qS (bi b2 b4 : Nat) (l : List UInt8) (pos : Nat) (v : Value) (o : List UInt8) (bd : Bool) : Asn W.heap.size :=
 iterA bi ⟨l.toArray⟩ pos * (rowA 5 1 v o.length (bv o) * (blkA b4 114 (wc 0 [] true bd) * (blkA b2 114 (wc 0 [] false false) * X)))
theorem q_round {w : World} {bi b2 b4 : Nat} {l : List UInt8} {pos : Nat} {v : Value} {o : List UInt8} {tu bd : Bool} {s0 : Value} (x : Sat W (qS (X := X) bi b2 b4 l pos v o bd) w) (hl : l.length ≤ 30000) (ho : o.length ≤ pos) {c : UInt8} {r : List UInt8} (hd : l.drop pos = c :: r) (hv : vs 0 (c :: r) = true) :
  (∃ v' o' tu' bd' w', f56.l0 C [s0, .pointer (some ⟨b2, 0, none⟩), .pointer (some ⟨b4, 0, none⟩), v, .bool tu, .pointer (some ⟨bi, 0, none⟩)] w = some (.norm [s0, .pointer (some ⟨b2, 0, none⟩), .pointer (some ⟨b4, 0, none⟩), v', .bool tu', .pointer (some ⟨bi, 0, none⟩)] w') ∧ Sat W (qS (X := X) bi b2 b4 l (pos + wid c) v' o' bd') w' ∧ o'.length ≤ pos + wid c ∧ qt 0 (c :: r) tu bd o pos = qt 0 ((c :: r).drop (wid c)) tu' bd' o' (pos + wid c)) ∨
  (∃ w' o' bd', f56.l0 C [s0, .pointer (some ⟨b2, 0, none⟩), .pointer (some ⟨b4, 0, none⟩), v, .bool tu, .pointer (some ⟨bi, 0, none⟩)] w = some (.ret [.pointer (some ⟨b2, 0, none⟩), .int .i64 ((pos + 2 : Nat) : Int)] w') ∧ Sat W (blkA b2 114 (wc 0 o' true bd') * X) w' ∧ qt 0 (c :: r) tu bd o pos = some (o', bd', pos)) := by
 obtain ⟨R, e1, e2, e3, e4, e5, e6, e7, e8, e9⟩ := sign_at hv
 have hlen : r.length + 1 = l.length - pos := by have := congrArg List.length hd; simp at this; omega
 have hsz : (⟨l.toArray⟩ : ByteArray).size = l.length := st_size l
 have hdec : Utf8.decode ⟨l.toArray⟩ pos = (R, wid c) := by rw [← decodeL_drop]; show decodeL (l.drop pos) = _; rw [hd, e1]
 obtain ⟨w2, h2, x2⟩ := x.iterNext 0 (P := Zp) (by rw [hsz]; omega)
 rw [hdec] at h2 x2
 have hw1 : wid c = (wid c - 1) + 1 := by omega
 have hqd : ∀ tu b o, qt (wid c - 1) r tu b o (pos + 1) = qt 0 ((c :: r).drop (wid c)) tu b o (pos + wid c) := fun tu b o => by
  rw [qt_drop, hw1, List.drop_succ_cons]
  congr 1
  omega
 have hR : ∀ n, n < 128 → (R = n ↔ c = UInt8.ofNat n) := fun n hn => by
  rw [← c_eq (by omega)]
  by_cases hc : c.toNat < 128
  ·rw [e5 hc]
  ·have := e6 (by omega)
   omega
 have r34 := hR 34 (by omega)
 have r92 := hR 92 (by omega)
 have r110 := hR 110 (by omega)
 have w1of : ∀ n : Nat, n < 128 → c = UInt8.ofNat n → wid c = 1 := fun n hn h => by
  have : c.toNat = n := by rw [c_eq (by omega)]; exact h
  simp [wid, this, hn]
 have hq1 : ∀ tu b o, wid c = 1 → qt 0 r tu b o (pos + 1) = qt 0 ((c :: r).drop (wid c)) tu b o (pos + wid c) := fun tu b o h => by rw [h]; rfl
 have inner : Sat W (rowA 5 1 v o.length (bv o) * (iterA bi ⟨l.toArray⟩ (pos + wid c) * (blkA b4 114 (wc 0 [] true bd) * (blkA b2 114 (wc 0 [] false false) * X)))) w2 := x2.eq (by ac_rfl)
 cases tu with
 | true =>
  by_cases hc : c = 34 ∨ c = 92
  ·have hwid : wid c = 1 := by rcases hc with h | h; exact w1of 34 (by omega) h; exact w1of 92 (by omega) h
   have hRc : R = c.toNat := e5 (by rcases hc with h | h <;> rw [h] <;> decide)
   obtain ⟨v', w3, h3, x3⟩ := put_ok inner [c] (by simp; omega)
   have hcv : IntKind.u8.wrap (R : Int) = (c.toNat : Int) := by rw [wrap_u8n, hRc]; congr 1; have := c.toNat_lt; omega
   refine .inl ⟨v', o ++ [c], false, bd, w3, ?_, x3.eq (by unfold qS; ac_rfl), by simp; omega, ?_⟩
   ·simp only [bv, List.map_cons, List.map_nil, Yc, List.length_nil] at h3
    have hz : R = 34 ∨ R = 92 := by rcases hc with h | h; exact .inl (r34.mpr h); exact .inr (r92.mpr h)
    have h3' : Eq_ Zp (Yb #[160, 160] 160 #[v, .slice (some ⟨w2.heap.size, 0, none⟩) 1 1]) (w2.alloc (.cells #[.int .u8 (c.toNat : Int)] 5)) = some (v', w3) := h3
    rcases hz with h | h
    ·have hr : (R : Int) = 34 := by omega
     rw [hr] at h2 hcv
     simp [f56.l0, h2, cv21_5, hcv, bs1, h3']
    ·have hr : (R : Int) = 92 := by omega
     rw [hr] at h2 hcv
     simp [f56.l0, h2, cv21_5, hcv, bs1, h3']
   ·rw [qt, if_pos hc, hq1 _ _ _ hwid]
  ·by_cases hn : c = 110
   ·have hwid : wid c = 1 := w1of 110 (by omega) hn
    have hRn : R = 110 := r110.mpr hn
    obtain ⟨v', w3, h3, x3⟩ := put_ok inner [10] (by simp; omega)
    refine .inl ⟨v', o ++ [10], false, bd, w3, ?_, x3.eq (by unfold qS; ac_rfl), by simp; omega, ?_⟩
    ·simp only [bv, List.map_cons, List.map_nil, Yc, List.length_nil] at h3
     have h3' : Eq_ Zp (Yb #[160, 160] 160 #[v, .slice (some ⟨w2.heap.size, 0, none⟩) 1 1]) (w2.alloc (.cells #[.int .u8 10] 5)) = some (v', w3) := h3
     subst hRn
     simp [f56.l0, h2, bs1, h3']
    ·rw [qt, if_neg hc, if_pos hn, hq1 _ _ _ hwid]
   ·have n1 : ¬ (R : Int) = 34 := fun h => hc (.inl (r34.mp (by omega)))
    have n2 : ¬ (R : Int) = 92 := fun h => hc (.inr (r92.mp (by omega)))
    have n3 : ¬ (R : Int) = 110 := fun h => hn (r110.mp (by omega))
    have inner4 : Sat W (blkA b4 114 (wc 0 [] true bd) * (rowA 5 1 v o.length (bv o) * (iterA bi ⟨l.toArray⟩ (pos + wid c) * (blkA b2 114 (wc 0 [] false false) * X)))) w2 := x2.eq (by ac_rfl)
    have h3 := inner4.blk.store (P := Zp) (t := 4) (j := 3) (v := .bool true) inf4 size4 (by simp [wc]) rfl rfl
    have x3 := inner4.store 3 (.bool true) (cs' := wc 0 [] true true) rfl
    refine .inl ⟨v, o, false, true, _, ?_, x3.eq (by unfold qS; ac_rfl), by omega, ?_⟩
    ·simp [f56.l0, h2, n1, n2, n3, addL, h3]
    ·rw [qt, if_neg hc, if_neg hn, hqd]
 | false =>
  by_cases h92 : c = 92
  ·have hwid : wid c = 1 := w1of 92 (by omega) h92
   have hRn : R = 92 := r92.mpr h92
   refine .inl ⟨v, o, true, bd, w2, ?_, x2, by omega, ?_⟩
   ·subst hRn
    simp [f56.l0, h2]
   ·rw [qt, if_pos h92, hq1 _ _ _ hwid]
  ·have n2 : ¬ (R : Int) = 92 := fun h => h92 (r92.mp (by omega))
   by_cases h34 : c = 34
   ·have hRn : R = 34 := r34.mpr h34
    obtain ⟨A, cc, rfl, hcc, _⟩ := own_form inner.row
    have tx := tx160_9 (A := A) (c := cc) (l := o) rfl (Rd.own inner.row)
    have inner4 : Sat W (blkA b4 114 (wc 0 [] true bd) * (blkA b2 114 (wc 0 [] false false) * (rowA 5 1 (.slice A o.length cc) o.length (bv o) * (iterA bi ⟨l.toArray⟩ (pos + wid c) * X)))) w2 := x2.eq (by ac_rfl)
    have h3 := inner4.blk.store (P := Zp) (t := 9) (j := 1) (v := st o) inf9 size9 (by simp [wc]) rfl rfl
    have x3 := inner4.store 1 (st o) (cs' := wc 0 o true bd) rfl
    have l4 := ld_word x3
    have x4 : Sat W (blkA b2 114 (wc 0 [] false false) * (blkA b4 114 (wc 0 o true bd) * (rowA 5 1 (.slice A o.length cc) o.length (bv o) * (iterA bi ⟨l.toArray⟩ (pos + wid c) * X)))) (w2.setCell ⟨b4, 1, none⟩ (st o)) := x3.eq (by ac_rfl)
    obtain ⟨w5, h5, x5⟩ := put_word x4 rfl 0 o true bd
    have x6 : Sat W (blkA b2 114 (wc 0 o true bd) * X) w5 := (x5.eq (by ac_rfl : _ = (blkA b4 114 (wc 0 o true bd) * (rowA 5 1 (.slice A o.length cc) o.length (bv o) * iterA bi ⟨l.toArray⟩ (pos + wid c))) * (blkA b2 114 (wc 0 o true bd) * X))).right
    have e1' : IntKind.i64.wrap ((pos : Int) + 2) = ((pos + 2 : Nat) : Int) := (wrap_i64 (by omega) (by omega)).trans (by omega)
    refine .inr ⟨w5, o, bd, ?_, x6, ?_⟩
    ·subst hRn
     obtain ⟨Q, hQ⟩ : ∃ Q : Int, Q = ((pos + 2 : Nat) : Int) := ⟨_, rfl⟩
     rw [← hQ] at e1' ⊢
     simp [f56.l0, h2, tx, addL, h3, l4, h5, e1']
    ·rw [qt, if_neg h92, if_pos h34]
   ·have n1 : ¬ (R : Int) = 34 := fun h => h34 (r34.mp (by omega))
    obtain ⟨v', w3, h3, x3⟩ := rune_put inner R e3 e4 (by omega)
    rw [e2] at x3
    have htl : ((c :: r).take (wid c)).length = wid c := by rw [List.length_take, Yc]; omega
    refine .inl ⟨v', o ++ (c :: r).take (wid c), false, bd, w3, ?_, x3.eq (by unfold qS; ac_rfl), by rw [Ya, htl]; omega, ?_⟩
    ·simp [f56.l0, h2, n1, n2, h3]
    ·rw [qt, if_neg h92, if_neg h34, hqd]
theorem quote_ok {w : World} (x : Sat W X w) (l : List UInt8) (hl : l.length ≤ 30000) (hv : vs 0 l = true) :
  ∃ o bd n w', C 56 #[st (34 :: l)] w = some (.tuple #[wv 0 o true bd, .int .i64 ((n : Nat) : Int)], w') ∧ Sat W X w' ∧ (match qt 0 l false false [] 0 with | some (a, b, p) => o = a ∧ bd = b ∧ n = p + 2 | none => o = [] ∧ bd = true ∧ n = l.length + 1) := by
 have x1 := x.newBlk 114 (wc 0 [] false false)
 obtain ⟨w1, hw1⟩ : ∃ w1, w1 = w.alloc (.cells (wc 0 [] false false).toArray 114) := ⟨_, rfl⟩
 have a1 := alloc114 w
 rw [← hw1] at x1 a1
 have x2 := x1.newBlk 114 (wc 0 [] false false)
 obtain ⟨w2, hw2⟩ : ∃ w2, w2 = w1.alloc (.cells (wc 0 [] false false).toArray 114) := ⟨_, rfl⟩
 have a2 := alloc114 w1
 rw [← hw2] at x2 a2
 obtain ⟨w3, h3, x3⟩ := put_word x2 rfl 0 [] true false
 have hs := str_from (P := Zp) Uz (34 :: l) .i64 1 (by simp)
 rw [show ((1 : Nat) : Int) = 1 from rfl] at hs
 simp only [List.drop_succ_cons, List.drop_zero] at hs
 have rg := str_range (P := Zp) Uz ⟨l.toArray⟩ w3
 have x4 := x3.newIter ⟨l.toArray⟩
 have x5 := x4.nilRow 5 1
 have x6 : Sat W (qS (X := X) w3.heap.size w.heap.size w1.heap.size l 0 (.slice none 0 0) [] false) (w3.alloc (.stringIter ⟨l.toArray⟩ 0)) := x5.eq (by unfold qS; ac_rfl)
 have key := iter_down (f := f56.l0 C) (fun d ws w4 => ∃ pos v o tu bd, ws = [st (34 :: l), .pointer (some ⟨w.heap.size, 0, none⟩), .pointer (some ⟨w1.heap.size, 0, none⟩), v, .bool tu, .pointer (some ⟨w3.heap.size, 0, none⟩)] ∧ pos ≤ l.length ∧ d = l.length - pos ∧ o.length ≤ pos ∧ Sat W (qS (X := X) w3.heap.size w.heap.size w1.heap.size l pos v o bd) w4 ∧ vs 0 (l.drop pos) = true ∧ qt 0 (l.drop pos) tu bd o pos = qt 0 l false false [] 0)
  (fun r => (∃ w', r = .exit 0 [st (34 :: l), .pointer (some ⟨w.heap.size, 0, none⟩)] w' ∧ Sat W (blkA w.heap.size 114 (wc 0 [] false false) * X) w' ∧ qt 0 l false false [] 0 = none) ∨ ∃ w' o bd p, r = .ret [.pointer (some ⟨w.heap.size, 0, none⟩), .int .i64 ((p + 2 : Nat) : Int)] w' ∧ Sat W (blkA w.heap.size 114 (wc 0 o true bd) * X) w' ∧ qt 0 l false false [] 0 = some (o, bd, p)) (by
   rintro d ws w4 ⟨pos, v, o, tu, bd, rfl, hp, hd, ho, y, hvv, hq⟩
   have hsz : (⟨l.toArray⟩ : ByteArray).size = l.length := st_size l
   by_cases hlt : pos < l.length
   ·obtain ⟨c, r, hct⟩ : ∃ c r, l.drop pos = c :: r := by
     cases h : l.drop pos with
     | nil => have := congrArg List.length h; simp at this; omega
     | cons c r => exact ⟨c, r, rfl⟩
    have hlen : r.length + 1 = l.length - pos := by have := congrArg List.length hct; simp at this; omega
    rw [hct] at hvv hq
    obtain ⟨_, _, _, _, _, _, _, e7, e8, e9⟩ := sign_at hvv
    have hdd : l.drop (pos + wid c) = (c :: r).drop (wid c) := by rw [← Yd, hct]
    rcases q_round (s0 := st (34 :: l)) (tu := tu) y hl ho hct hvv with ⟨v', o', tu', bd', w', k1, k2, k3, k4⟩ | ⟨w', o', bd', k1, k2, k3⟩
    ·exact .inl ⟨l.length - (pos + wid c), _, w', by omega, k1, ⟨pos + wid c, v', o', tu', bd', rfl, by omega, rfl, k3, k2, by rw [hdd]; exact e9, by rw [hdd, ← k4]; exact hq⟩⟩
    ·exact .inr ⟨_, k1, .inr ⟨w', o', bd', pos, rfl, k2, by rw [← hq]; exact k3⟩, by simp⟩
   ·have h1 := y.iterEnd 0 (P := Zp) (by rw [hsz]; exact hlt)
    refine .inr ⟨.exit 0 [st (34 :: l), .pointer (some ⟨w.heap.size, 0, none⟩)] w4, by simp [f56.l0, h1], .inl ⟨w4, rfl, ?_, ?_⟩, by simp⟩
    ·exact (y.eq (by unfold qS; ac_rfl : _ = (iterA w3.heap.size ⟨l.toArray⟩ pos * (rowA 5 1 v o.length (bv o) * blkA w1.heap.size 114 (wc 0 [] true bd))) * (blkA w.heap.size 114 (wc 0 [] false false) * X))).right
    ·rw [← hq, List.drop_eq_nil_of_le (by omega), qt]) (l.length - 0) _ _ ⟨0, .slice none 0 0, [], false, false, rfl, by omega, rfl, by simp, x6, by simpa using hv, by simp⟩
 obtain ⟨res, h1, h2⟩ := key
 have hln : ∀ ty, Pq Zp (Yl #[9] ty #[st (34 :: l)]) = some (.int .i64 ((l.length + 1 : Nat) : Int)) := fun ty => by rw [str_len Uz ty]; simp
 rcases h2 with ⟨w', rfl, y, hq⟩ | ⟨w', o, bd, p, rfl, y, hq⟩
 ·obtain ⟨w5, k5, y5⟩ := put_word y rfl 0 [] true true
  have l5 := ld_word y5
  refine ⟨[], true, l.length + 1, w5, f56.run rfl ?_, y5.right, by rw [hq]; exact ⟨rfl, rfl, rfl⟩⟩
  obtain ⟨N, hN⟩ : ∃ N : Int, N = ((l.length + 1 : Nat) : Int) := ⟨_, rfl⟩
  rw [← hN] at hln ⊢
  simp [f56, a1, build114q, a2, h3, hs, rg, h1, build114b, hln, k5, l5]
 ·have l5 := ld_word y
  refine ⟨o, bd, p + 2, w', f56.run rfl ?_, y.right, by rw [hq]; exact ⟨rfl, rfl, rfl⟩⟩
  obtain ⟨N, hN⟩ : ∃ N : Int, N = ((p + 2 : Nat) : Int) := ⟨_, rfl⟩
  rw [← hN] at h1 ⊢
  simp [f56, a1, build114q, a2, h3, hs, rg, h1, l5]
end
theorem run93 (args : Array Value) (w : World) : (callFunc 93 args).run Zp w = ((Extern.BytealgIndexByte.indexByte args).run Zp w).andThen fun v w' => .ok (.value v) w' := run_callFunc_indexByte Tryz.func93 (by kernel_rfl) (by kernel_rfl) (by kernel_rfl) (by kernel_rfl) args w
theorem byte_ok (l : List UInt8) (c : UInt8) (w : World) : C 25 #[st l, .int .u8 c.toNat] w = some (.int .i64 (indexByte l c), w) := by
 have h : xrun Zp (callFunc 93 #[st l, .int .u8 c.toNat]) w = some (.int .i64 (indexByte l c), w) := by
  unfold xrun
  rw [run93, run_indexByteString]
  simp [Result.andThen]
 have h55 : C 55 #[st l, .int .u8 c.toNat] w = some (.int .i64 (indexByte l c), w) := by
  refine f55.run rfl ?_
  simp [f55, h]
 refine f25.run rfl ?_
 simp [f25, h55]
theorem enc_eq {r : Nat} (hr : r < 1114112) (hs : ¬ (55296 ≤ r ∧ r < 57344)) : Utf8.encode (r : Int) = ⟨(encL r).toArray⟩ := by
 have hv : Utf8.valid (r : Int) = true := by
  simp [Utf8.valid]
  omega
 unfold Utf8.encode encL
 simp only [hv, if_true, Int.toNat_natCast]
 repeat' split
 all_goals first | rfl | (exfalso; omega)
theorem conv_rune (r : Int) (w : World) : Eq_ Zp (convert 21 9 (.int .i32 r)) w = some (.string (Utf8.encode r), w) := id (by kernel_rfl)
theorem vrune_ok {r : Nat} (hr : r < 1114112) (hs : ¬ (55296 ≤ r ∧ r < 57344)) (w : World) : C 115 #[.int .i32 r] w = some (.bool true, w) := by
 refine f115.run rfl ?_
 have h0 : (0 : Int) ≤ r := by omega
 by_cases h : r < 55296
 ·have h1 : (r : Int) < 55296 := by omega
  simp [f115, h0, h1]
 ·have h1 : ¬ (r : Int) < 55296 := by omega
  have h2 : (57343 : Int) < r := by omega
  have h3 : (r : Int) ≤ 1114111 := by omega
  simp [f115, h0, h1, h2, h3]
def isB (c : UInt8) : Bool := c == 32 || c == 9
def rix (r : Nat) : Int := if r = 32 then 0 else if r = 9 then 1 else -1
theorem enc_hi {r : Nat} (h : 128 ≤ r) (hr : r < 1114112) : ∃ m : Nat, (encL r).length = m + 2 ∧ ∃ hl : m + 1 < (encL r).length, 128 ≤ ((encL r)[m + 1]).toNat := by
 by_cases h1 : r < 2048
 ·have e : encL r = [UInt8.ofNat (192 + r / 64), UInt8.ofNat (128 + r % 64)] := by rw [encL, if_neg (by omega), if_pos h1]
  refine ⟨0, by rw [e]; rfl, by rw [e]; simp, ?_⟩
  simp only [e, Nat.zero_add, List.getElem_cons_succ, List.getElem_cons_zero, UInt8.toNat_ofNat']
  omega
 by_cases h2 : r < 65536
 ·have e : encL r = [UInt8.ofNat (224 + r / 4096), UInt8.ofNat (128 + r / 64 % 64), UInt8.ofNat (128 + r % 64)] := by rw [encL, if_neg (by omega), if_neg h1, if_pos h2]
  refine ⟨1, by rw [e]; rfl, by rw [e]; simp, ?_⟩
  simp only [e, Nat.reduceAdd, List.getElem_cons_succ, List.getElem_cons_zero, UInt8.toNat_ofNat']
  omega
 ·have e : encL r = [UInt8.ofNat (240 + r / 262144), UInt8.ofNat (128 + r / 4096 % 64), UInt8.ofNat (128 + r / 64 % 64), UInt8.ofNat (128 + r % 64)] := by rw [encL, if_neg (by omega), if_neg h1, if_neg h2]
  refine ⟨2, by rw [e]; rfl, by rw [e]; simp, ?_⟩
  simp only [e, Nat.reduceAdd, List.getElem_cons_succ, List.getElem_cons_zero, UInt8.toNat_ofNat']
  omega
theorem rix_ok {W : World} {X : Asn W.heap.size} {w : World} (x : Sat W X w) {r : Nat} (hr : r < 1114112) (hs : ¬ (55296 ≤ r ∧ r < 57344)) : ∃ w', C 94 #[st [32, 9], .int .i32 r] w = some (.int .i64 (rix r), w') ∧ Sat W X w' := by
 have h0 : (0 : Int) ≤ r := by omega
 by_cases h1 : r < 128
 ·have h1' : (r : Int) < 128 := by omega
  have e1 : IntKind.u8.wrap (r : Int) = ((UInt8.ofNat r).toNat : Int) := by rw [wrap_u8n]; congr 1
  have b := byte_ok [32, 9] (UInt8.ofNat r) w
  have e2 : indexByte [32, 9] (UInt8.ofNat r) = rix r := by
   have : ∀ n, n < 128 → indexByte [32, 9] (UInt8.ofNat n) = rix n := by decide +kernel
   exact this r h1
  rw [e2] at b
  obtain ⟨K, hK⟩ : ∃ K : Int, K = ((UInt8.ofNat r).toNat : Int) := ⟨_, rfl⟩
  rw [← hK] at e1 b
  refine ⟨w, f94.run rfl ?_, x⟩
  simp [f94, h0, h1', cv21_5, e1, b]
 ·have h1' : ¬ (r : Int) < 128 := by omega
  have e2 : rix r = -1 := by rw [rix, if_neg (by omega), if_neg (by omega)]
  rw [e2]
  by_cases h2 : r = 65533
  ·have x1 := x.newIter ⟨#[32, 9]⟩
   have rg := str_range (P := Zp) Uz ⟨#[32, 9]⟩ w
   have key := iter_down (f := f94.l0 C) (fun d ws w1 => ∃ pos : Nat, ws = [.pointer (some ⟨w.heap.size, 0, none⟩)] ∧ pos ≤ 2 ∧ d = 2 - pos ∧ Sat W (iterA w.heap.size ⟨#[32, 9]⟩ pos * X) w1)
    (fun q => ∃ w', q = .exit 9 [] w' ∧ Sat W X w') (by
     rintro d ws w1 ⟨pos, rfl, hp, hd, y⟩
     by_cases hlt : pos < 2
     ·obtain ⟨w2, k2, y2⟩ := y.iterNext 0 (P := Zp) hlt
      have hdec : ∃ q : Nat, Utf8.decode ⟨#[32, 9]⟩ pos = (q, 1) ∧ q < 128 := by
       rcases (show pos = 0 ∨ pos = 1 by omega) with rfl | rfl
       ·exact ⟨32, by decide, by omega⟩
       ·exact ⟨9, by decide, by omega⟩
      obtain ⟨q, hq, hq1⟩ := hdec
      rw [hq] at k2 y2
      have hne : ¬ (q : Int) = 65533 := by omega
      refine .inl ⟨2 - (pos + 1), _, w2, by omega, ?_, ⟨pos + 1, rfl, by omega, rfl, y2⟩⟩
      simp [f94.l0, k2, hne]
     ·have k1 := y.iterEnd 0 (P := Zp) (by show ¬ pos < 2; exact hlt)
      exact .inr ⟨.exit 9 [] w1, by simp [f94.l0, k1], ⟨w1, rfl, y.right⟩, by simp⟩) 2 _ _ ⟨0, rfl, by omega, rfl, x1⟩
   obtain ⟨q, k1, w', rfl, y⟩ := key
   refine ⟨w', f94.run rfl ?_, y⟩
   subst h2
   have rg' : Eq_ Zp (Instr.range 9 (st [32, 9])) w = some (.pointer (some ⟨w.heap.size, 0, none⟩), w.alloc (.stringIter ⟨#[32, 9]⟩ 0)) := rg
   simp [f94, rg', k1]
  ·have h2' : ¬ (r : Int) = 65533 := by omega
   have vr := vrune_ok hr hs w
   have cr := conv_rune r w
   rw [enc_eq hr hs] at cr
   obtain ⟨m, hm, hl, hlast⟩ := enc_hi (r := r) (by omega) hr
   have hln := fun ty => str_len (P := Zp) Uz ty (encL r)
   rw [hm] at hln
   have hlr : r < 2147483648 := by omega
   have hmle : m + 2 ≤ 4 := by
    rw [← hm]
    unfold encL
    repeat' split
    all_goals simp
   have e3 : IntKind.i64.wrap (((m + 2 : Nat) : Int) - 1) = ((m + 1 : Nat) : Int) := (wrap_i64 (by omega) (by omega)).trans (by omega)
   have hl2 := fun ty => str_len (P := Zp) Uz ty [32, 9]
   have hres : iter (f94.l2 C) [st [32, 9], st (encL r), .int .i64 ((m + 1 : Nat) : Int), .int .i64 ((m + 1 : Nat) : Int)] w = some (.exit 1 [] w) ∨ ∃ w', iter (f94.l2 C) [st [32, 9], st (encL r), .int .i64 ((m + 1 : Nat) : Int), .int .i64 ((m + 1 : Nat) : Int)] w = some (.ret [.int .i64 (-1)] w') ∧ Sat W X w' := by
    by_cases hm0 : m = 0
    ·subst hm0
     right
     have i1 := str_index (P := Zp) Uz [32, 9] .i64 1 (by simp)
     have i2 := str_index (P := Zp) Uz (encL r) .i64 1 hl
     obtain ⟨z, hz⟩ : ∃ z, z = (encL r)[1] := ⟨_, rfl⟩
     rw [← hz] at i2
     have hz1 : 128 ≤ z.toNat := by rw [hz]; exact hlast
     have hne : ¬ (9 : Int) = z.toNat := by omega
     have sl := str_from (P := Zp) Uz [32, 9] .i64 2 (by simp)
     have bt := byte_ok [] z w.drew.drew
     have key := iter_down (f := f94.l2 C) (fun d ws w1 => ws = [st [32, 9], st (encL r), .int .i64 ((0 + 1 : Nat) : Int), .int .i64 ((0 + 1 : Nat) : Int)] ∧ w1 = w) (fun q => q = .ret [.int .i64 (-1)] w.drew.drew) (by
      rintro d ws w1 ⟨rfl, rfl⟩
      refine .inr ⟨_, ?_, rfl, by simp⟩
      have i1' : Pq Zp (Zi 9 (st [32, 9]) (.int .i64 1)) = some (.int .u8 9) := i1
      have i2' : Pq Zp (Zi 9 (st (encL r)) (.int .i64 1)) = some (.int .u8 z.toNat) := i2
      have sl' : Pq Zp (Zc 9 (st [32, 9]) (some (.int .i64 2)) none none) = some (st []) := sl
      have e4 : IntKind.i64.wrap 2 = 2 := by decide
      have hl2' := hl2 3
      simp only [Yc, List.length_nil] at hl2'
      simp [f94.l2, hl2', i1', i2', hne, e4, sl', bt, indexByte]) 0 _ w ⟨rfl, rfl⟩
     obtain ⟨q, k1, rfl⟩ := key
     exact ⟨_, k1, x.drew.drew⟩
    ·left
     have key := iter_down (f := f94.l2 C) (fun d ws w1 => ws = [st [32, 9], st (encL r), .int .i64 ((m + 1 : Nat) : Int), .int .i64 ((m + 1 : Nat) : Int)] ∧ w1 = w) (fun q => q = .exit 1 [] w) (by
      rintro d ws w1 ⟨rfl, rfl⟩
      refine .inr ⟨_, ?_, rfl, by simp⟩
      have hge : ¬ ((m + 1 : Nat) : Int) < 2 := by omega
      have hl2' := hl2 3
      simp only [Yc, List.length_nil] at hl2'
      obtain ⟨M, hM⟩ : ∃ M : Int, M = ((m + 1 : Nat) : Int) := ⟨_, rfl⟩
      rw [← hM] at hge ⊢
      simp [f94.l2, hl2', hge]) 0 _ w ⟨rfl, rfl⟩
     obtain ⟨q, k1, rfl⟩ := key
     exact k1
   obtain ⟨M, hM⟩ : ∃ M : Int, M = ((m + 1 : Nat) : Int) := ⟨_, rfl⟩
   obtain ⟨M2, hM2⟩ : ∃ M2 : Int, M2 = ((m + 2 : Nat) : Int) := ⟨_, rfl⟩
   rw [← hM] at hres e3
   rw [← hM2] at hln e3
   rcases hres with hres | ⟨w', hres, y⟩
   ·refine ⟨w, f94.run rfl ?_, x⟩
    simp [f94, h0, h1', h2', vr, cr, hln, e3, hres]
   ·refine ⟨w', f94.run rfl ?_, y⟩
    simp [f94, h0, h1', h2', vr, cr, hln, e3, hres]
open Go Go.Proofs Go.RowKit
theorem cs_len (e : Ev) : e.cs.length = 5 := rfl
theorem fm_len (q : List Ev) : (q.flatMap Ev.cs).length = q.length * 5 := by
 induction q with
 | nil => rfl
 | cons a l ih => rw [List.flatMap_cons, Ya, ih, cs_len, Yc]; omega
theorem fm_take : ∀ (i : Nat) (q : List Ev), (q.flatMap Ev.cs).take (i * 5) = (q.take i).flatMap Ev.cs
 | 0, q => by simp
 | i + 1, [] => by simp
 | i + 1, a :: l => by
  rw [List.flatMap_cons, List.take_succ_cons, List.flatMap_cons, ← fm_take i l, List.take_append, cs_len, show (i + 1) * 5 - 5 = i * 5 by omega, List.take_of_length_le (by rw [cs_len]; omega)]
def evBad (day : Int) : List Ev → List Ev → Option (Int × Int)
 | _, [] => none
 | ahead, e :: r => if evCode ahead e day = 0 then evBad day (ahead ++ [e]) r else some (ahead.length, evCode ahead e day)
def dayOf (r : Int) : Int := match rates[r.toNat]? with
 | some x => perDay x
 | none => 0
theorem dayOf_le (r : Int) : dayOf r ≤ 100000000 := by
 unfold dayOf
 split
 ·rename_i x h
  have := List.mem_of_getElem? h
  simp only [rates, List.mem_cons, List.not_mem_nil, or_false] at this
  rcases this with rfl | rfl | rfl | rfl | rfl | rfl | rfl | rfl <;> simp [perDay]
 ·omega
def ckCode (t : List UInt8) (r : Int) (q : List Ev) : Option (Int × Int) :=
 if 100 < t.length then some (-1, 191) else if valid t = false then some (-1, 192) else if r < 1 ∨ 7 < r then some (-1, 181) else if 200 < q.length then some (-1, 196) else evBad (dayOf r) [] q
def ErrIs (w w' : World) : Option (Int × Int) → Value → Prop
 | none, v => v = .nilIface
 | some (k, e), v => ∃ b, v = .iface 99 (.pointer (some ⟨b, 0, none⟩)) ∧ Blk w' b 101 [.int .i64 k, .int .i64 e] ∧ w.heap.size ≤ b
theorem fade_zero {ahead : List Ev} {e : Ev} (h : fadeMay ahead e = true) : 0 ≤ e.f ∧ e.f ≤ 100 := by
 simp only [fadeMay, Bool.or_eq_true, Bool.and_eq_true, decide_eq_true_eq] at h
 omega
theorem evCode_zero {ahead : List Ev} {e : Ev} {day : Int} (h : evCode ahead e day = 0) (hd : day ≤ 100000000) : e.mid ∧ 0 ≤ e.f ∧ e.f ≤ 100 ∧ isName e.s = true ∧ fadeMay ahead e = true ∧ e.n.length ≤ 100 ∧ valid e.n = true ∧ e.o < day := by
 unfold evCode at h
 split at h; · omega
 split at h; · omega
 split at h; · omega
 split at h; · omega
 split at h; · omega
 rename_i h1 h2 h3 h4 h5
 have h3' : fadeMay ahead e = true := by simpa using h3
 refine ⟨⟨by omega, by omega, by omega⟩, (fade_zero h3').1, (fade_zero h3').2, by simpa using h1, h3', by omega, by simpa using h5, by omega⟩
theorem wrong_at (k e : Int) (w : World) : ∃ v w', C 38 #[.int .i64 k, .int .i64 e] w = some (v, w') ∧ w.grownBy w' none ∧ ErrIs w w' (some (k, e)) v :=
 ⟨_, _, wrong_ok k e w, World.grownBy_alloc _ _ _, _, rfl, Blk.new w 101 [.int .i64 k, .int .i64 e], Nat.le_refl _⟩
theorem ErrIs.older {w0 w w' : World} {c : Option (Int × Int)} {v : Value} (h : ErrIs w w' c v) (g : w0.heap.size ≤ w.heap.size) : ErrIs w0 w' c v := by
 match c, h with
 | none, h => exact h
 | some (k, e), ⟨b, h1, h2, h3⟩ => exact ⟨b, h1, h2, by omega⟩
theorem ErrIs.later {w w' w'' : World} {c : Option (Int × Int)} {v : Value} (h : ErrIs w w' c v) (g : w'.grownBy w'' none) : ErrIs w w'' c v := by
 match c, h with
 | none, h => exact h
 | some (k, e), ⟨b, h1, h2, h3⟩ => exact ⟨b, h1, h2.grown g (by simp), h3⟩
theorem gsz {w w' : World} (g : w.grownBy w' none) : w.heap.size ≤ w'.heap.size := g.size
def Short (q : List Ev) : Prop := ∀ e ∈ q, e.s.length ≤ 9223372036854775807 ∧ e.n.length ≤ 9223372036854775807
theorem events_ok {w : World} (T : Ut w) {b : Nat} {t : Value} {rt : Value} {A : Option Addr} {c : Nat} {q : List Ev} (hb : Blk w b 30 [t, rt, .slice A q.length c]) (hr : Rd w A (q.flatMap Ev.cs)) (hc : q.length ≤ c) (hl : q.length ≤ 1000000) (hs : Short q) (day : Int) (hd : day ≤ 100000000) :
  ∃ r w', iter (f15.l0 C) [.pointer (some ⟨b, 0, none⟩), .int .i64 day, .slice A q.length c, .int .i64 q.length, .int .i64 0] w = some r ∧ w.grownBy w' none ∧
   ((r = .exit 1 [] w' ∧ evBad day [] q = none) ∨ ∃ k e v, r = .ret [v] w' ∧ evBad day [] q = some (k, e) ∧ ErrIs w w' (some (k, e)) v) := by
 have key := iter_down (f := f15.l0 C) (fun d ws w1 => ∃ i : Nat, ws = [.pointer (some ⟨b, 0, none⟩), .int .i64 day, .slice A q.length c, .int .i64 q.length, .int .i64 i] ∧ i + d = q.length ∧ w.grownBy w1 none ∧ Good (q.take i) ∧ evBad day (q.take i) (q.drop i) = evBad day [] q)
  (fun r => ∃ w', w.grownBy w' none ∧ ((r = .exit 1 [] w' ∧ evBad day [] q = none) ∨ ∃ k e v, r = .ret [v] w' ∧ evBad day [] q = some (k, e) ∧ ErrIs w w' (some (k, e)) v)) (by
   rintro d ws w1 ⟨i, rfl, hi, gr, hg, he⟩
   cases d with
   | zero =>
    obtain rfl : i = q.length := by omega
    rw [List.drop_length] at he
    exact .inr ⟨.exit 1 [] w1, by simp [f15.l0], ⟨w1, gr, .inl ⟨rfl, he.symm⟩⟩, by simp⟩
   | succ d =>
    have hil : i < q.length := by omega
    have hlt : (i : Int) < (q.length : Int) := by omega
    obtain ⟨e, hqe⟩ : ∃ e, q[i]? = some e := ⟨q[i], Yg hil⟩
    have hdrop : q.drop i = e :: q.drop (i + 1) := by
     rw [List.drop_eq_getElem_cons hil]
     congr 1
     have := Yg hil
     rw [this] at hqe
     exact Option.some.inj hqe
    have htake : q.take (i + 1) = q.take i ++ [e] := by
     rw [List.take_add_one, hqe]
     rfl
    rw [hdrop, evBad] at he
    have hem := List.mem_of_getElem? hqe
    cases A with
    | none =>
     have h0 : q.flatMap Ev.cs = [] := hr
     have := ev_get hqe (show 0 < 5 by omega)
     rw [h0] at this
     simp [Ev.cs] at this
    | some a =>
     have i1 := ix28 a q.length c .i64 i (by omega) (by omega)
     simp only [Int.toNat_natCast] at i1
     have l1 := ev_ld (hr.grown gr) hqe
     obtain ⟨w2, h2, b2, g2⟩ := lay51 e w1
     have gd := grown_step (grown_step gr g2) (drew_grown w2)
     have hbd : Blk w2 b 30 [t, rt, .slice (some a) q.length c] := hb.grown (grown_step gr g2) (by simp)
     have c2 := hbd.cell_eq 2 rfl
     have lb := ev_blk (w := w2.drew) (b := w1.heap.size) b2
     have sl := sl28 (some a) q.length c none (some (.int .i64 i)) none 0 i c (by simpa using bounds_hi (P := Zp) q.length c .i64 i (by omega) (by omega))
     obtain ⟨A', hA'⟩ : ∃ A', A' = (if c = 0 then (some a) else (some a).map (·.add (0 * 5))) := ⟨_, rfl⟩
     have hrd : Rd w2.drew A' ((q.take i).flatMap Ev.cs) := by
      have := (hr.grown gd).sliced 0 i c 5 (by omega) (by omega)
      rw [← hA', Nat.zero_mul, List.drop_zero, Nat.sub_zero, fm_take] at this
      exact this
     rw [← hA', Nat.sub_zero, Nat.sub_zero] at sl
     have htl : (q.take i).length = i := by rw [List.length_take]; omega
     obtain ⟨w3, h3, g3⟩ := event_ok (c := c) (T.grown gd) hrd hg day hd (hs e hem).1 (hs e hem).2
     rw [htl] at h3
     have G3 := grown_step gd g3
     by_cases hz : evCode (q.take i) e day = 0
     ·have e1 : IntKind.i64.wrap ((i : Int) + 1) = ((i + 1 : Nat) : Int) := (wrap_i64 (by omega) (by omega)).trans (by omega)
      refine .inl ⟨d, _, w3, by omega, ?_, ⟨i + 1, rfl, by omega, G3, ?_, ?_⟩⟩
      ·rw [hz] at h3
       simp only [Ev.v] at l1 h2 lb h3
       simp [f15.l0, hlt, i1, l1, alloc51, h2, addL, c2, sl, lb, h3, e1]
      ·obtain ⟨z1, z2, z3, _⟩ := evCode_zero hz hd
       refine ⟨by rw [List.length_take]; omega, fun x hx => ?_⟩
       rw [htake] at hx
       rcases List.mem_append.mp hx with hx | hx
       ·exact hg.2 x hx
       ·obtain rfl : x = e := by simpa using hx
        exact ⟨z1, z2, z3⟩
      ·rw [htake]
       rwa [if_pos hz] at he
     ·rw [if_neg hz, htl] at he
      obtain ⟨v, w4, h4, g4, er4⟩ := wrong_at i (evCode (q.take i) e day) w3
      refine .inr ⟨.ret [v] w4, ?_, ⟨w4, grown_step G3 g4, .inr ⟨_, _, v, rfl, he.symm, er4.older (gsz G3)⟩⟩, by simp⟩
      simp only [Ev.v] at l1 h2 lb h3
      simp [f15.l0, hlt, i1, l1, alloc51, h2, addL, c2, sl, lb, h3, hz, h4]) q.length _ w ⟨0, rfl, by omega, grown_refl _ _, ⟨by simp, by simp⟩, by simp⟩
 obtain ⟨r, h1, w', h2, h3⟩ := key
 exact ⟨r, w', h1, h2, h3⟩
@[simp] theorem eql32_some (x y : Operand) (u : TypeId) (v : Value) (w : World) : Rq Zp (do eqGuard .eql 32 x y (.iface u v) .nilIface; binOp .eql 32 (.iface u v) .nilIface) w = some (.bool false) := id (by kernel_rfl)
@[simp] theorem eql32_none (x : Operand) (c : Value) (w : World) : Rq Zp (do eqGuard .eql 32 x (.const c) .nilIface .nilIface; binOp .eql 32 .nilIface .nilIface) w = some (.bool true) := id (by cases x <;> kernel_rfl)
@[simp] theorem neq32_some (x y : Operand) (u : TypeId) (v : Value) (w : World) : Rq Zp (do eqGuard .neq 32 x y (.iface u v) .nilIface; binOp .neq 32 (.iface u v) .nilIface) w = some (.bool true) := id (by kernel_rfl)
@[simp] theorem neq32_none (x : Operand) (c : Value) (w : World) : Rq Zp (do eqGuard .neq 32 x (.const c) .nilIface .nilIface; binOp .neq 32 .nilIface .nilIface) w = some (.bool false) := id (by cases x <;> kernel_rfl)
def cutV (t : List UInt8) (r : Int) (A : Option Addr) (n c : Nat) : Value := .agg #[st t, .int .i64 r, .slice A n c]
theorem day_in {w : World} (Tt : Tb w) (r : Int) : ∃ d e w', C 37 #[.int .i64 r] w = some (.tuple #[.int .i64 d, .int .i64 e], w') ∧ w.grownBy w' none ∧ ((¬ (r < 1 ∨ 7 < r)) → d = dayOf r ∧ e = 0) ∧ ((r < 1 ∨ 7 < r) → e = 181) := by
 by_cases h : r < 1 ∨ 7 < r
 ·obtain ⟨w', h1, g1⟩ := PerDay_out r h w
  exact ⟨_, _, w', h1, g1, fun h2 => absurd h h2, fun _ => rfl⟩
 ·have hk : r.toNat < rates.length := by simp [rates]; omega
  obtain ⟨x, hx⟩ : ∃ x, rates[r.toNat]? = some x := ⟨_, Yg hk⟩
  obtain ⟨w', h1, g1⟩ := PerDay_in Tt r.toNat (by omega) hx
  rw [show ((r.toNat : Nat) : Int) = r by omega] at h1
  exact ⟨_, _, w', h1, g1, fun _ => ⟨by rw [dayOf, hx], rfl⟩, fun h2 => absurd h2 h⟩
theorem Check_ok {w : World} (T : Ut w) (Tt : Tb w) (t : List UInt8) (r : Int) {A : Option Addr} {c : Nat} {q : List Ev} (hr : Rd w A (q.flatMap Ev.cs)) (hc : q.length ≤ c) (hs : Short q) :
  ∃ v w', C 15 #[cutV t r A q.length c] w = some (v, w') ∧ w.grownBy w' none ∧ ErrIs w w' (ckCode t r q) v := by
 obtain ⟨w1, hw1⟩ : ∃ w1, w1 = w.alloc (.cells #[st t, .int .i64 r, .slice A q.length c] 30) := ⟨_, rfl⟩
 have b : Blk w1 w.heap.size 30 [st t, .int .i64 r, .slice A q.length c] := hw1 ▸ Blk.new w 30 [st t, .int .i64 r, .slice A q.length c]
 have g1 : w.grownBy w1 none := hw1 ▸ World.grownBy_alloc w _ none
 have bx : Eq_ Zp (Instr.box 30 (.agg #[st t, .int .i64 r, .slice A q.length c])) w = some (.pointer (some ⟨w.heap.size, 0, none⟩), w1) := by rw [hw1]; rfl
 have c1 := b.cell_eq 1 rfl
 obtain ⟨d, e, w2, h2, g2, hin, hout⟩ := day_in (Tt.grown g1) r
 have G2 := grown_step g1 g2
 have b2 : Blk w2 w.heap.size 30 [st t, .int .i64 r, .slice A q.length c] := b.grown g2 (by simp)
 have c0 := b2.cell_eq 0 rfl
 have hl : ∀ ty, Pq Zp (Yl #[9] ty #[st t]) = some (.int .i64 t.length) := fun ty => str_len Uz ty t
 unfold cutV
 by_cases z0 : 100 < t.length
 ·obtain ⟨v, w3, h3, g3, e3⟩ := wrong_at (-1) 191 w2
  refine ⟨v, w3, f15.run rfl ?_, grown_step G2 g3, by rw [ckCode, if_pos z0]; exact e3.older (gsz G2)⟩
  have z0' : (100 : Int) < t.length := by omega
  simp [f15, bx, addL, c1, h2, c0, hl, z0', h3]
 have z0' : ¬ (100 : Int) < t.length := by omega
 obtain ⟨w3, h3, g3⟩ := valid_ok (T.grown G2) t (by omega)
 have G3 := grown_step G2 g3
 cases z1 : valid t with
 | false =>
  rw [z1] at h3
  obtain ⟨v, w4, h4, g4, e4⟩ := wrong_at (-1) 192 w3
  refine ⟨v, w4, f15.run rfl ?_, grown_step G3 g4, by rw [ckCode, if_neg z0, if_pos z1]; exact e4.older (gsz G3)⟩
  simp [f15, bx, addL, c1, h2, c0, hl, z0', h3, h4]
 | true =>
  rw [z1] at h3
  have z1' : ¬ valid t = false := by simp [z1]
  by_cases z2 : r < 1 ∨ 7 < r
  ·obtain ⟨v, w4, h4, g4, e4⟩ := wrong_at (-1) 181 w3
   refine ⟨v, w4, f15.run rfl ?_, grown_step G3 g4, by rw [ckCode, if_neg z0, if_neg z1', if_pos z2]; exact e4.older (gsz G3)⟩
   simp [f15, bx, addL, c1, h2, c0, hl, z0', h3, hout z2, h4]
  ·obtain ⟨hd, he⟩ := hin z2
   subst hd; subst he
   have b3 : Blk w3 w.heap.size 30 [st t, .int .i64 r, .slice A q.length c] := b2.grown g3 (by simp)
   have c2 := b3.cell_eq 2 rfl
   by_cases z3 : 200 < q.length
   ·obtain ⟨v, w4, h4, g4, e4⟩ := wrong_at (-1) 196 w3
    refine ⟨v, w4, f15.run rfl ?_, grown_step G3 g4, by rw [ckCode, if_neg z0, if_neg z1', if_neg z2, if_pos z3]; exact e4.older (gsz G3)⟩
    have z3' : (200 : Int) < q.length := by omega
    simp [f15, bx, addL, c1, h2, c0, hl, z0', h3, c2, z3', h4]
   ·have z3' : ¬ (200 : Int) < q.length := by omega
    obtain ⟨res, w4, h4, g4, e4⟩ := events_ok (T.grown G3) b3 (hr.grown G3) hc (by omega) hs (dayOf r) (dayOf_le r)
    have e5 : ckCode t r q = evBad (dayOf r) [] q := by rw [ckCode, if_neg z0, if_neg z1', if_neg z2, if_neg z3]
    rw [e5]
    rcases e4 with ⟨rfl, e4⟩ | ⟨k, x, v, rfl, e4, e6⟩
    ·refine ⟨.nilIface, w4, f15.run rfl ?_, grown_step G3 g4, by rw [e4]; rfl⟩
     simp [f15, bx, addL, c1, h2, c0, hl, z0', h3, c2, z3', h4]
    ·refine ⟨v, w4, f15.run rfl ?_, grown_step G3 g4, by rw [e4]; exact e6.older (gsz G3)⟩
     simp [f15, bx, addL, c1, h2, c0, hl, z0', h3, c2, z3', h4]
theorem evBad_none {day : Int} : ∀ (q ahead : List Ev), evBad day ahead q = none ↔ ∀ (i : Nat) (e : Ev), q[i]? = some e → evCode (ahead ++ q.take i) e day = 0
 | [], ahead => by simp [evBad]
 | a :: l, ahead => by
  rw [evBad]
  constructor
  ·intro h i e hi
   split at h
   ·rename_i h0
    cases i with
    | zero => simp at hi; subst hi; simpa using h0
    | succ i =>
     have := (evBad_none l (ahead ++ [a])).mp h i e (by simpa using hi)
     simpa using this
   ·cases h
  ·intro h
   have h0 := h 0 a rfl
   simp only [List.take_zero, List.append_nil] at h0
   rw [if_pos h0]
   refine (evBad_none l (ahead ++ [a])).mpr fun i e hi => ?_
   have := h (i + 1) e (by simpa using hi)
   simpa using this
structure Fine (t : List UInt8) (r : Int) (q : List Ev) : Prop where
 tl : t.length ≤ 100
 tv : valid t = true
 r1 : 1 ≤ r
 r7 : r ≤ 7
 ql : q.length ≤ 200
 ev : ∀ (i : Nat) (e : Ev), q[i]? = some e → evCode (q.take i) e (dayOf r) = 0
theorem ck_none {t : List UInt8} {r : Int} {q : List Ev} (h : ckCode t r q = none) : Fine t r q := by
 unfold ckCode at h
 split at h; · cases h
 split at h; · cases h
 split at h; · cases h
 split at h; · cases h
 rename_i h1 h2 h3 h4
 exact ⟨by omega, by simpa using h2, by omega, by omega, by omega, by simpa using (evBad_none q []).mp h⟩
theorem Fine.mid {t : List UInt8} {r : Int} {q : List Ev} (h : Fine t r q) {i : Nat} {e : Ev} (he : q[i]? = some e) : e.mid ∧ 0 ≤ e.f ∧ e.f ≤ 100 := by
 have := evCode_zero (h.ev i e he) (dayOf_le r)
 exact ⟨this.1, this.2.1, this.2.2.1⟩
def lens (q : List Ev) : Int := (q.map fun e => e.o - e.i - e.f).sum
theorem lens_add (q : List Ev) (e : Ev) : lens (q ++ [e]) = lens q + (e.o - e.i - e.f) := by simp [lens]
theorem take_add {q : List Ev} {i : Nat} {e : Ev} (h : q[i]? = some e) : q.take (i + 1) = q.take i ++ [e] := by
 rw [List.take_add_one, h]
 rfl
theorem lens_le : ∀ (q : List Ev), (∀ e ∈ q, e.mid ∧ 0 ≤ e.f ∧ e.f ≤ 100) → -100 * (q.length : Int) ≤ lens q ∧ lens q ≤ 100000000 * (q.length : Int)
 | [], _ => by simp [lens]
 | a :: l, h => by
  have h1 := lens_le l fun e he => h e (by simp [he])
  obtain ⟨⟨m0, m1, m2⟩, m3, m4⟩ := h a (by simp)
  simp only [lens, List.map_cons, List.sum_cons, Yc] at h1 ⊢
  omega
theorem sum_ok {w : World} {A : Option Addr} {c : Nat} {q : List Ev} (hr : Rd w A (q.flatMap Ev.cs)) (hq : q.length ≤ 200) (hm : ∀ e ∈ q, e.mid ∧ 0 ≤ e.f ∧ e.f ≤ 100) :
  ∃ w', iter (f18.l0 C) [.int .i64 0, .slice A q.length c, .int .i64 q.length, .int .i64 0] w = some (.exit 0 [.int .i64 (lens q)] w') ∧ w.grownBy w' none := by
 have key := iter_down (f := f18.l0 C) (fun d ws w1 => ∃ i : Nat, ws = [.int .i64 (lens (q.take i)), .slice A q.length c, .int .i64 q.length, .int .i64 i] ∧ i + d = q.length ∧ w.grownBy w1 none)
  (fun r => ∃ w', w.grownBy w' none ∧ r = .exit 0 [.int .i64 (lens q)] w') (by
   rintro d ws w1 ⟨i, rfl, hi, gr⟩
   cases d with
   | zero =>
    obtain rfl : i = q.length := by omega
    rw [List.take_length]
    exact .inr ⟨.exit 0 [.int .i64 (lens q)] w1, by simp [f18.l0], ⟨w1, gr, rfl⟩, by simp⟩
   | succ d =>
    have hil : i < q.length := by omega
    have hlt : (i : Int) < (q.length : Int) := by omega
    obtain ⟨e, hqe⟩ : ∃ e, q[i]? = some e := ⟨q[i], Yg hil⟩
    obtain ⟨⟨m0, m1, m2⟩, m3, m4⟩ := hm e (List.mem_of_getElem? hqe)
    cases A with
    | none =>
     have h0 : q.flatMap Ev.cs = [] := hr
     have := ev_get hqe (show 0 < 5 by omega)
     rw [h0] at this
     simp [Ev.cs] at this
    | some a =>
     have i1 := ix28 a q.length c .i64 i (by omega) (by omega)
     simp only [Int.toNat_natCast] at i1
     have l1 := ev_ld (hr.grown gr) hqe
     obtain ⟨w2, h2, b2, g2⟩ := lay51 e w1
     have lb := ev_blk (w := w2.drew) (b := w1.heap.size) b2
     obtain ⟨w3, h3, g3⟩ := frames_ok (st e.s) (st e.n) e.i e.o e.f (by omega) (by omega) w2.drew
     have b3 : Blk w3 w1.heap.size 51 e.cs := Blk.grown (w := w2.drew) b2 g3 (by simp)
     have d3 := b2.cell_eq 3 rfl
     have c3 := b3.cell_eq 3 rfl
     have hb := lens_le (q.take i) fun x hx => hm x (List.mem_of_mem_take hx)
     have hlt2 : (q.take i).length ≤ 200 := by rw [List.length_take]; omega
     have e1 : IntKind.i64.wrap ((i : Int) + 1) = ((i + 1 : Nat) : Int) := (wrap_i64 (by omega) (by omega)).trans (by omega)
     have e2 : IntKind.i64.wrap (e.o - e.i - e.f) = e.o - e.i - e.f := wrap_i64 (by omega) (by omega)
     have e3 : IntKind.i64.wrap (lens (q.take i) + (e.o - e.i - e.f)) = lens (q.take (i + 1)) := by
      rw [take_add hqe, lens_add]
      exact wrap_i64 (by omega) (by omega)
     refine .inl ⟨d, _, w3, by omega, ?_, ⟨i + 1, rfl, by omega, grown_step (grown_step (grown_step gr g2) (drew_grown _)) g3⟩⟩
     simp only [Ev.v] at l1 h2 lb
     simp [f18.l0, hlt, i1, l1, alloc51, h2, lb, h3, addL, c3, e2, e3, e1, chkThen]
     rw [if_pos (by simp [d3, c3])]
     simp [e1]) q.length [.int .i64 0, .slice A q.length c, .int .i64 q.length, .int .i64 0] w ⟨0, by simp [lens], by omega, grown_refl _ _⟩
 obtain ⟨r, h1, w', h2, rfl⟩ := key
 exact ⟨w', h1, h2⟩
theorem Length_ok {w : World} (T : Ut w) (Tt : Tb w) (t : List UInt8) (r : Int) {A : Option Addr} {c : Nat} {q : List Ev} (hr : Rd w A (q.flatMap Ev.cs)) (hc : q.length ≤ c) (hs : Short q) :
  ∃ n v w', C 18 #[cutV t r A q.length c] w = some (.tuple #[.int .i64 n, v], w') ∧ w.grownBy w' none ∧ ErrIs w w' (ckCode t r q) v ∧ (ckCode t r q = none → n = lens q) ∧ (ckCode t r q ≠ none → n = 0) := by
 obtain ⟨w1, hw1⟩ : ∃ w1, w1 = w.alloc (.cells #[st t, .int .i64 r, .slice A q.length c] 30) := ⟨_, rfl⟩
 have b : Blk w1 w.heap.size 30 [st t, .int .i64 r, .slice A q.length c] := hw1 ▸ Blk.new w 30 [st t, .int .i64 r, .slice A q.length c]
 have g1 : w.grownBy w1 none := hw1 ▸ World.grownBy_alloc w _ none
 have bx : Eq_ Zp (Instr.box 30 (.agg #[st t, .int .i64 r, .slice A q.length c])) w = some (.pointer (some ⟨w.heap.size, 0, none⟩), w1) := by rw [hw1]; rfl
 have lb : Rq Zp (Zl 30 (.pointer (some ⟨w.heap.size, 0, none⟩))) w1 = some (.agg #[st t, .int .i64 r, .slice A q.length c]) :=
  ld30 (a := ⟨w.heap.size, 0, none⟩) (by rw [addL]; exact b.cell_eq 0 rfl) (by rw [addL]; exact b.cell_eq 1 rfl) (by rw [addL]; exact b.cell_eq 2 rfl)
 obtain ⟨v, w2, h2, g2, e2⟩ := Check_ok (T.grown g1) (Tt.grown g1) t r (hr.grown g1) hc hs
 have G2 := grown_step g1 g2
 cases hk : ckCode t r q with
 | none =>
  rw [hk] at e2
  have hv : v = .nilIface := e2
  subst hv
  have F := ck_none hk
  have b2 : Blk w2 w.heap.size 30 [st t, .int .i64 r, .slice A q.length c] := b.grown g2 (by simp)
  have c2 := b2.cell_eq 2 rfl
  obtain ⟨w3, h3, g3⟩ := sum_ok (c := c) (hr.grown G2) F.ql fun e he => by
   obtain ⟨i, hi⟩ := List.getElem?_of_mem he
   exact F.mid hi
  refine ⟨lens q, .nilIface, w3, f18.run rfl ?_, grown_step G2 g3, rfl, fun _ => rfl, fun h => absurd rfl h⟩
  simp only [cutV] at h2 ⊢
  simp [f18, bx, lb, h2, addL, c2, h3]
 | some x =>
  obtain ⟨k, e⟩ := x
  rw [hk] at e2
  have e2' := e2
  obtain ⟨b', rfl, e3, e4⟩ := e2
  refine ⟨0, _, w2, f18.run rfl ?_, G2, e2'.older (gsz g1), fun h => (by cases h), fun _ => rfl⟩
  simp only [cutV] at h2 ⊢
  simp [f18, bx, lb, h2]
open Go Go.Proofs Go.RowKit Go.Sh.Ev
def gl2 : Unit := ()
def GlobOk (u : Unit) (w : World) : Prop := w.cell? ⟨7, 2, none⟩ = some (.int .u64 100)
theorem globOk_grown {G : Unit} {w w' : World} (h : GlobOk G w) (g : w.grownBy w' none) : GlobOk G w' := by
 have h1 : Rd w (some ⟨7, 2, none⟩) [.int .u64 100] := fun j v hj => by
  cases j with
  | zero => simp at hj; subst hj; exact h
  | succ j => simp at hj
 exact h1.grown g 0 _ rfl
def dec (k : Nat) : List UInt8 := bif Nat.blt k 10 then [UInt8.ofNat (48 + k)] else bif Nat.blt k 100 then [UInt8.ofNat (48 + k / 10), UInt8.ofNat (48 + k % 10)] else [UInt8.ofNat (48 + k / 100), UInt8.ofNat (48 + k / 10 % 10), UInt8.ofNat (48 + k % 10)]
theorem dec_len (k : Nat) : (dec k).length ≤ 3 := by
 unfold dec
 cases Nat.blt k 10 <;> cases Nat.blt k 100 <;> simp
def dg36 : List UInt8 := [48, 49, 50, 51, 52, 53, 54, 55, 56, 57, 97, 98, 99, 100, 101, 102, 103, 104, 105, 106, 107, 108, 109, 110, 111, 112, 113, 114, 115, 116, 117, 118, 119, 120, 121, 122]
def dg200 : List UInt8 := [48, 48, 48, 49, 48, 50, 48, 51, 48, 52, 48, 53, 48, 54, 48, 55, 48, 56, 48, 57, 49, 48, 49, 49, 49, 50, 49, 51, 49, 52, 49, 53, 49, 54, 49, 55, 49, 56, 49, 57, 50, 48, 50, 49, 50, 50, 50, 51, 50, 52, 50, 53, 50, 54, 50, 55, 50, 56, 50, 57, 51, 48, 51, 49, 51, 50, 51, 51, 51, 52, 51, 53, 51, 54, 51, 55, 51, 56, 51, 57, 52, 48, 52, 49, 52, 50, 52, 51, 52, 52, 52, 53, 52, 54, 52, 55, 52, 56, 52, 57, 53, 48, 53, 49, 53, 50, 53, 51, 53, 52, 53, 53, 53, 54, 53, 55, 53, 56, 53, 57, 54, 48, 54, 49, 54, 50, 54, 51, 54, 52, 54, 53, 54, 54, 54, 55, 54, 56, 54, 57, 55, 48, 55, 49, 55, 50, 55, 51, 55, 52, 55, 53, 55, 54, 55, 55, 55, 56, 55, 57, 56, 48, 56, 49, 56, 50, 56, 51, 56, 52, 56, 53, 56, 54, 56, 55, 56, 56, 56, 57, 57, 48, 57, 49, 57, 50, 57, 51, 57, 52, 57, 53, 57, 54, 57, 55, 57, 56, 57, 57]
theorem dg_1 : ∀ k, k < 10 → (dg36.drop k).take 1 = dec k := by decide +kernel
theorem dg_2 : ∀ k, k < 100 → 10 ≤ k → (dg200.drop (2 * k)).take 2 = dec k := by decide +kernel
theorem small_ok {k : Nat} (hk : k < 100) (w : World) : C 134 #[.int .i64 k] w = some (st (dec k), w) := by
 have e1 : IntKind.i64.wrap ((k : Int) + 1) = ((k + 1 : Nat) : Int) := by rw [wrap_i64 (by omega) (by omega)]; rfl
 have e2 : IntKind.i64.wrap ((k : Int) * 2) = ((2 * k : Nat) : Int) := by rw [wrap_i64 (by omega) (by omega)]; omega
 have e3 : IntKind.i64.wrap (((2 * k : Nat) : Int) + 2) = ((2 * k + 2 : Nat) : Int) := by rw [wrap_i64 (by omega) (by omega)]; rfl
 by_cases h : k < 10
 ·have q : Pq Zp (Zc 9 (.string ⟨#[48, 49, 50, 51, 52, 53, 54, 55, 56, 57, 97, 98, 99, 100, 101, 102, 103, 104, 105, 106, 107, 108, 109, 110, 111, 112, 113, 114, 115, 116, 117, 118, 119, 120, 121, 122]⟩) (some (.int .i64 k)) (some (.int .i64 ((k + 1 : Nat) : Int))) none) = some (st (dec k)) := by
   rw [← dg_1 k h]
   have := str_part (P := Zp) (t := 9) Uz dg36 .i64 .i64 k (k + 1) (by omega) (by show k + 1 ≤ 36; omega)
   rwa [Nat.add_sub_cancel_left] at this
  have hlt : ((k : Int) < 10) = True := eq_true (by omega)
  refine f134.run rfl ?_
  obtain ⟨c, hc⟩ : ∃ c : Int, c = ((k + 1 : Nat) : Int) := ⟨_, rfl⟩
  rw [← hc] at e1 q
  simp [f134, hlt, e1, q]
 ·have q : Pq Zp (Zc 9 (.string ⟨#[48, 48, 48, 49, 48, 50, 48, 51, 48, 52, 48, 53, 48, 54, 48, 55, 48, 56, 48, 57, 49, 48, 49, 49, 49, 50, 49, 51, 49, 52, 49, 53, 49, 54, 49, 55, 49, 56, 49, 57, 50, 48, 50, 49, 50, 50, 50, 51, 50, 52, 50, 53, 50, 54, 50, 55, 50, 56, 50, 57, 51, 48, 51, 49, 51, 50, 51, 51, 51, 52, 51, 53, 51, 54, 51, 55, 51, 56, 51, 57, 52, 48, 52, 49, 52, 50, 52, 51, 52, 52, 52, 53, 52, 54, 52, 55, 52, 56, 52, 57, 53, 48, 53, 49, 53, 50, 53, 51, 53, 52, 53, 53, 53, 54, 53, 55, 53, 56, 53, 57, 54, 48, 54, 49, 54, 50, 54, 51, 54, 52, 54, 53, 54, 54, 54, 55, 54, 56, 54, 57, 55, 48, 55, 49, 55, 50, 55, 51, 55, 52, 55, 53, 55, 54, 55, 55, 55, 56, 55, 57, 56, 48, 56, 49, 56, 50, 56, 51, 56, 52, 56, 53, 56, 54, 56, 55, 56, 56, 56, 57, 57, 48, 57, 49, 57, 50, 57, 51, 57, 52, 57, 53, 57, 54, 57, 55, 57, 56, 57, 57]⟩) (some (.int .i64 ((2 * k : Nat) : Int))) (some (.int .i64 ((2 * k + 2 : Nat) : Int))) none) = some (st (dec k)) := by
   rw [← dg_2 k hk (by omega)]
   have := str_part (P := Zp) (t := 9) Uz dg200 .i64 .i64 (2 * k) (2 * k + 2) (by omega) (by show 2 * k + 2 ≤ 200; omega)
   rwa [Nat.add_sub_cancel_left] at this
  have hlt : ((k : Int) < 10) = False := eq_false (by omega)
  refine f134.run rfl ?_
  obtain ⟨a, ha⟩ : ∃ a : Int, a = ((2 * k : Nat) : Int) := ⟨_, rfl⟩
  obtain ⟨c, hc⟩ : ∃ c : Int, c = ((2 * k + 2 : Nat) : Int) := ⟨_, rfl⟩
  rw [← ha] at e2 e3 q
  rw [← hc] at e3 q
  simp [f134, hlt, e2, e3, q]
theorem len64_100 (w : World) : C 141 #[.int .u64 100] w = some (.int .i64 7, w) := f141.run rfl (by kernel_rfl)
theorem digits_100 {w : World} (hG : GlobOk gl2 w) : C 135 #[.int .u64 100] w = some (.int .i64 3, w) := by
 have h141 := len64_100 w
 have h140 : C 140 #[.int .i64 7] w = some (.int .i64 2, w) := f140.run rfl (by kernel_rfl)
 have h142 : C 142 #[.bool true] w = some (.int .i64 1, w) := f142.run rfl (by simp [f142])
 have hi : Pq Zp (Zj 224 (.pointer (some ⟨7, 0, none⟩)) (.int .i64 2)) = some (.pointer (some ⟨7, 2, none⟩)) := id (by kernel_rfl)
 have e1 : IntKind.i64.wrap 3 = 3 := wrap_i64 (by omega) (by omega)
 have hg : w.cell? ⟨7, 2, none⟩ = some (.int .u64 100) := hG
 refine f135.run rfl ?_
 simp [f135, h141, h140, h142, hi, hg, e1]
theorem alloc213 (w : World) : Eq_ Zp (Za 213 true (.tuple #[])) w = some (.pointer (some ⟨w.heap.size, 0, none⟩), w.alloc (.cells (List.replicate 24 (.int .u8 0)).toArray 213)) := id (by kernel_rfl)
theorem fmt_100 {W w : World} {X : Asn W.heap.size} {b : Nat} (x : Sat W (blkA b 213 (List.replicate 24 (.int .u8 0)) * X) w) :
  ∃ v w', C 136 #[.slice (some ⟨b, 1, none⟩) 3 23, .int .u64 100] w = some (v, w') ∧ Sat W (blkA b 213 (((List.replicate 24 (.int .u8 0)).set 3 (.int .u8 48)).set 2 (.int .u8 48) |>.set 1 (.int .u8 49)) * X) w' := by
 have hs5 : (inf 5).size = 1 := by kernel_rfl
 have i5 : Tryz.prog.info? 5 = some (inf 5) := by kernel_rfl
 have x1 := x.drew
 obtain ⟨w1, hw1⟩ : ∃ w1, w1 = w.drew := ⟨_, rfl⟩
 rw [← hw1] at x1
 have s1 := x1.blk.store (P := Zp) (t := 5) (j := 3) (v := .int .u8 48) i5 hs5 (by simp) rfl rfl
 have x2 := x1.store 3 (.int .u8 48) rfl
 obtain ⟨w2, hw2⟩ : ∃ w2, w2 = w1.setCell ⟨b, 3, none⟩ (.int .u8 48) := ⟨_, rfl⟩
 rw [← hw2] at s1 x2
 have s2 := x2.blk.store (P := Zp) (t := 5) (j := 2) (v := .int .u8 48) i5 hs5 (by simp) rfl rfl
 have x3 := x2.store 2 (.int .u8 48) rfl
 obtain ⟨w3, hw3⟩ : ∃ w3, w3 = w2.setCell ⟨b, 2, none⟩ (.int .u8 48) := ⟨_, rfl⟩
 rw [← hw3] at s2 x3
 have s3 := x3.blk.store (P := Zp) (t := 5) (j := 1) (v := .int .u8 49) i5 hs5 (by simp) rfl rfl
 have x4 := x3.store 1 (.int .u8 49) rfl
 obtain ⟨w4, hw4⟩ : ∃ w4, w4 = w3.setCell ⟨b, 1, none⟩ (.int .u8 49) := ⟨_, rfl⟩
 rw [← hw4] at s3 x4
 have ql : Pq Zp (Yl #[160] 3 #[.slice (some ⟨b, 1, none⟩) 3 23]) = some (.int .i64 3) := id (by kernel_rfl)
 have it : iter (f136.l0 C) [.slice (some ⟨b, 1, none⟩) 3 23, .int .u64 100, .int .i64 3] w = some (.exit 0 [.slice (some ⟨b, 1, none⟩) 3 23, .int .u64 100, .int .i64 3] w) := iter_of_rounds (.exit (by simp [f136.l0]))
 have cv : Pq Zp (convert 159 190 (.int .u64 100)) = some (.int .u32 100) := id (by kernel_rfl)
 have cv2 : Pq Zp (convert 190 5 (.int .u32 49)) = some (.int .u8 49) := id (by kernel_rfl)
 have b1 : bin .rem (.int .u32 100) (.int .u32 100) = some (.int .u32 0) := id (by kernel_rfl)
 have b2 : bin .mul (.int .u32 0) (.int .u32 2) = some (.int .u32 0) := id (by kernel_rfl)
 have b3 : bin .quo (.int .u32 100) (.int .u32 100) = some (.int .u32 1) := id (by kernel_rfl)
 have b4 : bin .sub (.int .i64 3) (.int .i64 1) = some (.int .i64 2) := id (by kernel_rfl)
 have b5 : bin .sub (.int .i64 3) (.int .i64 2) = some (.int .i64 1) := id (by kernel_rfl)
 have b6 : bin .add (.int .u32 0) (.int .u32 1) = some (.int .u32 1) := id (by kernel_rfl)
 have b7 : bin .add (.int .u32 48) (.int .u32 1) = some (.int .u32 49) := id (by kernel_rfl)
 have c1 : bin .geq (.int .i64 3) (.int .i64 4) = some (.bool false) := id (by kernel_rfl)
 have c2 : bin .geq (.int .i64 3) (.int .i64 2) = some (.bool true) := id (by kernel_rfl)
 have c3 : bin .gtr (.int .i64 1) (.int .i64 0) = some (.bool true) := id (by kernel_rfl)
 have q1 : Pq Zp (Zi 9 (.string ⟨#[48, 48, 48, 49, 48, 50, 48, 51, 48, 52, 48, 53, 48, 54, 48, 55, 48, 56, 48, 57, 49, 48, 49, 49, 49, 50, 49, 51, 49, 52, 49, 53, 49, 54, 49, 55, 49, 56, 49, 57, 50, 48, 50, 49, 50, 50, 50, 51, 50, 52, 50, 53, 50, 54, 50, 55, 50, 56, 50, 57, 51, 48, 51, 49, 51, 50, 51, 51, 51, 52, 51, 53, 51, 54, 51, 55, 51, 56, 51, 57, 52, 48, 52, 49, 52, 50, 52, 51, 52, 52, 52, 53, 52, 54, 52, 55, 52, 56, 52, 57, 53, 48, 53, 49, 53, 50, 53, 51, 53, 52, 53, 53, 53, 54, 53, 55, 53, 56, 53, 57, 54, 48, 54, 49, 54, 50, 54, 51, 54, 52, 54, 53, 54, 54, 54, 55, 54, 56, 54, 57, 55, 48, 55, 49, 55, 50, 55, 51, 55, 52, 55, 53, 55, 54, 55, 55, 55, 56, 55, 57, 56, 48, 56, 49, 56, 50, 56, 51, 56, 52, 56, 53, 56, 54, 56, 55, 56, 56, 56, 57, 57, 48, 57, 49, 57, 50, 57, 51, 57, 52, 57, 53, 57, 54, 57, 55, 57, 56, 57, 57]⟩) (.int .u32 1)) = some (.int .u8 48) := id (by kernel_rfl)
 have q0 : Pq Zp (Zi 9 (.string ⟨#[48, 48, 48, 49, 48, 50, 48, 51, 48, 52, 48, 53, 48, 54, 48, 55, 48, 56, 48, 57, 49, 48, 49, 49, 49, 50, 49, 51, 49, 52, 49, 53, 49, 54, 49, 55, 49, 56, 49, 57, 50, 48, 50, 49, 50, 50, 50, 51, 50, 52, 50, 53, 50, 54, 50, 55, 50, 56, 50, 57, 51, 48, 51, 49, 51, 50, 51, 51, 51, 52, 51, 53, 51, 54, 51, 55, 51, 56, 51, 57, 52, 48, 52, 49, 52, 50, 52, 51, 52, 52, 52, 53, 52, 54, 52, 55, 52, 56, 52, 57, 53, 48, 53, 49, 53, 50, 53, 51, 53, 52, 53, 53, 53, 54, 53, 55, 53, 56, 53, 57, 54, 48, 54, 49, 54, 50, 54, 51, 54, 52, 54, 53, 54, 54, 54, 55, 54, 56, 54, 57, 55, 48, 55, 49, 55, 50, 55, 51, 55, 52, 55, 53, 55, 54, 55, 55, 55, 56, 55, 57, 56, 48, 56, 49, 56, 50, 56, 51, 56, 52, 56, 53, 56, 54, 56, 55, 56, 56, 56, 57, 57, 48, 57, 49, 57, 50, 57, 51, 57, 52, 57, 53, 57, 54, 57, 55, 57, 56, 57, 57]⟩) (.int .u32 0)) = some (.int .u8 48) := id (by kernel_rfl)
 have a2 : Pq Zp (Zj 160 (.slice (some ⟨b, 1, none⟩) 3 23) (.int .i64 2)) = some (.pointer (some ⟨b, 3, none⟩)) := id (by kernel_rfl)
 have a1 : Pq Zp (Zj 160 (.slice (some ⟨b, 1, none⟩) 3 23) (.int .i64 1)) = some (.pointer (some ⟨b, 2, none⟩)) := id (by kernel_rfl)
 have a0 : Pq Zp (Zj 160 (.slice (some ⟨b, 1, none⟩) 3 23) (.int .i64 0)) = some (.pointer (some ⟨b, 1, none⟩)) := id (by kernel_rfl)
 refine ⟨.tuple #[], w4, f136.run rfl ?_, x4⟩
 simp [f136, ql, it, cv, c1, c2, b1, b2, b3, b4, b5, b6, ← hw1, q1, q0, a2, a1, a0, s1, s2, s3, chkThen, c3, b7, cv2]
theorem itoa_ok {w : World} (hG : GlobOk gl2 w) {k : Nat} (hk : k ≤ 100) : ∃ w', C 91 #[.int .i64 k] w = some (st (dec k), w') ∧ w.grownBy w' none := by
 by_cases h : k < 100
 ·have h134 := small_ok h w
  have hlt : ((k : Int) < 100) = True := eq_true (by omega)
  have hge : ((0 : Int) ≤ k) = True := eq_true (by omega)
  have h128 : C 128 #[.int .i64 k, .int .i64 10] w = some (st (dec k), w) := f128.run rfl (by simp [f128, hlt, hge, h134])
  have h114 : C 114 #[.int .i64 k] w = some (st (dec k), w) := f114.run rfl (by simp [f114, h128])
  exact ⟨w, f91.run rfl (by simp [f91, h114]), grown_refl w none⟩
 ·obtain rfl : k = 100 := by omega
  show ∃ w', C 91 #[.int .i64 100] w = some (st (dec 100), w') ∧ w.grownBy w' none
  have s0 : Sat w emp w := ⟨Grew.refl _ _, fun _ => False, rfl⟩
  have x1 := s0.newBlk 213 (List.replicate 24 (.int .u8 0))
  have a1 := alloc213 w
  obtain ⟨w1, hw1⟩ : ∃ w1, w1 = w.alloc (.cells (List.replicate 24 (Value.int .u8 0)).toArray 213) := ⟨_, rfl⟩
  rw [← hw1] at x1 a1
  obtain ⟨b, hb⟩ : ∃ b, b = w.heap.size := ⟨_, rfl⟩
  have x1 : Sat w (blkA b 213 (List.replicate 24 (.int .u8 0)) * emp) w1 := hb ▸ x1
  rw [← hb] at a1
  have h135 := digits_100 (globOk_grown hG (grown_of x1))
  obtain ⟨v, w2, h136, x2⟩ := fmt_100 x1
  have cv : Pq Zp (convert 2 159 (.int .i64 100)) = some (.int .u64 100) := id (by kernel_rfl)
  have sl : Pq Zp (Zc 213 (.pointer (some ⟨b, 0, none⟩)) (some (.int .i64 1)) (some (.int .i64 4)) none) = some (.slice (some ⟨b, 1, none⟩) 3 23) := id (by kernel_rfl)
  have e1 : IntKind.i64.wrap 4 = 4 := wrap_i64 (by omega) (by omega)
  have tx := tx160_9 (w := w2) (A := some ⟨b, 1, none⟩) (c := 23) (l := dec 100) (n := 3) rfl (fun j v hj => by
   have hb : bv (dec 100) = [.int .u8 49, .int .u8 48, .int .u8 48] := by kernel_rfl
   rw [hb] at hj
   match j, hj with
   | 0, hj => cases hj; exact x2.cell 1 rfl
   | 1, hj => cases hj; exact x2.cell 2 rfl
   | 2, hj => cases hj; exact x2.cell 3 rfl
   | n + 3, hj => simp at hj)
  have h128 : C 128 #[.int .i64 100, .int .i64 10] w = some (st (dec 100), w2) := f128.run rfl (by
   obtain ⟨D, hD⟩ : ∃ D, D = dec 100 := ⟨_, rfl⟩
   rw [← hD] at tx ⊢
   simp [f128, a1, cv, h135, sl, e1, h136, tx])
  have h114 : C 114 #[.int .i64 100] w = some (st (dec 100), w2) := f114.run rfl (by simp [f114, h128])
  exact ⟨w2, f91.run rfl (by simp [f91, h114]), grown_of x2⟩
open Go Go.Proofs Go.RowKit Go.Lib Go.Sh.Ev
def setV : List Value := (List.range 256).map fun i => .bool (i == 32 || i == 9)
theorem alloc175 (w : World) : Eq_ Zp (Za 175 true (.tuple #[])) w = some (.pointer (some ⟨w.heap.size, 0, none⟩), w.alloc (.cells (List.replicate 256 (.bool false)).toArray 175)) := id (by kernel_rfl)
theorem inf4b : Tryz.prog.info? 4 = some (inf 4) := by kernel_rfl
theorem i175 : Tryz.prog.info? 175 = some (inf 175) := by kernel_rfl
theorem cells_at {w : World} {b : Nat} {e : TypeId} {cs : List Value} (h : Blk w b e cs) : ∀ (l : List Value) (i : Nat), cs.drop i = l → cellsAt w ⟨b, 0, none⟩ i l
 | [], _, _ => trivial
 | v :: r, i, hl => by
  refine ⟨?_, cells_at h r (i + 1) (by rw [← List.tail_drop, hl]; rfl)⟩
  rw [addL, Nat.zero_add]
  refine h.cell_eq i ?_
  have := congrArg (fun l => l[0]?) hl
  simpa using this
theorem set_ok {w : World} (hG : GlobOk gl2 w) : ∃ w', C 96 #[st [32, 9]] w = some (.tuple #[.agg setV.toArray, .bool true], w') ∧ w.grownBy w' none := by
 have s0 : Sat w emp w := ⟨Grew.refl _ _, fun _ => False, rfl⟩
 have x1 := s0.newBlk 175 (List.replicate 256 (.bool false))
 have a1 := alloc175 w
 obtain ⟨w1, hw1⟩ : ∃ w1, w1 = w.alloc (.cells (List.replicate 256 (Vb false)).toArray 175) := ⟨_, rfl⟩
 rw [← hw1] at x1 a1
 obtain ⟨b, hb⟩ : ∃ b, b = w.heap.size := ⟨_, rfl⟩
 have x1 : Sat w (blkA b 175 (List.replicate 256 (.bool false)) * emp) w1 := hb ▸ x1
 rw [← hb] at a1
 have hs4 : (inf 4).size = 1 := by kernel_rfl
 have ix : ∀ j : Nat, j < 256 → Pq Zp (Zj 175 (.pointer (some ⟨b, 0, none⟩)) (.int .u8 j)) = some (.pointer (some ⟨b, j, none⟩)) := fun j hj => by
  have := ar_index (t := 175) Tryz.underlying175 inf4b b 0 .u8 j hj
  rwa [hs4, Nat.mul_one, Nat.zero_add] at this
 have i32 : Pq Zp (Zj 175 (.pointer (some ⟨b, 0, none⟩)) (.int .u8 32)) = some (.pointer (some ⟨b, 32, none⟩)) := ix 32 (by omega)
 have i9 : Pq Zp (Zj 175 (.pointer (some ⟨b, 0, none⟩)) (.int .u8 9)) = some (.pointer (some ⟨b, 9, none⟩)) := ix 9 (by omega)
 have s1 := x1.blk.store (P := Zp) (t := 4) (j := 32) (v := .bool true) inf4b hs4 (by simp) rfl rfl
 have x2 := x1.store 32 (.bool true) rfl
 obtain ⟨w2, hw2⟩ : ∃ w2, w2 = w1.setCell ⟨b, 32, none⟩ (.bool true) := ⟨_, rfl⟩
 rw [← hw2] at s1 x2
 have s2 := x2.blk.store (P := Zp) (t := 4) (j := 9) (v := .bool true) inf4b hs4 (by simp) rfl rfl
 have x3 := x2.store 9 (.bool true) (cs' := setV) (by kernel_rfl)
 obtain ⟨w3, hw3⟩ : ∃ w3, w3 = w2.setCell ⟨b, 9, none⟩ (.bool true) := ⟨_, rfl⟩
 rw [← hw3] at s2 x3
 have hsz : setV.length = (inf 175).size := by kernel_rfl
 have l3 : Rq Zp (Zl 175 (.pointer (some ⟨b, 0, none⟩))) w3 = some (.agg setV.toArray) := load_agg i175 (by kernel_rfl) hsz (cells_at x3.blk setV 0 rfl)
 obtain ⟨w4, k4, x4⟩ := put_blk x3 i175 (v := .agg setV.toArray) (cs' := setV) rfl hsz rfl (fun u hu => by
  unfold setV at hu
  obtain ⟨i, _, rfl⟩ := List.mem_map.mp hu
  rfl)
 have l4 : Rq Zp (Zl 175 (.pointer (some ⟨b, 0, none⟩))) w4 = some (.agg setV.toArray) := load_agg i175 (by kernel_rfl) hsz (cells_at x4.blk setV 0 rfl)
 have it : iter (f96.l0 C) [st [32, 9], .pointer (some ⟨b, 0, none⟩), .int .i64 0] w1 = some (.exit 0 [.pointer (some ⟨b, 0, none⟩)] w3) := by
  have q0 : Pq Zp (Zi 9 (st [32, 9]) (.int .i64 0)) = some (.int .u8 32) := id (by kernel_rfl)
  have q1 : Pq Zp (Zi 9 (st [32, 9]) (.int .i64 1)) = some (.int .u8 9) := id (by kernel_rfl)
  have ql : Pq Zp (Yl #[9] 3 #[st [32, 9]]) = some (.int .i64 2) := id (by kernel_rfl)
  have e1 : IntKind.i64.wrap 1 = 1 := wrap_i64 (by omega) (by omega)
  have e2 : IntKind.i64.wrap 2 = 2 := wrap_i64 (by omega) (by omega)
  refine iter_once (vs' := [st [32, 9], .pointer (some ⟨b, 0, none⟩), .int .i64 1]) (w' := w2) (by simp [f96.l0, q0, ql, i32, s1, e1]) ?_
  refine iter_once (vs' := [st [32, 9], .pointer (some ⟨b, 0, none⟩), .int .i64 2]) (w' := w3) (by simp [f96.l0, q1, ql, i9, s2, e2]) ?_
  exact iter_of_rounds (.exit (by simp [f96.l0, ql]))
 refine ⟨w4, f96.run rfl ?_, grown_of x4⟩
 simp [f96, a1, it, l3, k4, l4, Res.doneR, loadsOf, outcome]
theorem has_ok {W : World} {X : Asn W.heap.size} {w : World} {b : Nat} (x : Sat W (blkA b 175 setV * X) w) (c : UInt8) : C 97 #[.pointer (some ⟨b, 0, none⟩), .int .u8 c.toNat] w = some (.bool (isB c), w) := by
 have hc := c.toNat_lt
 have ix := ar_index (t := 175) Tryz.underlying175 inf4b b 0 .u8 c.toNat (by omega)
 have hs : (inf 4).size = 1 := by kernel_rfl
 rw [hs, Nat.mul_one, Nat.zero_add] at ix
 have hv : setV[c.toNat]? = some (.bool (isB c)) := by
  rw [setV, List.getElem?_map, List.getElem?_range (by omega)]
  show some (Vb (c.toNat == 32 || c.toNat == 9)) = some (Vb (c == 32 || c == 9))
  congr 2
  have h1 : ∀ n : Nat, n < 256 → (c.toNat == n) = (c == UInt8.ofNat n) := fun n hn => by
   by_cases h : c.toNat = n
   ·have h2 : c = UInt8.ofNat n := (c_eq hn).mp h
    rw [beq_iff_eq.mpr h, beq_iff_eq.mpr h2]
   ·have h2 : ¬ c = UInt8.ofNat n := fun e => h ((c_eq hn).mpr e)
    rw [beq_eq_false_iff_ne.mpr h, beq_eq_false_iff_ne.mpr h2]
  rw [h1 32 (by omega), h1 9 (by omega)]
  rfl
 have hl := x.cell c.toNat hv
 refine f97.run rfl ?_
 simp [f97, ix, hl]
def anyIx (l : List UInt8) : Int := match l.findIdx? isB with
 | some i => i
 | none => -1
theorem any_long {W : World} {X : Asn W.heap.size} {w : World} (x : Sat W X w) (hG : GlobOk gl2 w) (l : List UInt8) (hl : l.length ≤ 30000) (h8 : 8 < l.length) : ∃ w', C 57 #[st l, st [32, 9]] w = some (.int .i64 (anyIx l), w') ∧ Sat W X w' := by
 have ne := fun a b => str_eql (P := Zp) (t := 9) a b [32, 9] []
 have l2 := fun ty => str_len (P := Zp) Uz ty [32, 9]
 have ll := fun ty => str_len (P := Zp) Uz ty l
 have h95 : C 95 #[.int .i64 l.length] w = some (.bool true, w) := by
  refine f95.run rfl ?_
  have : (8 : Int) < l.length := by omega
  simp [f95, this]
 obtain ⟨w1, h96, g1⟩ := set_ok hG
 have x1 := (x.grown g1).newBlk 175 (List.replicate 256 (.bool false))
 have al := alloc175 w1
 obtain ⟨w2, hw2⟩ : ∃ w2, w2 = w1.alloc (.cells (List.replicate 256 (Vb false)).toArray 175) := ⟨_, rfl⟩
 rw [← hw2] at x1 al
 have hsl : setV.length = 256 := by simp [setV]
 obtain ⟨w3, h3, x3⟩ := put_blk x1 inf175 (v := .agg setV.toArray) (cs' := setV) rfl (by rw [size175, hsl]) (by rw [hsl, List.length_replicate]) (fun u hu => by simp [setV] at hu; obtain ⟨i, _, rfl⟩ := hu; rfl)
 have key := iter_down (f := f57.l0 C) (fun d ws w4 => ∃ i : Nat, ws = [st l, .pointer (some ⟨w1.heap.size, 0, none⟩), .int .i64 i] ∧ i + d = l.length ∧ w4 = w3 ∧ (l.take i).findIdx? isB = none)
  (fun r => (r = .exit 0 [] w3 ∧ l.findIdx? isB = none) ∨ ∃ i : Nat, r = .ret [.int .i64 i] w3 ∧ l.findIdx? isB = some i) (by
   rintro d ws w4 ⟨i, rfl, hi, rfl, hn⟩
   cases d with
   | zero =>
    obtain rfl : i = l.length := by omega
    rw [List.take_length] at hn
    exact .inr ⟨_, by simp [f57.l0, ll], .inl ⟨rfl, hn⟩, by simp⟩
   | succ d =>
    have hil : i < l.length := by omega
    have hlt : (i : Int) < (l.length : Int) := by omega
    have ix := str_index (P := Zp) Uz l .i64 i hil
    obtain ⟨c, hc⟩ : ∃ c, c = l[i] := ⟨_, rfl⟩
    rw [← hc] at ix
    have hh := has_ok x3 c
    have e1 : IntKind.i64.wrap ((i : Int) + 1) = ((i + 1 : Nat) : Int) := (wrap_i64 (by omega) (by omega)).trans (by omega)
    have hsplit : l = l.take i ++ c :: l.drop (i + 1) := by rw [hc, ← List.drop_eq_getElem_cons hil, List.take_append_drop]
    have htl : (l.take i).length = i := by rw [List.length_take]; omega
    cases hb : isB c with
    | true =>
     rw [hb] at hh
     refine .inr ⟨.ret [.int .i64 (i : Int)] w4, by simp [f57.l0, ll, hlt, ix, hh], .inr ⟨i, rfl, ?_⟩, by simp⟩
     rw [hsplit, List.findIdx?_append, hn, List.findIdx?_cons, hb]
     simp [htl]
    | false =>
     rw [hb] at hh
     refine .inl ⟨d, _, w4, by omega, ?_, ⟨i + 1, rfl, by omega, rfl, ?_⟩⟩
     ·simp [f57.l0, ll, hlt, ix, hh, e1]
     ·rw [List.take_add_one, Yg hil, ← hc, List.findIdx?_append, hn]
      simp [List.findIdx?_cons, hb]) l.length [st l, .pointer (some ⟨w1.heap.size, 0, none⟩), .int .i64 0] w3 ⟨0, rfl, by omega, rfl, by simp⟩
 obtain ⟨r, h1, h2⟩ := key
 refine ⟨w3, f57.run rfl ?_, x3.right⟩
 have l2' := l2 3
 simp only [Yc, List.length_nil] at l2'
 rcases h2 with ⟨rfl, h2⟩ | ⟨i, rfl, h2⟩
 ·have : anyIx l = -1 := by rw [anyIx, h2]
  rw [this]
  simp [f57, ne, l2', ll, h95, h96, al, h3, h1]
 ·have : anyIx l = i := by rw [anyIx, h2]
  rw [this]
  simp [f57, ne, l2', ll, h95, h96, al, h3, h1]
theorem enc_all {r : Nat} (h : 128 ≤ r) (hr : r < 1114112) : ∀ b ∈ encL r, 128 ≤ b.toNat := by
 intro b hb
 unfold encL at hb
 rw [if_neg (by omega)] at hb
 split at hb
 ·simp only [List.mem_cons, List.not_mem_nil, or_false] at hb
  rcases hb with rfl | rfl <;> simp only [UInt8.toNat_ofNat'] <;> omega
 ·split at hb
  ·simp only [List.mem_cons, List.not_mem_nil, or_false] at hb
   rcases hb with rfl | rfl | rfl <;> simp only [UInt8.toNat_ofNat'] <;> omega
  ·simp only [List.mem_cons, List.not_mem_nil, or_false] at hb
   rcases hb with rfl | rfl | rfl | rfl <;> simp only [UInt8.toNat_ofNat'] <;> omega
theorem isB_hi {b : UInt8} (h : 128 ≤ b.toNat) : isB b = false := by
 have h1 : b ≠ 32 := fun e => by subst e; simp at h
 have h2 : b ≠ 9 := fun e => by subst e; simp at h
 simp [isB, h1, h2]
theorem any_short {W : World} {X : Asn W.heap.size} {w : World} (x : Sat W X w) (l : List UInt8) (h8 : l.length ≤ 8) (hv : vs 0 l = true) : ∃ w', C 57 #[st l, st [32, 9]] w = some (.int .i64 (anyIx l), w') ∧ Sat W X w' := by
 have ne := fun a b => str_eql (P := Zp) (t := 9) a b [32, 9] []
 have l2 := fun ty => str_len (P := Zp) Uz ty [32, 9]
 have ll := fun ty => str_len (P := Zp) Uz ty l
 have h95 : C 95 #[.int .i64 l.length] w = some (.bool false, w) := by
  refine f95.run rfl ?_
  have : ¬ (8 : Int) < l.length := by omega
  simp [f95, this]
 have rg := str_range (P := Zp) Uz ⟨l.toArray⟩ w
 have x1 := x.newIter ⟨l.toArray⟩
 have hsz : (⟨l.toArray⟩ : ByteArray).size = l.length := st_size l
 have key := iter_down (f := f57.l1 C) (fun d ws w1 => ∃ pos : Nat, ws = [st [32, 9], .pointer (some ⟨w.heap.size, 0, none⟩)] ∧ pos ≤ l.length ∧ d = l.length - pos ∧ Sat W (iterA w.heap.size ⟨l.toArray⟩ pos * X) w1 ∧ (l.take pos).findIdx? isB = none ∧ vs 0 (l.drop pos) = true)
  (fun q => ∃ w', Sat W X w' ∧ ((q = .exit 2 [] w' ∧ l.findIdx? isB = none) ∨ ∃ i : Nat, q = .ret [.int .i64 i] w' ∧ l.findIdx? isB = some i)) (by
   rintro d ws w1 ⟨pos, rfl, hp, hd, y, hn, hvv⟩
   by_cases hlt : pos < l.length
   ·obtain ⟨c, r, hct⟩ : ∃ c r, l.drop pos = c :: r := by
     cases h : l.drop pos with
     | nil => have := congrArg List.length h; simp at this; omega
     | cons c r => exact ⟨c, r, rfl⟩
    have hlen : r.length + 1 = l.length - pos := by have := congrArg List.length hct; simp at this; omega
    rw [hct] at hvv
    obtain ⟨R, e1, e2, e3, e4, e5, e6, e7, e8, e9⟩ := sign_at hvv
    have hdec : Utf8.decode ⟨l.toArray⟩ pos = (R, wid c) := by rw [← decodeL_drop]; show decodeL (l.drop pos) = _; rw [hct, e1]
    obtain ⟨w2, k2, y2⟩ := y.iterNext 0 (P := Zp) (by rw [hsz]; exact hlt)
    rw [hdec] at k2 y2
    obtain ⟨w3, k3, y3⟩ := rix_ok y2 e3 e4
    have hdd : l.drop (pos + wid c) = (c :: r).drop (wid c) := by rw [← Yd, hct]
    have hsplit : l = l.take pos ++ c :: r := by rw [← hct, List.take_append_drop]
    have htl : (l.take pos).length = pos := by rw [List.length_take]; omega
    have htk : l.take (pos + wid c) = l.take pos ++ (c :: r).take (wid c) := by rw [List.take_add, hct]
    by_cases hb : isB c = true
    ·have hc : c = 32 ∨ c = 9 := by simpa [isB] using hb
     have hR : R = c.toNat := e5 (by rcases hc with h | h <;> rw [h] <;> decide)
     have hx : ∃ z : Int, rix R = z ∧ 0 ≤ z := by
      rcases hc with h | h
      ·exact ⟨0, by rw [hR, h]; rfl, by omega⟩
      ·exact ⟨1, by rw [hR, h]; rfl, by omega⟩
     obtain ⟨z, hz, hz0⟩ := hx
     rw [hz] at k3
     refine .inr ⟨.ret [.int .i64 (pos : Int)] w3, by simp [f57.l1, k2, k3, hz0], ⟨w3, y3.right, .inr ⟨pos, rfl, ?_⟩⟩, by simp⟩
     rw [hsplit, List.findIdx?_append, hn, List.findIdx?_cons, hb]
     simp [htl]
    ·have hb' : isB c = false := by simpa using hb
     have hR : rix R = -1 := by
      rw [rix, if_neg, if_neg]
      ·intro h
       by_cases hc : c.toNat < 128
       ·have := e5 hc
        have h9 : c = 9 := (c_eq (n := 9) (by omega)).mp (by omega)
        rw [h9] at hb'
        simp [isB] at hb'
       ·have := e6 (by omega)
        omega
      ·intro h
       by_cases hc : c.toNat < 128
       ·have := e5 hc
        have h9 : c = 32 := (c_eq (n := 32) (by omega)).mp (by omega)
        rw [h9] at hb'
        simp [isB] at hb'
       ·have := e6 (by omega)
        omega
     rw [hR] at k3
     have hall : ((c :: r).take (wid c)).findIdx? isB = none := by
      rw [List.findIdx?_eq_none_iff]
      intro b hb2
      by_cases hc : c.toNat < 128
      ·have hw : wid c = 1 := by simp [wid, hc]
       rw [hw] at hb2
       simp at hb2
       rw [hb2]
       exact hb'
      ·rw [← e2] at hb2
       exact isB_hi (enc_all (e6 (by omega)) e3 b hb2)
     refine .inl ⟨l.length - (pos + wid c), _, w3, by omega, ?_, ⟨pos + wid c, rfl, by omega, rfl, y3, ?_, by rw [hdd]; exact e9⟩⟩
     ·simp [f57.l1, k2, k3]
     ·rw [htk, List.findIdx?_append, hn, hall]
      rfl
   ·have k1 := y.iterEnd 0 (P := Zp) (by rw [hsz]; exact hlt)
    have hpe : pos = l.length := by omega
    rw [hpe, List.take_length] at hn
    exact .inr ⟨.exit 2 [] w1, by simp [f57.l1, k1], ⟨w1, y.right, .inl ⟨rfl, hn⟩⟩, by simp⟩) (l.length - 0) _ _ ⟨0, rfl, by omega, rfl, x1, by simp, by simpa using hv⟩
 obtain ⟨q, k1, w', y, h2⟩ := key
 have l2' := l2 3
 simp only [Yc, List.length_nil] at l2'
 refine ⟨w', f57.run rfl ?_, y⟩
 rcases h2 with ⟨rfl, h2⟩ | ⟨i, rfl, h2⟩
 ·have : anyIx l = -1 := by rw [anyIx, h2]
  rw [this]
  simp [f57, ne, l2', ll, h95, rg, k1]
 ·have : anyIx l = i := by rw [anyIx, h2]
  rw [this]
  simp [f57, ne, l2', ll, h95, rg, k1]
theorem any_ok {W : World} {X : Asn W.heap.size} {w : World} (x : Sat W X w) (hG : GlobOk gl2 w) (l : List UInt8) (hl : l.length ≤ 30000) (hv : vs 0 l = true) : ∃ w', C 57 #[st l, st [32, 9]] w = some (.int .i64 (anyIx l), w') ∧ Sat W X w' := by
 by_cases h : 8 < l.length
 ·exact any_long x hG l hl h
 ·exact any_short x l (by omega) hv
structure Wd where
 a : Nat
 s : List UInt8
 t : Bool
 b : Bool
def Wd.cs (x : Wd) : List Value := wc (x.a : Int) x.s x.t x.b
def txt (l : List UInt8) : List UInt8 × Bool × Nat := match qt 0 l false false [] 0 with
 | some (o, b, p) => (o, b, p + 2)
 | none => ([], true, l.length + 1)
def plainN (l : List UInt8) : Nat := match l.findIdx? isB with
 | some i => i
 | none => l.length
def wds : Nat → Nat → List UInt8 → List Wd → List Wd × Nat
 | 0, p, _, acc => (acc, p)
 | _ + 1, p, [], acc => (acc, p)
 | n + 1, p, c :: r, acc =>
  if isB c = true then wds n (p + 1) r acc
  else if c = 35 then (acc, p)
  else if c = 34 then wds n (p + (txt r).2.2) ((c :: r).drop (txt r).2.2) (acc ++ [⟨p, (txt r).1, true, (txt r).2.1⟩])
  else wds n (p + plainN (c :: r)) ((c :: r).drop (plainN (c :: r))) (acc ++ [⟨p, (c :: r).take (plainN (c :: r)), false, false⟩])
theorem qt_at : ∀ (n : Nat) (l : List UInt8) (tu b : Bool) (o : List UInt8) (p : Nat) (o' : List UInt8) (b' : Bool) (p' : Nat), l.length ≤ n → vs 0 l = true → qt 0 l tu b o p = some (o', b', p') → p ≤ p' ∧ p' - p < l.length ∧ vs 0 (l.drop (p' - p + 1)) = true
 | _, [], tu, b, o, p, o', b', p', _, _, h => by simp [qt] at h
 | 0, c :: r, tu, b, o, p, o', b', p', hn, _, _ => by simp at hn
 | n + 1, c :: r, tu, b, o, p, o', b', p', hn, hv, h => by
  obtain ⟨R, e1, e2, e3, e4, e5, e6, e7, e8, e9⟩ := sign_at hv
  have hw1 : wid c = (wid c - 1) + 1 := by omega
  have step : ∀ tu b o, qt (wid c - 1) r tu b o (p + 1) = some (o', b', p') → p ≤ p' ∧ p' - p < (c :: r).length ∧ vs 0 ((c :: r).drop (p' - p + 1)) = true := by
   intro tu b o h
   rw [qt_drop] at h
   have hd : (c :: r).drop (wid c) = r.drop (wid c - 1) := by rw [hw1, List.drop_succ_cons, Nat.add_sub_cancel]
   rw [hd] at e9
   obtain ⟨k1, k2, k3⟩ := qt_at n (r.drop (wid c - 1)) tu b o _ o' b' p' (by simp at hn ⊢; omega) e9 h
   rw [Ye] at k2
   refine ⟨by omega, by simp only [Yc]; omega, ?_⟩
   rw [Yd] at k3
   rw [List.drop_succ_cons]
   rw [show wid c - 1 + (p' - (p + 1 + (wid c - 1)) + 1) = p' - p by omega] at k3
   exact k3
  have asc : ∀ k : UInt8, k.toNat < 128 → c = k → wid c = 1 := fun k hk e => by simp [wid, e, hk]
  cases tu with
  | true =>
   rw [qt] at h
   split at h
   ·rename_i hc
    have hw : wid c = 1 := by rcases hc with e | e; exact asc 34 (by decide) e; exact asc 92 (by decide) e
    exact step _ _ _ (by rw [hw]; exact h)
   ·split at h
    ·rename_i hc
     have hw : wid c = 1 := asc 110 (by decide) hc
     exact step _ _ _ (by rw [hw]; exact h)
    ·exact step _ _ _ h
  | false =>
   rw [qt] at h
   split at h
   ·rename_i hc
    have hw : wid c = 1 := asc 92 (by decide) hc
    exact step _ _ _ (by rw [hw]; exact h)
   ·split at h
    ·rename_i hc
     have hw : wid c = 1 := asc 34 (by decide) hc
     cases h
     rw [hw] at e9
     refine ⟨Nat.le_refl _, by simp, ?_⟩
     rw [Nat.sub_self]
     exact e9
    ·exact step _ _ _ h
theorem vs_low : ∀ (n : Nat) (l : List UInt8) (i : Nat) (b : UInt8), l.length ≤ n → vs 0 l = true → l[i]? = some b → b.toNat < 128 → vs 0 (l.drop i) = true
 | _, [], i, b, _, _, h, _ => by simp at h
 | 0, c :: r, i, b, hn, _, _, _ => by simp at hn
 | n + 1, c :: r, i, b, hn, hv, h, hb => by
  obtain ⟨R, e1, e2, e3, e4, e5, e6, e7, e8, e9⟩ := sign_at hv
  by_cases hi : i = 0
  ·subst hi
   simpa using hv
  by_cases hlt : i < wid c
  ·exfalso
   by_cases hc : c.toNat < 128
   ·have : wid c = 1 := by simp [wid, hc]
    omega
   ·have hm : b ∈ (c :: r).take (wid c) := by
     rw [List.mem_iff_getElem?]
     exact ⟨i, by rw [List.getElem?_take, if_pos hlt]; exact h⟩
    rw [← e2] at hm
    have := enc_all (e6 (by omega)) e3 b hm
    omega
  ·have := vs_low n ((c :: r).drop (wid c)) (i - wid c) b (by rw [Ye]; simp at hn ⊢; omega) e9 (by rw [List.getElem?_drop, show wid c + (i - wid c) = i by omega]; exact h) hb
   rw [Yd, show wid c + (i - wid c) = i by omega] at this
   exact this
theorem isB_low {b : UInt8} (h : isB b = true) : b.toNat < 128 := by
 have : b = 32 ∨ b = 9 := by simpa [isB] using h
 rcases this with rfl | rfl <;> decide
theorem vs_plain {l : List UInt8} (hv : vs 0 l = true) : vs 0 (l.drop (plainN l)) = true := by
 unfold plainN
 cases h : l.findIdx? isB with
 | none => simp [vs]
 | some i =>
  obtain ⟨hi, hb, _⟩ := List.findIdx?_eq_some_iff_getElem.mp h
  exact vs_low l.length l i l[i] (Nat.le_refl _) hv (Yg hi) (isB_low hb)
theorem plain_pos {c : UInt8} {r : List UInt8} (h : isB c = false) : 1 ≤ plainN (c :: r) ∧ plainN (c :: r) ≤ (c :: r).length := by
 unfold plainN
 cases hf : (c :: r).findIdx? isB with
 | none => simp
 | some i =>
  obtain ⟨hi, hb, _⟩ := List.findIdx?_eq_some_iff_getElem.mp hf
  refine ⟨?_, by simp only; omega⟩
  cases i with
  | zero => simp at hb; rw [hb] at h; cases h
  | succ i => simp
theorem txt_ok {r : List UInt8} (hv : vs 0 r = true) : 1 ≤ (txt r).2.2 ∧ (txt r).2.2 ≤ r.length + 1 ∧ vs 0 ((34 :: r).drop (txt r).2.2) = true := by
 unfold txt
 cases h : qt 0 r false false [] 0 with
 | none => simp [vs]
 | some y =>
  obtain ⟨o, b, p⟩ := y
  obtain ⟨k1, k2, k3⟩ := qt_at r.length r false false [] 0 o b p (Nat.le_refl _) hv h
  simp only
  refine ⟨by omega, by omega, ?_⟩
  rw [show p + 2 = (p + 1) + 1 by omega, List.drop_succ_cons]
  simpa using k3
theorem vs_all : ∀ (l : List UInt8), (∀ b ∈ l, b.toNat < 128) → ∀ m, vs 0 (l ++ m) = vs 0 m
 | [], _, m => rfl
 | c :: r, h, m => by rw [List.cons_append, vs_byte _ (h c (by simp)), vs_all r (fun b hb => h b (by simp [hb])) m]
theorem so_app {n lo hi : Nat} {r : List UInt8} (m : List UInt8) (h : so n lo hi r = true) : so n lo hi (r ++ m) = true := by
 rcases so_len h with ⟨rfl, _⟩ | ⟨rfl, _⟩ | ⟨rfl, _⟩
 ·match r, h with
  | a :: t, h => exact h
 ·match r, h with
  | a :: b :: t, h => exact h
 ·match r, h with
  | a :: b :: c :: t, h => exact h
theorem vs_append : ∀ (n : Nat) (l m : List UInt8), l.length ≤ n → vs 0 l = true → vs 0 (l ++ m) = vs 0 m
 | _, [], m, _, _ => rfl
 | 0, c :: r, m, hn, _ => by simp at hn
 | n + 1, c :: r, m, hn, hv => by
  have hr : r.length ≤ n := by simp at hn; exact hn
  by_cases hc : c.toNat < 128
  ·rw [vs_byte r hc] at hv
   rw [List.cons_append, vs_byte _ hc, vs_append n r m hr hv]
  ·have hc' : 128 ≤ c.toNat := by omega
   rw [vs_lead r hc'] at hv
   simp only [Bool.and_eq_true] at hv
   have h1 : signOk (lead c) (r ++ m) = true := so_app m hv.1
   have hl := so_len hv.1
   rw [List.cons_append, vs_lead _ hc', h1, Bool.true_and, List.drop_append_of_le_length (by omega), vs_append n _ m (by rw [Ye]; omega) hv.2]
theorem vs_app {l m : List UInt8} (h1 : vs 0 l = true) (h2 : vs 0 m = true) : vs 0 (l ++ m) = true := by rw [vs_append l.length l m (Nat.le_refl _) h1, h2]
theorem vs_asc0 {l : List UInt8} (h : ∀ b ∈ l, b.toNat < 128) : vs 0 l = true := by have := vs_all l h []; rw [List.append_nil] at this; rw [this]; rfl
def esc1 (c : UInt8) : List UInt8 := if c = 34 ∨ c = 92 then [92, c] else if c = 10 then [92, 110] else [c]
def esc (l : List UInt8) : List UInt8 := l.flatMap esc1
def quo (l : List UInt8) : List UInt8 := 34 :: (esc l ++ [34])
structure Tk where
 s : List UInt8
 t : Bool
def Wd.tk (x : Wd) : Tk := ⟨x.s, x.t⟩
def Tk.out (k : Tk) : List UInt8 := bif k.t then quo k.s else k.s
theorem bs62 (a : Int) (s : List UInt8) (t d : Bool) (w : World) : Eq_ Zp (Instr.buildSlice 62 1 #[(0, wv a s t d)]) w = some (.slice (some ⟨w.heap.size, 0, none⟩) 1 1, w.alloc (.cells (wc a s t d).toArray 114)) := id (by kernel_rfl)
theorem build114p (a : Int) (s : List UInt8) : Pq Zp (Zb 114 #[(0, .int .i64 a), (1, st s)]) = some (wv a s false false) := id (by kernel_rfl)
def wcs (l : List Wd) : List Value := l.flatMap Wd.cs
theorem wcs_add (l : List Wd) (x : Wd) : wcs (l ++ [x]) = wcs l ++ wc (x.a : Int) x.s x.t x.b := by simp [wcs, Wd.cs]
theorem w_round {W w : World} {X : Asn W.heap.size} (hG : GlobOk gl2 W) {s : List UInt8} {p to : Nat} {v : Value} {acc : List Wd} (x : Sat W (rowA 114 4 v acc.length (wcs acc) * X) w) (hs : s.length ≤ 30000) (hto : to ≤ s.length) (hp : p < to) (hacc : acc.length ≤ p) {c : UInt8} {r : List UInt8} (hd : (s.drop p).take (to - p) = c :: r) (hv : vs 0 (c :: r) = true) (n : Nat) :
  (∃ (v' : Value) (acc' : List Wd) (p' : Nat) (w' : World), f26.l0 C [st s, .int .i64 (p : Int), .int .i64 (to : Int), v] w = some (.norm [st s, .int .i64 (p' : Int), .int .i64 (to : Int), v'] w') ∧ Sat W (rowA 114 4 v' acc'.length (wcs acc') * X) w' ∧ p < p' ∧ p' ≤ to ∧ acc'.length ≤ p' ∧ vs 0 ((s.drop p').take (to - p')) = true ∧ wds (n + 1) p (c :: r) acc = wds n p' ((s.drop p').take (to - p')) acc') ∨
  (f26.l0 C [st s, .int .i64 (p : Int), .int .i64 (to : Int), v] w = some (.ret [v, .int .i64 (p : Int)] w) ∧ wds (n + 1) p (c :: r) acc = (acc, p)) := by
 have hlt : (p : Int) < (to : Int) := by omega
 have hlen : r.length + 1 = to - p := by have := congrArg List.length hd; simp at this; omega
 have hc0 : s[p]? = some c := by
  have h1 := congrArg (fun l => l[0]?) hd
  simp only [List.getElem?_cons_zero, List.getElem?_take, List.getElem?_drop, Nat.add_zero] at h1
  rw [if_pos (by omega)] at h1
  exact h1
 have hps : p < s.length := by omega
 have ix := str_index (P := Zp) Uz s .i64 p hps
 have hcc : s[p] = c := by rw [Yg hps] at hc0; exact Option.some.inj hc0
 rw [hcc] at ix
 have sl := str_part (P := Zp) Uz s .i64 .i64 p to (by omega) hto
 rw [hd] at sl
 have hseg : ∀ k, k ≤ to - p → (s.drop (p + k)).take (to - (p + k)) = (c :: r).drop k := fun k hk => by
  rw [← hd, List.drop_take, Yd]
  congr 1
  omega
 have hG' : GlobOk gl2 w := globOk_grown hG (grown_of x)
 by_cases hb : isB c = true
 ·have hc : c = 32 ∨ c = 9 := by simpa [isB] using hb
  have hsg := hseg 1 (by omega)
  rw [List.drop_succ_cons, List.drop_zero] at hsg
  have e1 : IntKind.i64.wrap ((p : Int) + 1) = ((p + 1 : Nat) : Int) := (wrap_i64 (by omega) (by omega)).trans (by omega)
  refine .inl ⟨v, acc, p + 1, w, ?_, x, by omega, by omega, by omega, ?_, ?_⟩
  ·rcases hc with h | h
   ·have ix' : Pq Zp (Zi 9 (st s) (.int .i64 p)) = some (.int .u8 32) := by rw [ix, h]; rfl
    simp [f26.l0, hlt, ix', e1]
   ·have ix' : Pq Zp (Zi 9 (st s) (.int .i64 p)) = some (.int .u8 9) := by rw [ix, h]; rfl
    simp [f26.l0, hlt, ix', e1]
  ·rw [hsg]
   rw [vs_byte r (isB_low hb)] at hv
   exact hv
  ·rw [wds, if_pos hb, hsg]
 ·have hb' : isB c = false := by simpa using hb
  have n32 : ¬ (c.toNat : Int) = 32 := fun h => hb (by have := (c_eq (c := c) (n := 32) (by omega)).mp (by omega); rw [this]; rfl)
  have n9 : ¬ (c.toNat : Int) = 9 := fun h => hb (by have := (c_eq (c := c) (n := 9) (by omega)).mp (by omega); rw [this]; rfl)
  by_cases h35 : c = 35
  ·refine .inr ⟨?_, by rw [wds, if_neg hb, if_pos h35]⟩
   have ix' : Pq Zp (Zi 9 (st s) (.int .i64 p)) = some (.int .u8 35) := by rw [ix, h35]; rfl
   simp [f26.l0, hlt, ix']
  have n35 : ¬ (c.toNat : Int) = 35 := fun h => h35 ((c_eq (c := c) (n := 35) (by omega)).mp (by omega))
  by_cases h34 : c = 34
  ·subst h34
   have hv2 : vs 0 r = true := by rw [vs_byte r (by decide)] at hv; exact hv
   obtain ⟨o, bd, k, w1, h1, x1, hq⟩ := quote_ok x r (by omega) hv2
   have ht : txt r = (o, bd, k) := by
    unfold txt
    split at hq
    ·rename_i a b q hq1
     obtain ⟨rfl, rfl, rfl⟩ := hq
     first | rw [hq1] | rfl
    ·rename_i hq1
     obtain ⟨rfl, rfl, rfl⟩ := hq
     first | rw [hq1] | rfl
   obtain ⟨t1, t2, t3⟩ := txt_ok hv2
   rw [ht] at t1 t2 t3
   simp only at t1 t2 t3
   have x2 := x1.newBlk 114 (wc 0 [] false false)
   have a2 := alloc114 w1
   obtain ⟨w2, hw2⟩ : ∃ w2, w2 = w1.alloc (.cells (wc 0 [] false false).toArray 114) := ⟨_, rfl⟩
   rw [← hw2] at x2 a2
   obtain ⟨w3, h3, x3⟩ := put_word x2 rfl 0 o true bd
   have h4 := x3.blk.store (P := Zp) (t := 3) (j := 0) (v := .int .i64 (p : Int)) inf3 size3 (by simp [wc]) rfl rfl
   have x4 := x3.store 0 (.int .i64 (p : Int)) (cs' := wc (p : Int) o true bd) rfl
   have l4 := ld_word x4
   obtain ⟨w4, hw4⟩ : ∃ w4, w4 = w3.setCell ⟨w1.heap.size, 0, none⟩ (.int .i64 (p : Int)) := ⟨_, rfl⟩
   rw [← hw4] at h4 x4 l4
   have b5 := bs62 (p : Int) o true bd w4
   have x4' : Sat W (rowA 114 4 v acc.length (wcs acc) * X) w4 := x4.right
   obtain ⟨v', w5, h5, x5⟩ := x4'.push (ty := 62) (P := Zp) Tryz.underlying62 inf114 zero114 size114 bytes114 rfl (by decide) (news := wc (p : Int) o true bd) rfl (wc_one _ _ _ _) (by simp [maxLen]; omega) (by omega)
   have hsg := hseg k (by omega)
   have e1 : IntKind.i64.wrap ((p : Int) + (k : Int)) = ((p + k : Nat) : Int) := (wrap_i64 (by omega) (by omega)).trans (by omega)
   refine .inl ⟨v', acc ++ [⟨p, o, true, bd⟩], p + k, w5, ?_, ?_, by omega, by omega, by simp; omega, ?_, ?_⟩
   ·have ix' : Pq Zp (Zi 9 (st s) (.int .i64 p)) = some (.int .u8 34) := by rw [ix]; rfl
    obtain ⟨E, hE⟩ : ∃ E : Int, E = ((p + k : Nat) : Int) := ⟨_, rfl⟩
    rw [← hE] at e1 ⊢
    simp [f26.l0, hlt, ix', sl, h1, a2, h3, addL, h4, l4, b5, h5, e1]
   ·rw [Ya, wcs_add]; exact x5
   ·rw [hsg]; exact t3
   ·rw [wds, if_neg hb, if_neg (by decide), if_pos rfl, ht, hsg]
  ·have n34 : ¬ (c.toNat : Int) = 34 := fun h => h34 ((c_eq (c := c) (n := 34) (by omega)).mp (by omega))
   obtain ⟨w1, h1, x1⟩ := any_ok x hG' (c :: r) (by simp; omega) hv
   obtain ⟨k1, k2⟩ := plain_pos (r := r) hb'
   have hvp := vs_plain hv
   obtain ⟨k, hk⟩ : ∃ k, k = plainN (c :: r) := ⟨_, rfl⟩
   rw [← hk] at k1 k2 hvp
   simp only [Yc] at k2
   have hsg := hseg k (by omega)
   have e1 : IntKind.i64.wrap ((p : Int) + (k : Int)) = ((p + k : Nat) : Int) := (wrap_i64 (by omega) (by omega)).trans (by omega)
   have e2 : IntKind.i64.wrap ((to : Int) - (p : Int)) = ((to - p : Nat) : Int) := (wrap_i64 (by omega) (by omega)).trans (by omega)
   have sl2 := str_part (P := Zp) Uz s .i64 .i64 p (p + k) (by omega) (by omega)
   have htk : (s.drop p).take (p + k - p) = (c :: r).take k := by
    rw [← hd, List.take_take]
    congr 1
    omega
   rw [htk] at sl2
   have bp := build114p (p : Int) ((c :: r).take k)
   have b5 := bs62 (p : Int) ((c :: r).take k) false false w1
   obtain ⟨v', w5, h5, x5⟩ := x1.push (ty := 62) (P := Zp) Tryz.underlying62 inf114 zero114 size114 bytes114 rfl (by decide) (news := wc (p : Int) ((c :: r).take k) false false) rfl (wc_one _ _ _ _) (by simp [maxLen]; omega) (by omega)
   refine .inl ⟨v', acc ++ [⟨p, (c :: r).take k, false, false⟩], p + k, w5, ?_, ?_, by omega, by omega, by simp; omega, ?_, ?_⟩
   ·obtain ⟨E, hE⟩ : ∃ E : Int, E = ((p + k : Nat) : Int) := ⟨_, rfl⟩
    rw [← hE] at e1 sl2 ⊢
    have hany : (anyIx (c :: r) = -1 ∧ k = r.length + 1) ∨ anyIx (c :: r) = (k : Int) := by
     rw [hk, anyIx, plainN]
     cases (c :: r).findIdx? isB <;> simp
    have h1' : C 57 #[st (c :: r), .string ⟨#[32, 9]⟩] w = some (.int .i64 (anyIx (c :: r)), w1) := h1
    rcases hany with ⟨ha, hk2⟩ | ha
    ·rw [ha] at h1'
     have e3 : ((to - p : Nat) : Int) = (k : Int) := by omega
     rw [e3] at e2
     simp [f26.l0, hlt, ix, n32, n9, n35, n34, sl, h1', e2, e1, sl2, bp, b5, h5]
    ·rw [ha] at h1'
     have e3 : ¬ (k : Int) < 0 := by omega
     simp [f26.l0, hlt, ix, n32, n9, n35, n34, sl, h1', e3, e1, sl2, bp, b5, h5]
   ·rw [Ya, wcs_add]; exact x5
   ·rw [hsg]; exact hvp
   ·rw [wds, if_neg hb, if_neg h35, if_neg h34, ← hk, hsg]
def words (p : Nat) (l : List UInt8) : List Wd × Nat := wds (l.length + 1) p l []
theorem words_ok {W w : World} {X : Asn W.heap.size} (hG : GlobOk gl2 W) (x : Sat W X w) {s : List UInt8} {p to : Nat} (hs : s.length ≤ 30000) (hto : to ≤ s.length) (hp : p ≤ to) (hv : vs 0 ((s.drop p).take (to - p)) = true) :
  ∃ v w', C 26 #[st s, .int .i64 (p : Int), .int .i64 (to : Int)] w = some (.tuple #[v, .int .i64 ((words p ((s.drop p).take (to - p))).2 : Int)], w') ∧ Sat W (rowA 114 4 v (words p ((s.drop p).take (to - p))).1.length (wcs (words p ((s.drop p).take (to - p))).1) * X) w' := by
 obtain ⟨res, hres⟩ : ∃ res, res = words p ((s.drop p).take (to - p)) := ⟨_, rfl⟩
 have hlen : ∀ q, q ≤ to → ((s.drop q).take (to - q)).length = to - q := fun q hq => by rw [List.length_take, Ye]; omega
 have key := iter_down (f := f26.l0 C) (fun d ws w1 => ∃ (q : Nat) (v : Value) (acc : List Wd) (n : Nat), ws = [st s, .int .i64 (q : Int), .int .i64 (to : Int), v] ∧ q ≤ to ∧ d = to - q ∧ to - q < n ∧ acc.length ≤ q ∧ Sat W (rowA 114 4 v acc.length (wcs acc) * X) w1 ∧ vs 0 ((s.drop q).take (to - q)) = true ∧ wds n q ((s.drop q).take (to - q)) acc = res)
  (fun r => ∃ (v : Value) (w' : World), Sat W (rowA 114 4 v res.1.length (wcs res.1) * X) w' ∧ ((r = .exit 0 [.int .i64 (to : Int), v] w' ∧ res.2 = to) ∨ r = .ret [v, .int .i64 (res.2 : Int)] w')) (by
   rintro d ws w1 ⟨q, v, acc, n, rfl, hq, hd, hn, hacc, y, hvv, he⟩
   by_cases hlt : q < to
   ·obtain ⟨c, r, hct⟩ : ∃ c r, (s.drop q).take (to - q) = c :: r := by
     cases h : (s.drop q).take (to - q) with
     | nil => have := hlen q hq; rw [h] at this; simp at this; omega
     | cons c r => exact ⟨c, r, rfl⟩
    obtain ⟨m, rfl⟩ : ∃ m, n = m + 1 := ⟨n - 1, by omega⟩
    rw [hct] at hvv he
    rcases w_round hG y hs hto hlt hacc hct hvv m with ⟨v', acc', p', w', k1, k2, k3, k4, k5, k6, k7⟩ | ⟨k1, k2⟩
    ·exact .inl ⟨to - p', _, w', by omega, k1, ⟨p', v', acc', m, rfl, k4, rfl, by omega, k5, k2, k6, by rw [← k7]; exact he⟩⟩
    ·rw [k2] at he
     subst he
     exact .inr ⟨_, k1, ⟨v, w1, y, .inr rfl⟩, by simp⟩
   ·have hqe : q = to := by omega
    subst hqe
    have hnil : (s.drop q).take (q - q) = [] := by simp
    rw [hnil] at he
    have he' : res = (acc, q) := by
     rw [← he]
     cases n <;> rfl
    rw [he']
    exact .inr ⟨.exit 0 [.int .i64 (q : Int), v] w1, by simp [f26.l0], ⟨v, w1, y, .inl ⟨rfl, rfl⟩⟩, by simp⟩) (to - p) [st s, .int .i64 (p : Int), .int .i64 (to : Int), .slice none 0 0] w ⟨p, .slice none 0 0, [], to - p + 1, rfl, hp, rfl, by omega, by simp, x.nilRow 114 4, hv, by rw [hres, words, hlen p hp]⟩
 obtain ⟨r, h1, v, w', y, h2⟩ := key
 rw [← hres]
 refine ⟨v, w', f26.run rfl ?_, y⟩
 rcases h2 with ⟨rfl, h2⟩ | rfl
 ·rw [h2]
  simp [f26, h1]
 ·simp [f26, h1]
def rdP {base : Nat} (B : Option Addr) (xs : List Value) : Asn base := ⟨fun S w => Rd w B xs ∧ (∀ a, B = some a → base ≤ a.block ∧ a.block < w.heap.size) ∧ S = fun k => ∃ a, B = some a ∧ k = a.block,
 fun ⟨h, h2, h3⟩ hg hs => ⟨by
  cases B with
  | none => exact h
  | some a => exact h.of_same fun b hb => by cases hb; exact hg.block _ (h2 a rfl).2 (hs _ (by rw [h3]; exact ⟨a, rfl, rfl⟩)), fun a ha => ⟨(h2 a ha).1, Nat.lt_of_lt_of_le (h2 a ha).2 hg.size⟩, h3⟩,
 fun ⟨h, h2, h3⟩ k hk => by rw [h3] at hk; obtain ⟨a, ha, rfl⟩ := hk; exact h2 a ha⟩
theorem Sat.reads {W w : World} {X : Asn W.heap.size} {e : TypeId} {sz n c : Nat} {A : Option Addr} {xs : List Value} (x : Sat W (rowA e sz (.slice A n c) n xs * X) w) : Sat W (rdP A xs * X) w :=
 x.sub fun S w ⟨P, Q, d, e', p, q⟩ => by
  refine ⟨S, P, Q, d, e', ⟨Rd.own p.1, fun a ha => ?_, ?_⟩, q⟩
  ·subst ha
   have h1 : (Value.slice (some a) n c).ownBlock = some a.block := rfl
   exact p.1.lt a.block h1
  ·rw [p.2]
   funext k
   cases A with
   | none => simp [Value.ownBlock]
   | some a => simp [Value.ownBlock, eq_comm]
theorem Sat.rd {W w : World} {X : Asn W.heap.size} {B : Option Addr} {xs : List Value} (x : Sat W (rdP B xs * X) w) : Rd w B xs := by
 obtain ⟨g, S, P, Q, d, e, p, q⟩ := x
 exact p.1
theorem fault_ok {W w : World} {X : Asn W.heap.size} (x : Sat W X w) (a z : Int) : ∃ b w', C 23 #[.int .i64 a, .int .i64 z] w = some (.iface 82 (.pointer (some ⟨b, 0, none⟩)), w') ∧ Sat W (blkA b 83 [.int .i64 a, .int .i64 z] * X) w' := by
 have b : Pq Zp (Zb 83 #[(0, .int .i64 a), (1, .int .i64 z)]) = some (.agg #[.int .i64 a, .int .i64 z]) := id (by kernel_rfl)
 have y := x.newBlk 83 [.int .i64 a, .int .i64 z]
 refine ⟨w.heap.size, _, f23.run rfl ?_, y⟩
 simp [f23, b, box_any, Value.cells]
section
variable {W : World} {X : Asn W.heap.size}
abbrev rdrS (rb : Nat) (B : Option Addr) (cc : Nat) (ws : List Wd) (e : Int) (X : Asn W.heap.size) : Asn W.heap.size := blkA rb 64 [.slice B ws.length cc, .int .i64 e] * (rdP B (wcs ws) * X)
def nextE (t : Bool) (ws : List Wd) (e : Int) : Option (Int × Int) := match ws with
 | [] => some (e, 193)
 | y :: _ => if y.b = true ∨ y.t ≠ t then some ((y.a : Int), 193) else if t = true ∧ 100 < y.s.length then some ((y.a : Int), 191) else none
theorem build114z : Pq Zp (Zb 114 #[]) = some (wv 0 [] false false) := id (by kernel_rfl)
theorem wcs_cons (y : Wd) (l : List Wd) : wcs (y :: l) = wc (y.a : Int) y.s y.t y.b ++ wcs l := by simp [wcs, Wd.cs]
theorem next_bad {w : World} {rb : Nat} {B : Option Addr} {cc : Nat} {ws : List Wd} {e : Int} (x : Sat W (rdrS rb B cc ws e X) w) (hc : ws.length ≤ cc) (hl : ws.length ≤ 30000) (t : Bool) {a z : Int} (hz : nextE t ws e = some (a, z)) :
  ∃ b w', C 62 #[.pointer (some ⟨rb, 0, none⟩), .bool t] w = some (.tuple #[wv 0 [] false false, .iface 82 (.pointer (some ⟨b, 0, none⟩))], w') ∧ Sat W (blkA b 83 [.int .i64 a, .int .i64 z] * X) w' := by
 have x1 := x.newBlk 114 (wc 0 [] false false)
 have a1 := alloc114 w
 obtain ⟨w1, hw1⟩ : ∃ w1, w1 = w.alloc (.cells (wc 0 [] false false).toArray 114) := ⟨_, rfl⟩
 rw [← hw1] at x1 a1
 have y1 : Sat W (blkA rb 64 [.slice B ws.length cc, .int .i64 e] * (rdP B (wcs ws) * (blkA w.heap.size 114 (wc 0 [] false false) * X))) w1 := x1.eq (by unfold rdrS; ac_rfl)
 have c0 := y1.cell 0 rfl
 have c1 := y1.cell 1 rfl
 cases ws with
 | nil =>
  simp only [nextE, Oj, Prod.mk.injEq] at hz
  obtain ⟨rfl, rfl⟩ := hz
  obtain ⟨b, w2, h2, x2⟩ := fault_ok y1 e 193
  have x3 : Sat W (blkA w.heap.size 114 (wc 0 [] false false) * (blkA b 83 [.int .i64 e, .int .i64 193] * (blkA rb 64 [.slice B ([] : List Wd).length cc, .int .i64 e] * (rdP B (wcs []) * X)))) w2 := x2.eq (by ac_rfl)
  obtain ⟨w3, h3, x4⟩ := put_word x3 rfl 0 [] false false
  have l4 := ld_word x4
  refine ⟨b, w3, f62.run rfl ?_, (x4.eq (by ac_rfl : _ = (blkA w.heap.size 114 (wc 0 [] false false) * (blkA rb 64 [.slice B ([] : List Wd).length cc, .int .i64 e] * rdP B (wcs []))) * (blkA b 83 [.int .i64 e, .int .i64 193] * X))).right⟩
  simp only [List.length_nil] at c0
  simp [f62, a1, nilV, addL, c0, c1, build114z, h2, h3, l4]
 | cons y rest =>
  have hlen0 : ¬ (((y :: rest).length : Int) = 0) := by simp; omega
  have hrd := Sat.rd (y1.right)
  cases B with
  | none =>
   have h0 : wcs (y :: rest) = [] := hrd
   rw [wcs_cons] at h0
   simp [wc] at h0
  | some ba =>
   have i0 := ix62 ba (y :: rest).length cc .i64 0 (by omega) (by simp)
   simp only [Int.toNat_zero, Nat.zero_mul] at i0
   have ldw : Rq Zp (Zl 114 (.pointer (some ba))) w1 = some (wv (y.a : Int) y.s y.t y.b) := by
    have g : ∀ j v, (wc (y.a : Int) y.s y.t y.b)[j]? = some v → w1.cell? (ba.add j) = some v := fun j v hj => by
     refine hrd j v ?_
     rw [wcs_cons, Yf (List.getElem?_eq_some_iff.mp hj).1]
     exact hj
    exact ld114 (g 0 _ rfl) (g 1 _ rfl) (g 2 _ rfl) (g 3 _ rfl)
   have y2 := y1.newBlk 114 (wc 0 [] false false)
   have a2 := alloc114 w1
   obtain ⟨w2, hw2⟩ : ∃ w2, w2 = w1.alloc (.cells (wc 0 [] false false).toArray 114) := ⟨_, rfl⟩
   rw [← hw2] at y2 a2
   obtain ⟨w3, h3, y3⟩ := put_word y2 rfl (y.a : Int) y.s y.t y.b
   have d0 := y3.cell 0 rfl
   have d1 := y3.cell 1 rfl
   have d2 := y3.cell 2 rfl
   have d3 := y3.cell 3 rfl
   by_cases hbad : y.b = true ∨ y.t ≠ t
   ·rw [nextE, if_pos hbad] at hz
    cases hz
    obtain ⟨b, w4, h4, x4⟩ := fault_ok y3 (y.a : Int) 193
    have x5 : Sat W (blkA w.heap.size 114 (wc 0 [] false false) * (blkA b 83 [.int .i64 (y.a : Int), .int .i64 193] * (blkA w1.heap.size 114 (wc (y.a : Int) y.s y.t y.b) * (blkA rb 64 [.slice (some ba) (y :: rest).length cc, .int .i64 e] * (rdP (some ba) (wcs (y :: rest)) * X))))) w4 := x4.eq (by ac_rfl)
    obtain ⟨w5, h5, x6⟩ := put_word x5 rfl 0 [] false false
    have l6 := ld_word x6
    refine ⟨b, w5, f62.run rfl ?_, (x6.eq (by ac_rfl : _ = (blkA w.heap.size 114 (wc 0 [] false false) * (blkA w1.heap.size 114 (wc (y.a : Int) y.s y.t y.b) * (blkA rb 64 [.slice (some ba) (y :: rest).length cc, .int .i64 e] * rdP (some ba) (wcs (y :: rest))))) * (blkA b 83 [.int .i64 (y.a : Int), .int .i64 193] * X))).right⟩
    obtain ⟨N, hN⟩ : ∃ N : Nat, N = (y :: rest).length := ⟨_, rfl⟩
    rw [← hN] at c0 hlen0 i0
    have hN0 : ¬ N = 0 := by omega
    cases hb : y.b with
    | true =>
     rw [hb] at d3
     simp [f62, a1, nilV, addL, c0, hlen0, hN0, i0, ldw, a2, h3, d0, d3, build114z, h4, h5, l6]
    | false =>
     have htt : (!(y.t == t)) = true := by
      rcases hbad with h | h
      ·rw [hb] at h; cases h
      ·cases ht1 : y.t <;> cases t <;> simp_all
     rw [hb] at d3
     simp [f62, a1, nilV, addL, c0, hlen0, hN0, i0, ldw, a2, h3, d0, d2, d3, htt, build114z, h4, h5, l6]
   ·rw [nextE, if_neg hbad] at hz
    split at hz
    ·rename_i hlong
     cases hz
     obtain ⟨rfl, hlong⟩ := hlong
     have hb : y.b = false := by cases h : y.b <;> simp_all
     have ht : y.t = true := by cases h : y.t <;> simp_all
     obtain ⟨N, hN⟩ : ∃ N : Nat, N = (y :: rest).length := ⟨_, rfl⟩
     have hN1 : 1 ≤ N := by rw [hN]; simp
     rw [← hN] at c0 hlen0 i0 hc y3
     have hN0 : ¬ N = 0 := by omega
     have sb := sl62 (some ba) N cc (some (.int .i64 1)) none none 1 N cc (by simpa using bounds_lo (P := Zp) N cc .i64 1 (by omega) (by omega))
     obtain ⟨B', hB'⟩ : ∃ B', B' = (if cc = 1 then some ba else (some ba).map (·.add (1 * 4))) := ⟨_, rfl⟩
     rw [← hB'] at sb
     have y4 : Sat W (blkA rb 64 [.slice (some ba) N cc, .int .i64 e] * (blkA w1.heap.size 114 (wc (y.a : Int) y.s y.t y.b) * (rdP (some ba) (wcs (y :: rest)) * (blkA w.heap.size 114 (wc 0 [] false false) * X)))) w3 := y3.eq (by ac_rfl)
     have r0 := y4.cell 0 rfl
     have h4 := y4.blk.store (P := Zp) (t := 62) (j := 0) (v := .slice B' (N - 1) (cc - 1)) inf62 size62 (by simp) rfl rfl
     have y5 := y4.store 0 (.slice B' (N - 1) (cc - 1)) (cs' := [.slice B' (N - 1) (cc - 1), .int .i64 e]) rfl
     obtain ⟨w4, hw4⟩ : ∃ w4, w4 = w3.setCell ⟨rb, 0, none⟩ (.slice B' (N - 1) (cc - 1)) := ⟨_, rfl⟩
     rw [← hw4] at h4 y5
     have y6 : Sat W (blkA w1.heap.size 114 (wc (y.a : Int) y.s y.t y.b) * (blkA rb 64 [.slice B' (N - 1) (cc - 1), .int .i64 e] * (rdP (some ba) (wcs (y :: rest)) * (blkA w.heap.size 114 (wc 0 [] false false) * X)))) w4 := y5.eq (by ac_rfl)
     have q0 := y6.cell 0 rfl
     have q1 := y6.cell 1 rfl
     have hln := fun ty => str_len (P := Zp) Uz ty y.s
     have hl100 : (100 : Int) < y.s.length := by omega
     obtain ⟨b, w5, h5, x5⟩ := fault_ok y6 (y.a : Int) 191
     have x6 : Sat W (blkA w.heap.size 114 (wc 0 [] false false) * ((blkA w1.heap.size 114 (wc (y.a : Int) y.s y.t y.b) * (blkA rb 64 [.slice B' (N - 1) (cc - 1), .int .i64 e] * rdP (some ba) (wcs (y :: rest)))) * (blkA b 83 [.int .i64 (y.a : Int), .int .i64 191] * X))) w5 := x5.eq (by ac_rfl)
     obtain ⟨w6, h6, x7⟩ := put_word x6 rfl 0 [] false false
     have l7 := ld_word x7
     rw [hb] at d3
     rw [ht] at d2
     refine ⟨b, w6, f62.run rfl ?_, x7.right.right⟩
     simp [f62, a1, nilV, addL, c0, hlen0, hN0, i0, ldw, a2, h3, d0, d2, d3, r0, sb, h4, q0, q1, hln, hl100, build114z, h5, h6, l7]
    ·cases hz
end
section
variable {W : World} {X : Asn W.heap.size}
theorem wcs_len (l : List Wd) : (wcs l).length = l.length * 4 := by
 induction l with
 | nil => rfl
 | cons y l ih => rw [wcs_cons, Ya, ih, Yc]; simp only [wc, Yc, List.length_nil]; omega
theorem rest_reads {w : World} {ba : Addr} {cc : Nat} {y : Wd} {rest : List Wd} (hc : (y :: rest).length ≤ cc) (x : Sat W (rdP (some ba) (wcs (y :: rest)) * X) w) : Sat W (rdP (if cc = 1 then some ba else (some ba).map (·.add (1 * 4))) (wcs rest) * X) w :=
 x.sub fun S w ⟨P, Q, d, e', p, q⟩ => by
  refine ⟨S, P, Q, d, e', ⟨?_, ?_, ?_⟩, q⟩
  ·have := p.1.sliced 1 (y :: rest).length cc 4 (by simp) hc
   have e1 : (wcs (y :: rest)).drop (1 * 4) = wcs rest := by rw [wcs_cons]; rfl
   rw [e1, show ((y :: rest).length - 1) * 4 = (wcs rest).length by rw [wcs_len]; simp, List.take_length] at this
   exact this
  ·intro a ha
   have := p.2.1 ba rfl
   split at ha
   ·cases ha; exact this
   ·simp at ha; subst ha; exact this
  ·rw [p.2.2]
   funext k
   split
   ·rfl
   ·simp [Addr.add]
theorem next_good {w : World} {rb : Nat} {B : Option Addr} {cc : Nat} {y : Wd} {rest : List Wd} {e : Int} (x : Sat W (rdrS rb B cc (y :: rest) e X) w) (hc : (y :: rest).length ≤ cc) (hl : (y :: rest).length ≤ 30000) (t : Bool) (hz : nextE t (y :: rest) e = none) :
  ∃ B' cc' w', C 62 #[.pointer (some ⟨rb, 0, none⟩), .bool t] w = some (.tuple #[wv (y.a : Int) y.s t false, .nilIface], w') ∧ Sat W (rdrS rb B' cc' rest e X) w' ∧ rest.length ≤ cc' ∧ y.t = t ∧ y.b = false ∧ (t = true → y.s.length ≤ 100) := by
 have x1 := x.newBlk 114 (wc 0 [] false false)
 have a1 := alloc114 w
 obtain ⟨w1, hw1⟩ : ∃ w1, w1 = w.alloc (.cells (wc 0 [] false false).toArray 114) := ⟨_, rfl⟩
 rw [← hw1] at x1 a1
 obtain ⟨N, hN⟩ : ∃ N : Nat, N = (y :: rest).length := ⟨_, rfl⟩
 have hN1 : 1 ≤ N := by rw [hN]; simp
 have y1 : Sat W (blkA rb 64 [.slice B N cc, .int .i64 e] * (rdP B (wcs (y :: rest)) * (blkA w.heap.size 114 (wc 0 [] false false) * X))) w1 := x1.eq (by rw [hN]; unfold rdrS; ac_rfl)
 have c0 := y1.cell 0 rfl
 rw [nextE] at hz
 split at hz
 ·cases hz
 rename_i hbad
 split at hz
 ·cases hz
 rename_i hlong
 have hb : y.b = false := by cases h : y.b <;> simp_all
 have ht : y.t = t := by cases h : y.t <;> cases t <;> simp_all
 have hlong' : t = true → y.s.length ≤ 100 := fun h => by
  by_cases h2 : 100 < y.s.length
  ·exact absurd ⟨h, h2⟩ hlong
  ·omega
 have hlen0 : ¬ ((N : Int) = 0) := by omega
 have hN0 : ¬ N = 0 := by omega
 have hrd := Sat.rd (y1.right)
 cases B with
 | none =>
  have h0 : wcs (y :: rest) = [] := hrd
  rw [wcs_cons] at h0
  simp [wc] at h0
 | some ba =>
  have i0 := ix62 ba N cc .i64 0 (by omega) (by omega)
  simp only [Int.toNat_zero, Nat.zero_mul] at i0
  have ldw : Rq Zp (Zl 114 (.pointer (some ba))) w1 = some (wv (y.a : Int) y.s y.t y.b) := by
   have g : ∀ j v, (wc (y.a : Int) y.s y.t y.b)[j]? = some v → w1.cell? (ba.add j) = some v := fun j v hj => by
    refine hrd j v ?_
    rw [wcs_cons, Yf (List.getElem?_eq_some_iff.mp hj).1]
    exact hj
   exact ld114 (g 0 _ rfl) (g 1 _ rfl) (g 2 _ rfl) (g 3 _ rfl)
  rw [hb, ht] at ldw
  have y2 := y1.newBlk 114 (wc 0 [] false false)
  have a2 := alloc114 w1
  obtain ⟨w2, hw2⟩ : ∃ w2, w2 = w1.alloc (.cells (wc 0 [] false false).toArray 114) := ⟨_, rfl⟩
  rw [← hw2] at y2 a2
  obtain ⟨w3, h3, y3⟩ := put_word y2 rfl (y.a : Int) y.s t false
  have d2 := y3.cell 2 rfl
  have d3 := y3.cell 3 rfl
  rw [← hN] at hc
  have sb := sl62 (some ba) N cc (some (.int .i64 1)) none none 1 N cc (by simpa using bounds_lo (P := Zp) N cc .i64 1 (by omega) (by omega))
  have y4 : Sat W (blkA rb 64 [.slice (some ba) N cc, .int .i64 e] * (blkA w1.heap.size 114 (wc (y.a : Int) y.s t false) * (rdP (some ba) (wcs (y :: rest)) * (blkA w.heap.size 114 (wc 0 [] false false) * X)))) w3 := y3.eq (by ac_rfl)
  have y4' : Sat W (rdP (some ba) (wcs (y :: rest)) * (blkA rb 64 [.slice (some ba) N cc, .int .i64 e] * (blkA w1.heap.size 114 (wc (y.a : Int) y.s t false) * (blkA w.heap.size 114 (wc 0 [] false false) * X)))) w3 := y4.eq (by ac_rfl)
  have y5 := rest_reads (by rw [← hN]; exact hc) y4'
  obtain ⟨B', hB'⟩ : ∃ B', B' = (if cc = 1 then some ba else (some ba).map (·.add (1 * 4))) := ⟨_, rfl⟩
  rw [← hB'] at sb y5
  have y6 : Sat W (blkA rb 64 [.slice (some ba) N cc, .int .i64 e] * (blkA w1.heap.size 114 (wc (y.a : Int) y.s t false) * (rdP B' (wcs rest) * (blkA w.heap.size 114 (wc 0 [] false false) * X)))) w3 := y5.eq (by ac_rfl)
  have r0 := y6.cell 0 rfl
  have h4 := y6.blk.store (P := Zp) (t := 62) (j := 0) (v := .slice B' (N - 1) (cc - 1)) inf62 size62 (by simp) rfl rfl
  have y7 := y6.store 0 (.slice B' (N - 1) (cc - 1)) (cs' := [.slice B' (N - 1) (cc - 1), .int .i64 e]) rfl
  obtain ⟨w4, hw4⟩ : ∃ w4, w4 = w3.setCell ⟨rb, 0, none⟩ (.slice B' (N - 1) (cc - 1)) := ⟨_, rfl⟩
  rw [← hw4] at h4 y7
  have y8 : Sat W (blkA w1.heap.size 114 (wc (y.a : Int) y.s t false) * (blkA w.heap.size 114 (wc 0 [] false false) * (blkA rb 64 [.slice B' (N - 1) (cc - 1), .int .i64 e] * (rdP B' (wcs rest) * X)))) w4 := y7.eq (by ac_rfl)
  have q1 := y8.cell 1 rfl
  have l8 := ld_word y8
  have hln := fun ty => str_len (P := Zp) Uz ty y.s
  have y9 : Sat W (blkA w.heap.size 114 (wc 0 [] false false) * (blkA w1.heap.size 114 (wc (y.a : Int) y.s t false) * (blkA rb 64 [.slice B' (N - 1) (cc - 1), .int .i64 e] * (rdP B' (wcs rest) * X)))) w4 := y8.eq (by ac_rfl)
  obtain ⟨w5, h5, x5⟩ := put_word y9 rfl (y.a : Int) y.s t false
  have l5 := ld_word x5
  have hrl : rest.length = N - 1 := by rw [hN]; simp
  have fin5 : Sat W (rdrS rb B' (cc - 1) rest e X) w5 := by
   unfold rdrS
   rw [hrl]
   exact x5.right.right
  refine ⟨B', cc - 1, w5, f62.run rfl ?_, fin5, by omega, ht, hb, hlong'⟩
  cases t with
  | true =>
   have hl100 : ¬ (100 : Int) < y.s.length := by have := hlong' rfl; omega
   simp [f62, a1, nilV, addL, c0, hlen0, hN0, i0, ldw, a2, h3, d2, d3, r0, sb, h4, q1, hln, hl100, l8, h5, l5]
  | false =>
   simp [f62, a1, nilV, addL, c0, hlen0, hN0, i0, ldw, a2, h3, d2, d3, r0, sb, h4, l8, h5, l5]
end
section
variable {W : World} {X : Asn W.heap.size}
theorem done_nil {w : World} {rb : Nat} {B : Option Addr} {cc : Nat} {e : Int} (x : Sat W (rdrS rb B cc [] e X) w) : C 63 #[.pointer (some ⟨rb, 0, none⟩)] w = some (.nilIface, w) := by
 have c0 := x.cell 0 rfl
 simp only [List.length_nil] at c0
 refine f63.run rfl ?_
 simp [f63, nilV, addL, c0]
theorem done_more {w : World} {rb : Nat} {B : Option Addr} {cc : Nat} {y : Wd} {rest : List Wd} {e : Int} (x : Sat W (rdrS rb B cc (y :: rest) e X) w) (hl : (y :: rest).length ≤ 30000) : ∃ b w', C 63 #[.pointer (some ⟨rb, 0, none⟩)] w = some (.iface 82 (.pointer (some ⟨b, 0, none⟩)), w') ∧ Sat W (blkA b 83 [.int .i64 (y.a : Int), .int .i64 193] * X) w' := by
 have c0 := x.cell 0 rfl
 have hrd := Sat.rd (x.right)
 obtain ⟨N, hN⟩ : ∃ N : Nat, N = (y :: rest).length := ⟨_, rfl⟩
 have hN1 : 1 ≤ N := by rw [hN]; simp
 rw [← hN] at c0
 have hpos : (0 : Int) < N := by omega
 have hpos' : 0 < N := by omega
 cases B with
 | none =>
  have h0 : wcs (y :: rest) = [] := hrd
  rw [wcs_cons] at h0
  simp [wc] at h0
 | some ba =>
  have i0 := ix62 ba N cc .i64 0 (by omega) (by omega)
  simp only [Int.toNat_zero, Nat.zero_mul] at i0
  have l0 : w.cell? (ba.add 0) = some (.int .i64 (y.a : Int)) := hrd 0 _ (by rw [wcs_cons]; rfl)
  have l0' : w.cell? ba = some (.int .i64 (y.a : Int)) := by simpa using l0
  obtain ⟨b, w1, h1, x1⟩ := fault_ok x (y.a : Int) 193
  refine ⟨b, w1, f63.run rfl ?_, (x1.eq (by unfold rdrS; ac_rfl : _ = (blkA rb 64 [.slice (some ba) (y :: rest).length cc, .int .i64 e] * rdP (some ba) (wcs (y :: rest))) * (blkA b 83 [.int .i64 (y.a : Int), .int .i64 193] * X))).right⟩
  simp [f63, nilV, addL, c0, hpos, hpos', i0, l0, l0', h1]
def Holds (W : World) (h : Value) (f : List UInt8 → Bool) : Prop := ∀ (Y : Asn W.heap.size) (w : World) (s : List UInt8), s.length ≤ 30000 → Sat W Y w → ∃ w', callV C h [st s] w = some (.bool (f s), w') ∧ Sat W Y w'
def plainE (f : List UInt8 → Bool) (ws : List Wd) (e : Int) : Option (Int × Int) := match nextE false ws e with
 | some x => some x
 | none => match ws with
  | [] => none
  | y :: _ => if f y.s = false then some ((y.a : Int), 193) else none
theorem plain_good {w : World} {rb : Nat} {B : Option Addr} {cc : Nat} {y : Wd} {rest : List Wd} {e : Int} {h : Value} {f : List UInt8 → Bool} (hh : Holds W h f) (hs : y.s.length ≤ 30000) (x : Sat W (rdrS rb B cc (y :: rest) e X) w) (hc : (y :: rest).length ≤ cc) (hl : (y :: rest).length ≤ 30000) (hz : plainE f (y :: rest) e = none) :
  ∃ B' cc' w', C 58 #[.pointer (some ⟨rb, 0, none⟩), h] w = some (.tuple #[wv (y.a : Int) y.s false false, .nilIface], w') ∧ Sat W (rdrS rb B' cc' rest e X) w' ∧ rest.length ≤ cc' ∧ f y.s = true := by
 unfold plainE at hz
 split at hz
 ·cases hz
 rename_i hn
 have hf : f y.s = true := by
  cases hf : f y.s with
  | true => rfl
  | false => simp [hf] at hz
 have x1 := x.newBlk 114 (wc 0 [] false false)
 have a1 := alloc114 w
 obtain ⟨w1, hw1⟩ : ∃ w1, w1 = w.alloc (.cells (wc 0 [] false false).toArray 114) := ⟨_, rfl⟩
 rw [← hw1] at x1 a1
 have y1 : Sat W (rdrS rb B cc (y :: rest) e (blkA w.heap.size 114 (wc 0 [] false false) * X)) w1 := x1.eq (by unfold rdrS; ac_rfl)
 obtain ⟨B', cc', w2, h2, y2, hcc, _, _, _⟩ := next_good y1 hc hl false hn
 have y3 := y2.newBlk 114 (wc 0 [] false false)
 have a3 := alloc114 w2
 obtain ⟨w3, hw3⟩ : ∃ w3, w3 = w2.alloc (.cells (wc 0 [] false false).toArray 114) := ⟨_, rfl⟩
 rw [← hw3] at y3 a3
 obtain ⟨w4, h4, y4⟩ := put_word y3 rfl (y.a : Int) y.s false false
 have q1 := y4.cell 1 rfl
 obtain ⟨w5, h5, y5⟩ := hh _ w4 y.s hs y4
 rw [hf] at h5
 have l5 := ld_word y5
 have y6 : Sat W (blkA w.heap.size 114 (wc 0 [] false false) * (blkA w2.heap.size 114 (wc (y.a : Int) y.s false false) * rdrS rb B' cc' rest e X)) w5 := y5.eq (by unfold rdrS; ac_rfl)
 obtain ⟨w6, h6, y7⟩ := put_word y6 rfl (y.a : Int) y.s false false
 have l7 := ld_word y7
 refine ⟨B', cc', w6, f58.run rfl ?_, y7.right.right, hcc, hf⟩
 simp [f58, a1, h2, a3, h4, addL, q1, h5, l5, h6, l7]
end
section
variable {W : World} {X : Asn W.heap.size}
theorem plain_bad {w : World} {rb : Nat} {B : Option Addr} {cc : Nat} {ws : List Wd} {e : Int} {h : Value} {f : List UInt8 → Bool} (hh : Holds W h f) (hs : ∀ y ∈ ws, y.s.length ≤ 30000) (x : Sat W (rdrS rb B cc ws e X) w) (hc : ws.length ≤ cc) (hl : ws.length ≤ 30000) {a z : Int} (hz : plainE f ws e = some (a, z)) :
  ∃ a0 s0 t0 d0 b w', C 58 #[.pointer (some ⟨rb, 0, none⟩), h] w = some (.tuple #[wv a0 s0 t0 d0, .iface 82 (.pointer (some ⟨b, 0, none⟩))], w') ∧ Sat W (blkA b 83 [.int .i64 a, .int .i64 z] * X) w' := by
 have x1 := x.newBlk 114 (wc 0 [] false false)
 have a1 := alloc114 w
 obtain ⟨w1, hw1⟩ : ∃ w1, w1 = w.alloc (.cells (wc 0 [] false false).toArray 114) := ⟨_, rfl⟩
 rw [← hw1] at x1 a1
 have y1 : Sat W (rdrS rb B cc ws e (blkA w.heap.size 114 (wc 0 [] false false) * X)) w1 := x1.eq (by unfold rdrS; ac_rfl)
 unfold plainE at hz
 split at hz
 ·rename_i p hn
  obtain ⟨a', z'⟩ := p
  cases hz
  obtain ⟨b, w2, h2, y2⟩ := next_bad y1 hc hl false hn
  have y3 := y2.newBlk 114 (wc 0 [] false false)
  have a3 := alloc114 w2
  obtain ⟨w3, hw3⟩ : ∃ w3, w3 = w2.alloc (.cells (wc 0 [] false false).toArray 114) := ⟨_, rfl⟩
  rw [← hw3] at y3 a3
  obtain ⟨w4, h4, y4⟩ := put_word y3 rfl 0 [] false false
  have l4 := ld_word y4
  have y6 : Sat W (blkA w.heap.size 114 (wc 0 [] false false) * (blkA w2.heap.size 114 (wc 0 [] false false) * (blkA b 83 [.int .i64 a, .int .i64 z] * X))) w4 := y4.eq (by ac_rfl)
  obtain ⟨w6, h6, y7⟩ := put_word y6 rfl 0 [] false false
  have l7 := ld_word y7
  refine ⟨0, [], false, false, b, w6, f58.run rfl ?_, y7.right.right⟩
  simp [f58, a1, h2, a3, h4, l4, h6, l7]
 ·rename_i hn
  match ws, hs, hc, hl, hn, hz, x, x1, y1 with
  | [], hs, hc, hl, hn, hz, x, x1, y1 => simp at hz
  | y :: rest, hs, hc, hl, hn, hz, x, x1, y1 =>
   have hf : f y.s = false := by
    cases hf : f y.s with
    | false => rfl
    | true => simp [hf] at hz
   simp only [hf, if_true, Oj, Prod.mk.injEq] at hz
   obtain ⟨rfl, rfl⟩ := hz
   obtain ⟨B', cc', w2, h2, y2, hcc, _, _, _⟩ := next_good y1 hc hl false hn
   have y3 := y2.newBlk 114 (wc 0 [] false false)
   have a3 := alloc114 w2
   obtain ⟨w3, hw3⟩ : ∃ w3, w3 = w2.alloc (.cells (wc 0 [] false false).toArray 114) := ⟨_, rfl⟩
   rw [← hw3] at y3 a3
   obtain ⟨w4, h4, y4⟩ := put_word y3 rfl (y.a : Int) y.s false false
   have q1 := y4.cell 1 rfl
   obtain ⟨w5, h5, y5⟩ := hh _ w4 y.s (hs y (by simp)) y4
   rw [hf] at h5
   have q0 := y5.cell 0 rfl
   obtain ⟨b, w6, h6, y6⟩ := fault_ok y5 (y.a : Int) 193
   have y6' : Sat W (blkA w2.heap.size 114 (wc (y.a : Int) y.s false false) * (blkA b 83 [.int .i64 (y.a : Int), .int .i64 193] * (rdrS rb B' cc' rest e (blkA w.heap.size 114 (wc 0 [] false false) * X)))) w6 := y6.eq (by unfold rdrS; ac_rfl)
   have l6 := ld_word y6'
   have y7 : Sat W (blkA w.heap.size 114 (wc 0 [] false false) * ((blkA w2.heap.size 114 (wc (y.a : Int) y.s false false) * (blkA rb 64 [.slice B' rest.length cc', .int .i64 e] * rdP B' (wcs rest))) * (blkA b 83 [.int .i64 (y.a : Int), .int .i64 193] * X))) w6 := y6'.eq (by unfold rdrS; ac_rfl)
   obtain ⟨w7, h7, y8⟩ := put_word y7 rfl (y.a : Int) y.s false false
   have l8 := ld_word y8
   refine ⟨(y.a : Int), y.s, false, false, b, w7, f58.run rfl ?_, y8.right.right⟩
   simp [f58, a1, h2, a3, h4, addL, q1, h5, q0, h6, l6, h7, l8]
end
def tList : List UInt8 := [108, 105, 115, 116]
def tCut : List UInt8 := [99, 117, 116]
def tFade : List UInt8 := [102, 97, 100, 101]
def rname (r : Int) : List UInt8 := if r = 1 then [50, 52] else if r = 2 then [50, 53] else if r = 3 then [51, 48] else if r = 4 then [51, 48, 100] else if r = 5 then [53, 48] else if r = 6 then [54, 48] else if r = 7 then [54, 48, 100] else []
def rateOf (s : List UInt8) : Int := if s = rname 1 then 1 else if s = rname 2 then 2 else if s = rname 3 then 3 else if s = rname 4 then 4 else if s = rname 5 then 5 else if s = rname 6 then 6 else if s = rname 7 then 7 else 0
theorem rname_ok (r : Int) (w : World) : C 49 #[.int .i64 r] w = some (st (rname r), w) := by
 refine f49.run rfl ?_
 unfold rname
 by_cases h1 : r = 1
 ·subst h1; simp [f49]
 by_cases h2 : r = 2
 ·subst h2; simp [f49]
 by_cases h3 : r = 3
 ·subst h3; simp [f49]
 by_cases h4 : r = 4
 ·subst h4; simp [f49]
 by_cases h5 : r = 5
 ·subst h5; simp [f49]
 by_cases h6 : r = 6
 ·subst h6; simp [f49]
 by_cases h7 : r = 7
 ·subst h7; simp [f49]
 simp [f49, h1, h2, h3, h4, h5, h6, h7]
theorem rateOf_ok (s : List UInt8) (w : World) : C 61 #[st s] w = some (.int .i64 (rateOf s), w) := by
 have key := iter_down (f := f61.l0 C) (fun d ws w1 => ∃ r : Nat, ws = [st s, .int .i64 (r : Int)] ∧ r + d = 8 ∧ 1 ≤ r ∧ w1 = w ∧ ∀ j : Nat, 1 ≤ j → j < r → s ≠ rname (j : Int))
  (fun q => (q = .exit 0 [] w ∧ rateOf s = 0) ∨ q = .ret [.int .i64 (rateOf s)] w) (by
   rintro d ws w1 ⟨r, rfl, hd, hr, rfl, hj⟩
   cases d with
   | zero =>
    obtain rfl : r = 8 := by omega
    refine .inr ⟨.exit 0 [] w1, by simp [f61.l0], .inl ⟨rfl, ?_⟩, by simp⟩
    unfold rateOf
    have g1 : s ≠ rname 1 := hj 1 (by omega) (by omega)
    have g2 : s ≠ rname 2 := hj 2 (by omega) (by omega)
    have g3 : s ≠ rname 3 := hj 3 (by omega) (by omega)
    have g4 : s ≠ rname 4 := hj 4 (by omega) (by omega)
    have g5 : s ≠ rname 5 := hj 5 (by omega) (by omega)
    have g6 : s ≠ rname 6 := hj 6 (by omega) (by omega)
    have g7 : s ≠ rname 7 := hj 7 (by omega) (by omega)
    rw [if_neg g1, if_neg g2, if_neg g3, if_neg g4, if_neg g5, if_neg g6, if_neg g7]
   | succ d =>
    have hle : (r : Int) ≤ 7 := by omega
    have rn := rname_ok (r : Int) w1
    have e1 : IntKind.i64.wrap ((r : Int) + 1) = ((r + 1 : Nat) : Int) := (wrap_i64 (by omega) (by omega)).trans (by omega)
    have eq := fun x y => str_eql (P := Zp) (t := 9) x y (rname (r : Int)) s
    by_cases hs : s = rname (r : Int)
    ·refine .inr ⟨.ret [.int .i64 (r : Int)] w1, ?_, .inr ?_, by simp⟩
     ·have hs' : rname (r : Int) = s := hs.symm
      simp only [hs'] at rn eq
      simp [f61.l0, hle, rn, eq]
     ·have : rateOf s = (r : Int) := by
       unfold rateOf
       rcases (show r = 1 ∨ r = 2 ∨ r = 3 ∨ r = 4 ∨ r = 5 ∨ r = 6 ∨ r = 7 by omega) with rfl | rfl | rfl | rfl | rfl | rfl | rfl <;> rw [hs] <;> decide
      rw [this]
    ·have hs' : ¬ rname (r : Int) = s := fun h => hs h.symm
     refine .inl ⟨d, _, w1, by omega, ?_, ⟨r + 1, rfl, by omega, by omega, rfl, fun j h1 h2 => ?_⟩⟩
     ·obtain ⟨R, hR⟩ : ∃ R, R = rname (r : Int) := ⟨_, rfl⟩
      rw [← hR] at rn hs'
      simp only [← hR] at eq
      simp [f61.l0, hle, rn, eq, hs', e1]
     ·by_cases hjr : j = r
      ·subst hjr; exact hs
      ·exact hj j h1 (by omega)) 7 [st s, .int .i64 1] w ⟨1, rfl, by omega, by omega, rfl, fun j h1 h2 => by omega⟩
 obtain ⟨q, h1, h2⟩ := key
 refine f61.run rfl ?_
 rcases h2 with ⟨rfl, h2⟩ | rfl
 ·rw [h2]; simp [f61, h1]
 ·simp [f61, h1]
section
variable {W : World}
theorem holds_list : Holds W (.func (.func 59) #[] #[]) (fun s => decide (s = tList)) := fun Y w s _ x => by
 have eq := fun a b => str_eql (P := Zp) (t := 9) a b s tList
 have h : C 59 #[st s] w = some (.bool (decide (s = tList)), w) := by
  refine f59.run rfl ?_
  simp only [tList] at eq ⊢
  simp [f59, eq]
 exact ⟨w, by simpa [callV] using h, x⟩
theorem holds_rate : Holds W (.func (.func 60) #[] #[]) (fun s => decide (rateOf s ≠ 0)) := fun Y w s _ x => by
 have h : C 60 #[st s] w = some (.bool (decide (rateOf s ≠ 0)), w) := by
  refine f60.run rfl ?_
  have r := rateOf_ok s w
  by_cases h : rateOf s = 0 <;> simp [f60, r, h]
 exact ⟨w, by simpa [callV] using h, x⟩
theorem holds_cut : Holds W (.func (.func 64) #[] #[]) (fun s => decide (s = tCut) || decide (s = tFade)) := fun Y w s _ x => by
 have eq := fun a b => str_eql (P := Zp) (t := 9) a b s tCut
 have eq2 := fun a b => str_eql (P := Zp) (t := 9) a b s tFade
 have h : C 64 #[st s] w = some (.bool (decide (s = tCut) || decide (s = tFade)), w) := by
  refine f64.run rfl ?_
  simp only [tCut, tFade] at eq eq2 ⊢
  by_cases h : s = [99, 117, 116]
  ·simp [f64, eq, h]
  ·simp [f64, eq, eq2, h]
 exact ⟨w, by simpa [callV] using h, x⟩
theorem holds_name : Holds W (.func (.func 67) #[] #[]) isName := fun Y w s hl x => by
 have h := isName_ok s (by omega) w
 exact ⟨w, by simpa [callV] using h, x⟩
end
section
variable {W : World} {X : Asn W.heap.size}
theorem alloc30 (w : World) : Eq_ Zp (Za 30 true (.tuple #[])) w = some (.pointer (some ⟨w.heap.size, 0, none⟩), w.alloc (.cells [st [], .int .i64 0, .slice none 0 0].toArray 30)) := id (by kernel_rfl)
theorem build30t (s : List UInt8) (r : Int) : Pq Zp (Zb 30 #[(0, st s), (1, .int .i64 r)]) = some (.agg #[st s, .int .i64 r, .slice none 0 0]) := id (by kernel_rfl)
theorem ld_cut {w : World} {b : Nat} {a0 a1 a2 : Value} (s : Sat W (blkA b 30 [a0, a1, a2] * X) w) : Rq Zp (Zl 30 (.pointer (some ⟨b, 0, none⟩))) w = some (.agg #[a0, a1, a2]) :=
 ld30 (a := ⟨b, 0, none⟩) (by rw [addL]; exact s.cell 0 rfl) (by rw [addL]; exact s.cell 1 rfl) (by rw [addL]; exact s.cell 2 rfl)
def isList (s : List UInt8) : Bool := decide (s = tList)
def isRate (s : List UInt8) : Bool := decide (rateOf s ≠ 0)
end
def markOf (r : Int) : Nat := if 0 < r then 59 else 58
theorem mark_ok (c n d r : Int) (w : World) : ∃ w', C 113 #[.agg #[.int .i64 c, .int .i64 n, .int .i64 d, .int .i64 r]] w = some (.int .u8 (markOf r), w') ∧ w.grownBy w' none := by
 refine ⟨w.alloc (.cells #[.int .i64 c, .int .i64 n, .int .i64 d, .int .i64 r] 145), f113.run rfl ?_, World.grownBy_alloc _ _ _⟩
 have b := Blk.new w 145 [.int .i64 c, .int .i64 n, .int .i64 d, .int .i64 r]
 have c3 := b.cell_eq 3 rfl
 by_cases h : 0 < r
 ·simp [f113, box_any, Value.cells, addL, c3, h, markOf]
 ·simp [f113, box_any, Value.cells, addL, c3, h, markOf]
def two (n : Nat) : List UInt8 := [UInt8.ofNat (48 + n / 10), UInt8.ofNat (48 + n % 10)]
def perTen (x : Int × Int × Int × Int) : Int := 600 * x.1 - 9 * x.2.2.2
def leftOut (x : Int × Int × Int × Int) (n : Int) : Int :=
 if 60 * x.1 ≤ n.tmod (perTen x) then (9 * n.tdiv (perTen x) + (1 + (n.tmod (perTen x) - 60 * x.1).tdiv (60 * x.1 - x.2.2.2))) * x.2.2.2 else 9 * n.tdiv (perTen x) * x.2.2.2
theorem rate_in {x : Int × Int × Int × Int} (hx : x ∈ rates) (h0 : x.1 ≠ 0) : 24 ≤ x.1 ∧ x.1 ≤ 60 ∧ 0 ≤ x.2.2.2 ∧ x.2.2.2 ≤ 4 := by
 simp only [rates, List.mem_cons, List.not_mem_nil, or_false] at hx
 rcases hx with rfl | rfl | rfl | rfl | rfl | rfl | rfl | rfl <;> simp at h0 ⊢
theorem bin_quo' (a b : Int) (h : b ≠ 0) (h1 : -9223372036854775808 ≤ a.tdiv b) (h2 : a.tdiv b ≤ 9223372036854775807) : bin .quo (.int .i64 a) (.int .i64 b) = some (.int .i64 (a.tdiv b)) := by
 simp only [bin, if_true]
 rw [if_neg h, wrap_i64 h1 h2]
open Go Go.Proofs
theorem leftOut_in {x : Int × Int × Int × Int} (hx : x ∈ rates) (h0 : x.1 ≠ 0) (n : Int) (hn : 0 ≤ n) (hn' : n < perDay x) : 0 ≤ leftOut x n ∧ n + leftOut x n < 86400 * x.1 := by
 simp only [rates, List.mem_cons, List.not_mem_nil, or_false] at hx
 rcases hx with rfl | rfl | rfl | rfl | rfl | rfl | rfl | rfl
 ·exact absurd rfl h0
 all_goals
  simp only [leftOut, perTen, perDay, Int.reduceMul, Int.reduceSub, Int.tmod_eq_emod_of_nonneg hn, Int.tdiv_eq_ediv_of_nonneg hn] at hn' ⊢
  split
  ·rename_i hge
   rw [Int.tdiv_eq_ediv_of_nonneg (by omega)]
   omega
  ·rename_i hge
   omega
def nameOf (c : Nat) (m : Nat) (M : Nat) : List UInt8 := two (M / c / 3600) ++ [58] ++ two (M / c / 60 % 60) ++ [58] ++ two (M / c % 60) ++ [UInt8.ofNat m] ++ two (M % c)
theorem quoN (a b : Nat) (hb : b ≠ 0) (ha : a ≤ 1000000000000) : bin .quo (.int .i64 (a : Int)) (.int .i64 (b : Int)) = some (.int .i64 ((a / b : Nat) : Int)) := by
 have e : (a : Int).tdiv (b : Int) = ((a / b : Nat) : Int) := by rw [Int.tdiv_eq_ediv_of_nonneg (by omega)]; rfl
 have h : a / b ≤ a := Nat.div_le_self _ _
 obtain ⟨q, hq⟩ : ∃ q, q = a / b := ⟨_, rfl⟩
 rw [← hq] at e h ⊢
 rw [bin_quo' _ _ (by omega) (by rw [e]; omega) (by rw [e]; omega), e]
theorem remN (a b : Nat) (hb : b ≠ 0) : bin .rem (.int .i64 (a : Int)) (.int .i64 (b : Int)) = some (.int .i64 ((a % b : Nat) : Int)) := by
 rw [bin_rem _ _ _ (by omega), Int.tmod_eq_emod_of_nonneg (by omega)]
 rfl
end Go.Sh.YtkghbcadnbojgaaGreatDoor
