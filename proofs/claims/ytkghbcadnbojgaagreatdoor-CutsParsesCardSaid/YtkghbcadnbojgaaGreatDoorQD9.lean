/- cuts: the reference's names and fades. Condition: a text's length. -/
import Derived.KernelRfl
import Derived.Test.YtkghbcadnbojgaaGreatDoorQD3
import Derived.Test.YtkghbcadnbojgaaGreatDoorQD4
import Derived.Test.YtkghbcadnbojgaaGreatDoorQD8
namespace Go.Sh.YtkghbcadnbojgaaGreatDoor
open Go Go.Proofs Go.RowKit Go.Lib Go.Sh.Ev
set_option linter.unusedVariables false
set_option linter.unusedSimpArgs false
set_option maxRecDepth 100000
open Go Go.Proofs
open Go.Proofs.Tryz renaming prog → Zp, underlying9 → Uz
open Go.Instr renaming loadAt → Zl, fieldAt → Zf, storeAt → Zs, extract → Zx, index → Zi, indexAt → Zj, alloc → Za, build → Zb
open Go.Value renaming int → Vi, string → Vs, bool → Vb
open Go.IntKind renaming i64 → Ki
open Go.Operand renaming tmp → Ot, const → Oc
open Go.Builtin renaming len_ → Yl, append_ → Yb
open List renaming getElem?_eq_getElem → Yg, length_append → Ya, length_cons → Yc, drop_drop → Yd, getElem?_append_left → Yf, length_drop → Ye
open Go.Sh.Res renaming norm → Xn, ret → Xr, exit → Xx
open Go.Sh renaming prun → Pq, rrun → Rq, erun → Eq_
theorem nameMay_ok (l : List UInt8) (hl : l.length ≤ 9223372036854775807) (w : World) : C 102 #[st l] w = some (.bool (isName l), w) := by
 have hs : Pq Zp (Yl #[9] 3 #[st l]) = some (.int .i64 l.length) := str_len Uz 3 l
 have key := iter_down (f := f102.l0 C) (fun d vs w1 => ∃ i : Nat, vs = [st l, .int .i64 i] ∧ i + d = l.length ∧ w1 = w ∧ (l.take i).all nameByte = true)
  (fun r => (r = .exit 0 [st l] w ∧ l.all nameByte = true) ∨ (r = .ret [.bool false] w ∧ l.all nameByte = false)) (by
   rintro d vs w1 ⟨i, rfl, hi, rfl, ha⟩
   cases d with
   | zero =>
    obtain rfl : i = l.length := by omega
    rw [List.take_length] at ha
    exact .inr ⟨_, by simp [f102.l0, hs], .inl ⟨rfl, ha⟩, by simp⟩
   | succ d =>
    have hil : i < l.length := by omega
    have ix := str_index (P := Zp) Uz l .i64 i hil
    have e1 : IntKind.i64.wrap ((i : Int) + 1) = ((i + 1 : Nat) : Int) := (wrap_i64 (by omega) (by omega)).trans (by omega)
    have hlt : (i : Int) < (l.length : Int) := by omega
    obtain ⟨c, hc⟩ : ∃ c, c = l[i] := ⟨_, rfl⟩
    rw [← hc] at ix
    obtain ⟨n, hn⟩ : ∃ n : Nat, n = c.toNat := ⟨_, rfl⟩
    rw [← hn] at ix
    cases hb : nameByte c with
    | true =>
     have hb' : ((97 ≤ n ∧ n ≤ 122) ∨ (48 ≤ n ∧ n ≤ 57)) ∨ n = 95 ∨ n = 45 := by
      simp [nameByte, ← hn] at hb
      omega
     refine .inl ⟨d, _, w1, by omega, ?_, ⟨i + 1, rfl, by omega, rfl, ?_⟩⟩
     ·by_cases a1 : (97 : Int) ≤ n <;> by_cases a2 : (n : Int) ≤ 122 <;> by_cases a3 : (48 : Int) ≤ n <;> by_cases a4 : (n : Int) ≤ 57 <;> by_cases a5 : (n : Int) = 95 <;> by_cases a6 : (n : Int) = 45
      all_goals first | (exfalso; omega) | simp [f102.l0, hs, hlt, ix, e1, a1, a2, a3, a4, a5, a6]
     ·rw [List.take_succ_eq_append_getElem hil, List.all_append, ha, ← hc]
      simp [hb]
    | false =>
     refine .inr ⟨.ret [.bool false] w1, ?_, .inr ⟨rfl, ?_⟩, by simp⟩
     ·have hb' : ¬ (97 ≤ n ∧ n ≤ 122) ∧ ¬ (48 ≤ n ∧ n ≤ 57) ∧ n ≠ 95 ∧ n ≠ 45 := by
       simp [nameByte, ← hn] at hb
       omega
      by_cases a1 : (97 : Int) ≤ n <;> by_cases a2 : (n : Int) ≤ 122 <;> by_cases a3 : (48 : Int) ≤ n <;> by_cases a4 : (n : Int) ≤ 57 <;> by_cases a5 : (n : Int) = 95 <;> by_cases a6 : (n : Int) = 45
      all_goals first | (exfalso; omega) | simp [f102.l0, hs, hlt, ix, a1, a2, a3, a4, a5, a6]
     ·rw [List.all_eq_false]
      exact ⟨l[i], List.getElem_mem hil, by rw [← hc, hb]; simp⟩) l.length _ w ⟨0, rfl, by omega, rfl, by simp⟩
 obtain ⟨r, h1, h2⟩ := key
 refine f102.run rfl ?_
 rcases h2 with ⟨rfl, h2⟩ | ⟨rfl, h2⟩
 ·simp at h1
  by_cases a1 : (1 : Int) ≤ l.length
  ·have a1' : 1 ≤ l.length := by omega
   by_cases a2 : (l.length : Int) ≤ 16
   ·have a2' : l.length ≤ 16 := by omega
    simp [f102, hs, h1, isName, h2, a1, a2, a1', a2']
   ·have a2' : ¬ l.length ≤ 16 := by omega
    simp [f102, hs, h1, isName, h2, a1, a2, a1', a2']
  ·have a1' : ¬ 1 ≤ l.length := by omega
   simp [f102, hs, h1, isName, h2, a1, a1']
 ·simp at h1
  simp [f102, hs, h1, isName, h2]
def numV (n : Nat) (l : List UInt8) : Nat := l.foldl (fun n c => 10 * n + (c.toNat - 48)) n
def isDig (c : UInt8) : Bool := decide (48 ≤ c.toNat) && decide (c.toNat ≤ 57)
def countV (l : List UInt8) : Nat := if l = [] ∨ 3 < l.length ∨ l.head? = some 48 ∨ l.all isDig = false ∨ 100 < numV 0 l then 0 else numV 0 l
theorem countV_dec : ∀ k, k < 101 → 1 ≤ k → countV (dec k) = k := by decide +kernel
theorem dec_of3 : ∀ a, a < 10 → ∀ b, b < 10 → ∀ c, c < 10 → 1 ≤ a ∧ 100 * a + 10 * b + c ≤ 100 → dec (100 * a + 10 * b + c) = [UInt8.ofNat (48 + a), UInt8.ofNat (48 + b), UInt8.ofNat (48 + c)] := by decide +kernel
theorem dec_of2 : ∀ a, a < 10 → ∀ b, b < 10 → 1 ≤ a → dec (10 * a + b) = [UInt8.ofNat (48 + a), UInt8.ofNat (48 + b)] := by decide +kernel
theorem dec_of1 : ∀ a, a < 10 → 1 ≤ a → dec a = [UInt8.ofNat (48 + a)] := by decide +kernel
theorem countV_fade (l : List UInt8) : countV l = fadeNum l := by
 by_cases hf : fadeNum l = 0
 ·rw [hf]
  apply Classical.byContradiction
  intro h
  obtain ⟨k, hk⟩ : ∃ k, k = countV l := ⟨_, rfl⟩
  have key : 1 ≤ k ∧ k ≤ 100 ∧ l = dec k := by
   unfold countV at hk h
   split at h
   ·exact absurd rfl h
   rename_i hc
   rw [if_neg hc] at hk
   simp only [not_or] at hc
   obtain ⟨c1, c2, c3, c4, c5⟩ := hc
   have hd : ∀ c ∈ l, ∃ a, a < 10 ∧ c = UInt8.ofNat (48 + a) ∧ c.toNat = 48 + a := by
    intro c hc
    have := List.all_eq_true.mp (by simpa using c4 : l.all isDig = true) c hc
    simp [isDig] at this
    refine ⟨c.toNat - 48, by omega, ?_, by omega⟩
    rw [show 48 + (c.toNat - 48) = c.toNat by omega]
    simp
   match l, c1, c2, c3, hd, c5, hk, h with
   | x :: y :: z :: u :: v, _, c2, _, _, _, _, _ => exact absurd c2 (by simp)
   | [x], _, _, c3, hd, c5, hk, h =>
    obtain ⟨a, a1, a2, a3⟩ := hd x (by simp)
    have ha : 1 ≤ a := by
     apply Classical.byContradiction
     intro h0
     obtain rfl : a = 0 := by omega
     exact c3 (by rw [a2]; rfl)
    have e : k = a := by rw [hk]; simp [numV, a3]
    rw [e]
    exact ⟨ha, by omega, by rw [dec_of1 a a1 ha, a2]⟩
   | [x, y], _, _, c3, hd, c5, hk, h =>
    obtain ⟨a, a1, a2, a3⟩ := hd x (by simp)
    obtain ⟨b, b1, b2, b3⟩ := hd y (by simp)
    have ha : 1 ≤ a := by
     apply Classical.byContradiction
     intro h0
     obtain rfl : a = 0 := by omega
     exact c3 (by rw [a2]; rfl)
    have e : k = 10 * a + b := by rw [hk]; simp [numV, a3, b3]
    rw [e]
    exact ⟨by omega, by omega, by rw [dec_of2 a a1 b b1 ha, a2, b2]⟩
   | [x, y, z], _, _, c3, hd, c5, hk, h =>
    obtain ⟨a, a1, a2, a3⟩ := hd x (by simp)
    obtain ⟨b, b1, b2, b3⟩ := hd y (by simp)
    obtain ⟨c, d1, d2, d3⟩ := hd z (by simp)
    have ha : 1 ≤ a := by
     apply Classical.byContradiction
     intro h0
     obtain rfl : a = 0 := by omega
     exact c3 (by rw [a2]; rfl)
    have e : k = 100 * a + 10 * b + c := by rw [hk]; simp [numV, a3, b3, d3]; omega
    have e5 : k ≤ 100 := by rw [hk]; omega
    rw [e] at e5
    rw [e]
    exact ⟨by omega, e5, by rw [dec_of3 a a1 b b1 c d1 ⟨ha, e5⟩, a2, b2, d2]⟩
  have := fadeNum_dec key.1 key.2.1
  rw [← key.2.2] at this
  omega
 ·obtain ⟨h1, h2, h3⟩ := fadeNum_some hf
  conv => lhs; rw [h3]
  exact countV_dec _ (by omega) h1
theorem numV_app (n : Nat) (l r : List UInt8) : numV n (l ++ r) = numV (numV n l) r := by simp [numV, List.foldl_append]
theorem numV_le : ∀ (l : List UInt8) (n : Nat), l.length ≤ 3 → numV n l ≤ 1000 * n + 300000
 | [], n, _ => by simp [numV]; omega
 | [a], n, _ => by have := a.toNat_lt; simp [numV]; omega
 | [a, b], n, _ => by have := a.toNat_lt; have := b.toNat_lt; simp [numV]; omega
 | [a, b, c], n, _ => by have := a.toNat_lt; have := b.toNat_lt; have := c.toNat_lt; simp [numV]; omega
 | _ :: _ :: _ :: _ :: _, _, h => by simp at h
theorem cv5_3c (x : Int) (h0 : 0 ≤ x) (h1 : x < 256) : Pq Zp (convert 5 3 (.int .u8 x)) = some (.int .i64 x) := by
 have e : Pq Zp (convert 5 3 (.int .u8 x)) = some (.int .i64 (IntKind.i64.wrap x)) := id (by kernel_rfl)
 rw [e, wrap_i64 (by omega) (by omega)]
theorem count_ok (l : List UInt8) (hl : l.length ≤ 9223372036854775807) (w : World) : C 101 #[st l] w = some (.int .i64 (countV l), w) := by
 have hs : Pq Zp (Yl #[9] 3 #[st l]) = some (.int .i64 l.length) := str_len Uz 3 l
 have q0 : Pq Zp (do eqGuard .eql 9 (Ot 5) (Oc (Vs { data := #[] })) (st l) (Vs { data := #[] }); binOp .eql 9 (st l) (Vs { data := #[] })) = some (.bool (decide (l = []))) := by
  have := str_eql (P := Zp) (t := 9) (Ot 5) (Oc (Vs { data := #[] })) l []
  exact this
 by_cases c1 : l = []
 ·refine f101.run rfl ?_
  simp [f101, q0, c1, countV]
 by_cases c2 : 3 < l.length
 ·refine f101.run rfl ?_
  have c2' : (3 : Int) < l.length := by omega
  simp [f101, q0, hs, c1, c2, c2', countV]
 have c2' : ¬ (3 : Int) < l.length := by omega
 obtain ⟨d, r, hdr⟩ : ∃ d r, l = d :: r := by
  cases l with
  | nil => exact absurd rfl c1
  | cons d r => exact ⟨d, r, rfl⟩
 have ix0 := str_index (P := Zp) Uz l .i64 0 (by rw [hdr]; simp)
 have hl0 : l[0]'(by rw [hdr]; simp) = d := by simp [hdr]
 rw [hl0] at ix0
 have ix0 : Pq Zp (Zi 9 (st l) (.int .i64 0)) = some (.int .u8 d.toNat) := ix0
 by_cases c3 : d = 48
 ·refine f101.run rfl ?_
  have c3' : (d.toNat : Int) = 48 := by rw [c3]; rfl
  have h3 : l.head? = some 48 := by rw [hdr, c3]; rfl
  simp [f101, q0, hs, ix0, c1, c2', c3', countV, h3]
 have c3' : ¬ (d.toNat : Int) = 48 := by
  intro h
  apply c3
  have : d.toNat = 48 := by omega
  exact UInt8.toNat_inj.mp this
 have h3 : ¬ l.head? = some 48 := by rw [hdr]; simpa using c3
 have key := iter_down (f := f101.l0 C) (fun k vs w1 => ∃ i : Nat, vs = [st l, .int .i64 (numV 0 (l.take i)), .int .i64 i] ∧ i + k = l.length ∧ w1 = w ∧ (l.take i).all isDig = true)
  (fun r => (r = .exit 0 [.int .i64 (numV 0 l)] w ∧ l.all isDig = true) ∨ (r = .ret [.int .i64 0] w ∧ l.all isDig = false)) (by
   rintro k vs w1 ⟨i, rfl, hi, rfl, ha⟩
   cases k with
   | zero =>
    obtain rfl : i = l.length := by omega
    rw [List.take_length] at ha ⊢
    exact .inr ⟨_, by simp [f101.l0, hs], .inl ⟨rfl, ha⟩, by simp⟩
   | succ k =>
    have hil : i < l.length := by omega
    have ix := str_index (P := Zp) Uz l .i64 i hil
    have e1 : IntKind.i64.wrap ((i : Int) + 1) = ((i + 1 : Nat) : Int) := (wrap_i64 (by omega) (by omega)).trans (by omega)
    have hlt : (i : Int) < (l.length : Int) := by omega
    obtain ⟨c, hc⟩ : ∃ c, c = l[i] := ⟨_, rfl⟩
    rw [← hc] at ix
    have hb := c.toNat_lt
    have tk : l.take (i + 1) = l.take i ++ [c] := by rw [List.take_succ_eq_append_getElem hil, ← hc]
    by_cases hd : isDig c = true
    ·have hd' := hd
     simp [isDig] at hd'
     have a1 : ¬ (c.toNat : Int) < 48 := by omega
     have a2 : ¬ (57 : Int) < c.toNat := by omega
     have s1 : IntKind.u8.wrap ((c.toNat : Int) - 48) = ((c.toNat - 48 : Nat) : Int) := (wrap_u8 (by omega) (by omega)).trans (by omega)
     have cv := cv5_3c ((c.toNat - 48 : Nat) : Int) (by omega) (by omega)
     have nl := numV_le (l.take i) 0 (by rw [List.length_take]; omega)
     have nv : numV 0 (l.take (i + 1)) = 10 * numV 0 (l.take i) + (c.toNat - 48) := by rw [tk, numV_app]; simp [numV]
     have m1 : IntKind.i64.wrap (10 * ((numV 0 (l.take i) : Nat) : Int)) = 10 * ((numV 0 (l.take i) : Nat) : Int) := wrap_i64 (by omega) (by omega)
     have m2 : IntKind.i64.wrap (10 * ((numV 0 (l.take i) : Nat) : Int) + ((c.toNat - 48 : Nat) : Int)) = ((numV 0 (l.take (i + 1)) : Nat) : Int) := by rw [nv]; exact (wrap_i64 (by omega) (by omega)).trans (by omega)
     refine .inl ⟨k, _, w1, by omega, ?_, ⟨i + 1, rfl, by omega, rfl, ?_⟩⟩
     ·generalize numV 0 (l.take (i + 1)) = N2 at m2 ⊢
      generalize ((c.toNat - 48 : Nat) : Int) = D at s1 cv m2
      generalize ((numV 0 (l.take i) : Nat) : Int) = N1 at m1 m2 ⊢
      simp [f101.l0, hs, hlt, ix, e1, a1, a2, s1, cv, m1, m2]
     ·rw [tk, List.all_append, ha]
      simp [hd]
    ·have hd' : c.toNat < 48 ∨ 57 < c.toNat := by
      simp [isDig] at hd
      omega
     refine .inr ⟨.ret [.int .i64 0] w1, ?_, .inr ⟨rfl, ?_⟩, by simp⟩
     ·by_cases a1 : (c.toNat : Int) < 48
      ·simp [f101.l0, hs, hlt, ix, a1]
      ·have a2 : (57 : Int) < c.toNat := by omega
       simp [f101.l0, hs, hlt, ix, a1, a2]
     ·rw [List.all_eq_false]
      exact ⟨l[i], List.getElem_mem hil, by rw [← hc]; exact hd⟩) l.length _ w ⟨0, rfl, by omega, rfl, by simp⟩
 obtain ⟨x, h1, h2⟩ := key
 refine f101.run rfl ?_
 have z0 : numV 0 [] = 0 := rfl
 rw [List.take_zero, z0] at h1
 rcases h2 with ⟨rfl, h2⟩ | ⟨rfl, h2⟩
 ·simp at h1
  have nc : ¬ (l = [] ∨ 3 < l.length ∨ l.head? = some 48 ∨ l.all isDig = false) := by simp only [not_or]; exact ⟨c1, c2, h3, by rw [h2]; simp⟩
  by_cases c5 : 100 < numV 0 l
  ·have c5' : (100 : Int) < numV 0 l := by omega
   have hx : countV l = 0 := by unfold countV; rw [if_pos (.inr (.inr (.inr (.inr c5))))]
   simp [f101, q0, hs, ix0, c1, c2', c3', h1, c5', hx]
  ·have c5' : ¬ (100 : Int) < numV 0 l := by omega
   have hx : countV l = numV 0 l := by
    unfold countV
    rw [if_neg]
    simp only [not_or] at nc ⊢
    exact ⟨nc.1, nc.2.1, nc.2.2.1, nc.2.2.2, c5⟩
   simp [f101, q0, hs, ix0, c1, c2', c3', h1, c5', hx]
 ·simp at h1
  have hx : countV l = 0 := by
   unfold countV
   rw [if_pos (.inr (.inr (.inr (.inl h2))))]
  simp [f101, q0, hs, ix0, c1, c2', c3', h1, hx]
noncomputable def lgB (call : CallF) (vs_1 : List Value) (W2 : World) : Option Res :=
 let s0_2 := nth vs_1 0
 let at1_2 := nth vs_1 1
 let n6_1 := nth vs_1 2
 let low7_1 := nth vs_1 3
 let high8_1 := nth vs_1 4
 (bin .add at1_2 n6_1).bind fun v49 =>
 (Pq Zp (Yl #[9] 3 #[s0_2])).bind fun v51 =>
 (bin .gtr v49 v51).bind fun v52 =>
 (asB v52).bind fun b53 =>
 (if b53 = false then (bin .add at1_2 (Vi Ki 1)).bind fun v56 =>
  (Pq Zp (Zi 9 s0_2 v56)).bind fun v57 =>
  (Pq Zp (convert 5 3 v57)).bind fun v58 =>
  (bin .lss v58 low7_1).bind fun v60 =>
  some (v60, W2)
  else some ((Vb true), W2)).bind fun r61 =>
 (asB r61.1).bind fun b62 =>
 (if b62 = false then (bin .add at1_2 (Vi Ki 1)).bind fun v65 =>
  (Pq Zp (Zi 9 s0_2 v65)).bind fun v66 =>
  (Pq Zp (convert 5 3 v66)).bind fun v67 =>
  (bin .gtr v67 high8_1).bind fun v69 =>
  some (v69, r61.2)
  else some ((Vb true), r61.2)).bind fun r70 =>
 (asB r70.1).bind fun c70 =>
 if c70 then
  some (Xr [(Vi Ki 0)] r70.2)
 else
 (bin .add at1_2 (Vi Ki 2)).bind fun v72 =>
 (iter (f69.l0 call) [s0_2, at1_2, n6_1, v72] r70.2).bind fun (r : Res) => (r.unblock 2).cont fun vs_4 W5 =>
 let n6_4 := nth vs_4 0
 some (Xr [n6_4] W5)
noncomputable def lgA (call : CallF) (vs : List Value) (W1 : World) : Option Res :=
 let s0_1 := nth vs 0
 let at1_1 := nth vs 1
 let c5 := nth vs 2
 let n6 := nth vs 3
 let low7 := nth vs 4
 let high8 := nth vs 5
 ((bin .eql c5 (Vi Ki 224)).bind fun v40 =>
 (asB v40).bind fun c39 =>
 if c39 then
  some (Xn [s0_1, at1_1, n6, (Vi Ki 160), high8] W1)
 else
 (bin .eql c5 (Vi Ki 237)).bind fun v42 =>
 (asB v42).bind fun c41 =>
 if c41 then
  some (Xn [s0_1, at1_1, n6, low7, (Vi Ki 159)] W1)
 else
 (bin .eql c5 (Vi Ki 240)).bind fun v44 =>
 (asB v44).bind fun c43 =>
 if c43 then
  some (Xn [s0_1, at1_1, n6, (Vi Ki 144), high8] W1)
 else
 (bin .eql c5 (Vi Ki 244)).bind fun v46 =>
 (asB v46).bind fun c45 =>
 if c45 then
  some (Xn [s0_1, at1_1, n6, low7, (Vi Ki 143)] W1)
 else
 some (Xn [s0_1, at1_1, n6, low7, high8] W1)).bind fun (r : Res) => (r.unblock 1).cont (lgB call)
theorem f69.parts (call : CallF) (s0 : Value) (at1 : Value) (W0 : World) : f69 call s0 at1 W0 =
 ((Pq Zp (Zi 9 s0 at1)).bind fun v12 =>
 (Pq Zp (convert 5 3 v12)).bind fun v13 =>
 ((bin .lss v13 (Vi Ki 128)).bind fun v16 =>
 (asB v16).bind fun c14 =>
 if c14 then
  some (Xr [(Vi Ki 1)] W0)
 else
 (bin .geq v13 (Vi Ki 194)).bind fun v19 =>
 (asB v19).bind fun b20 =>
 (if b20 = true then (bin .leq v13 (Vi Ki 223)).bind fun v22 =>
  some (v22, W0)
  else some ((Vb false), W0)).bind fun r23 =>
 (asB r23.1).bind fun c17 =>
 if c17 then
  some (Xn [s0, at1, v13, (Vi Ki 2), (Vi Ki 128), (Vi Ki 191)] r23.2)
 else
 (bin .geq v13 (Vi Ki 224)).bind fun v26 =>
 (asB v26).bind fun b27 =>
 (if b27 = true then (bin .leq v13 (Vi Ki 239)).bind fun v29 =>
  some (v29, r23.2)
  else some ((Vb false), r23.2)).bind fun r30 =>
 (asB r30.1).bind fun c24 =>
 if c24 then
  some (Xn [s0, at1, v13, (Vi Ki 3), (Vi Ki 128), (Vi Ki 191)] r30.2)
 else
 (bin .geq v13 (Vi Ki 240)).bind fun v33 =>
 (asB v33).bind fun b34 =>
 (if b34 = true then (bin .leq v13 (Vi Ki 244)).bind fun v36 =>
  some (v36, r30.2)
  else some ((Vb false), r30.2)).bind fun r37 =>
 (asB r37.1).bind fun c31 =>
 if c31 then
  some (Xn [s0, at1, v13, (Vi Ki 4), (Vi Ki 128), (Vi Ki 191)] r37.2)
 else
 some (Xr [(Vi Ki 0)] r37.2)).bind fun (r : Res) => (r.unblock 0).cont (lgA call)).bind Res.done := rfl
theorem so_eq {n lo hi : Nat} {a : UInt8} {r : List UInt8} (h2 : 2 ≤ n) (h4 : n ≤ 4) (hl : n - 2 ≤ r.length) : so n lo hi (a :: r) = ((decide (lo ≤ a.toNat) && decide (a.toNat ≤ hi)) && (r.take (n - 2)).all goesOn) := by
 obtain rfl | rfl | rfl : n = 2 ∨ n = 3 ∨ n = 4 := by omega
 ·simp [so]
 ·match r, hl with
  | b :: t, _ => simp [so]
  | [], h => simp at h
 ·match r, hl with
  | b :: d :: t, _ => simp [so]
  | [b], h => simp at h
  | [], h => simp at h
theorem so_short {n lo hi : Nat} {r : List UInt8} (hl : r.length < n - 1) : so n lo hi r = false := by
 cases h : so n lo hi r with
 | false => rfl
 | true => have := so_len h; omega
theorem lgB_ok {s : List UInt8} {p n lo hi : Nat} {c : UInt8} {r : List UInt8} (hd : s.drop p = c :: r) (hs : s.length ≤ 1000000) (h2 : 2 ≤ n) (h4 : n ≤ 4) (hlo : lo ≤ 255) (hhi : hi ≤ 255) (w : World) :
  lgB C [st s, .int .i64 (p : Int), .int .i64 (n : Int), .int .i64 (lo : Int), .int .i64 (hi : Int)] w = some (.ret [.int .i64 ((if so n lo hi r = true then n else 0 : Nat) : Int)] w) := by
 have hsl := fun ty => str_len (P := Zp) Uz ty s
 have hlen : r.length + 1 = s.length - p := by have := congrArg List.length hd; simp at this; omega
 have at_ : ∀ j, j < r.length → ∃ h : p + 1 + j < s.length, s[p + 1 + j] = r[j]! := by
  intro j hj
  have h : p + 1 + j < s.length := by omega
  refine ⟨h, ?_⟩
  have e : s[p + 1 + j]? = r[j]? := by
   have : (s.drop p)[j + 1]? = (c :: r)[j + 1]? := by rw [hd]
   rw [List.getElem?_drop, List.getElem?_cons_succ] at this
   rw [← this]
   congr 1
   omega
  rw [Yg h, Yg hj] at e
  simp only [Option.some.injEq] at e
  rw [e, getElem!_pos r j hj]
 have e0 : IntKind.i64.wrap ((p : Int) + n) = ((p + n : Nat) : Int) := (wrap_i64 (by omega) (by omega)).trans (by omega)
 have e1 : IntKind.i64.wrap ((p : Int) + 1) = ((p + 1 : Nat) : Int) := (wrap_i64 (by omega) (by omega)).trans (by omega)
 have e2 : IntKind.i64.wrap ((p : Int) + 2) = ((p + 2 : Nat) : Int) := (wrap_i64 (by omega) (by omega)).trans (by omega)
 obtain ⟨PN, hPN⟩ : ∃ x : Int, x = ((p + n : Nat) : Int) := ⟨_, rfl⟩
 obtain ⟨Q1, hQ1⟩ : ∃ x : Int, x = ((p + 1 : Nat) : Int) := ⟨_, rfl⟩
 obtain ⟨Q2, hQ2⟩ : ∃ x : Int, x = ((p + 2 : Nat) : Int) := ⟨_, rfl⟩
 by_cases hsh : s.length < p + n
 ·have hsh' : (s.length : Int) < ((p + n : Nat) : Int) := by omega
  rw [so_short (by omega)]
  rw [← hPN] at e0 hsh'
  simp [lgB, hsl, e0, hsh']
 have hsh' : ¬ (s.length : Int) < ((p + n : Nat) : Int) := by omega
 rw [← hPN] at e0 hsh'
 rw [← hQ1] at e1
 rw [← hQ2] at e2
 match r, hlen, at_ with
 | [], hlen, _ => simp at hlen; omega
 | a :: r', hlen, at_ =>
  simp only [Yc] at hlen at_
  rw [so_eq h2 h4 (by omega)]
  obtain ⟨ha, ea⟩ := at_ 0 (by omega)
  have ix1 := str_index (P := Zp) Uz s .i64 (p + 1) (by omega)
  have ea' : s[p + 1] = a := by simpa using ea
  rw [ea', ← hQ1] at ix1
  have hb := a.toNat_lt
  have cv := cv5_3c (a.toNat : Int) (by omega) (by omega)
  by_cases l1 : a.toNat < lo
  ·have l1' : (a.toNat : Int) < lo := by omega
   have l2 : ¬ lo ≤ a.toNat := by omega
   simp [lgB, hsl, e0, hsh', e1, ix1, cv, l1', l2]
  have l1' : ¬ (a.toNat : Int) < lo := by omega
  by_cases l3 : hi < a.toNat
  ·have l3' : (hi : Int) < a.toNat := by omega
   have l4 : ¬ a.toNat ≤ hi := by omega
   simp [lgB, hsl, e0, hsh', e1, ix1, cv, l1', l3', l4]
  have l3' : ¬ (hi : Int) < a.toNat := by omega
  have key := iter_down (f := f69.l0 C) (fun k vs w1 => ∃ j : Nat, ∃ P1 : Int, P1 = ((p + 2 + j : Nat) : Int) ∧ vs = [st s, .int .i64 (p : Int), .int .i64 (n : Int), .int .i64 P1] ∧ j + k = n - 2 ∧ w1 = w ∧ (r'.take j).all goesOn = true)
   (fun x => (x = .exit 2 [.int .i64 (n : Int)] w ∧ (r'.take (n - 2)).all goesOn = true) ∨ (x = .ret [.int .i64 0] w ∧ (r'.take (n - 2)).all goesOn = false)) (by
    rintro k vs w1 ⟨j, P1, hP1, rfl, hj, rfl, hall⟩
    cases k with
    | zero =>
     obtain rfl : j = n - 2 := by omega
     have hlt : ¬ P1 < PN := by omega
     exact .inr ⟨_, by simp [f69.l0, e0, hlt], .inl ⟨rfl, hall⟩, by simp⟩
    | succ k =>
     have hlt : P1 < PN := by omega
     obtain ⟨hb1, eb⟩ := at_ (j + 1) (by omega)
     have ix := str_index (P := Zp) Uz s .i64 (p + 2 + j) (by omega)
     obtain ⟨b, hb⟩ : ∃ b, b = r'[j]'(by omega) := ⟨_, rfl⟩
     have eb' : s[p + 2 + j] = b := by
      rw [hb]
      have q : (a :: r')[j + 1]! = r'[j]'(by omega) := by rw [getElem!_pos (a :: r') (j + 1) (by simp; omega), List.getElem_cons_succ]
      rw [← q, ← eb]
      congr 1
      omega
     rw [eb', ← hP1] at ix
     have tk : r'.take (j + 1) = r'.take j ++ [b] := by rw [List.take_succ_eq_append_getElem (by omega), ← hb]
     by_cases hg : goesOn b = true
     ·have hg' := hg
      simp [goesOn] at hg'
      have a1 : ¬ (b.toNat : Int) < 128 := by omega
      have a2 : ¬ (191 : Int) < b.toNat := by omega
      obtain ⟨P2, hP2⟩ : ∃ x : Int, x = ((p + 2 + (j + 1) : Nat) : Int) := ⟨_, rfl⟩
      have e3 : IntKind.i64.wrap (P1 + 1) = P2 := (wrap_i64 (by omega) (by omega)).trans (by omega)
      refine .inl ⟨k, _, w1, by omega, ?_, ⟨j + 1, P2, hP2, rfl, by omega, rfl, by rw [tk, List.all_append, hall]; simp [hg]⟩⟩
      simp [f69.l0, e0, hlt, ix, a1, a2, e3]
     ·have hg' : b.toNat < 128 ∨ 191 < b.toNat := by simp [goesOn] at hg; omega
      refine .inr ⟨.ret [.int .i64 0] w1, ?_, .inr ⟨rfl, ?_⟩, by simp⟩
      ·by_cases a1 : (b.toNat : Int) < 128
       ·simp [f69.l0, e0, hlt, ix, a1]
       ·have a2 : (191 : Int) < b.toNat := by omega
        simp [f69.l0, e0, hlt, ix, a1, a2]
      ·rw [List.all_eq_false]
       refine ⟨b, ?_, by simpa using hg⟩
       rw [List.mem_iff_getElem?]
       exact ⟨j, by rw [List.getElem?_take, if_pos (by omega), Yg (by omega)]; exact congrArg some hb.symm⟩) (n - 2) _ w ⟨0, Q2, hQ2, rfl, by omega, rfl, by simp⟩
  obtain ⟨x, h1, h2'⟩ := key
  have g1 : decide (lo ≤ a.toNat) = true := by simp; omega
  have g2 : decide (a.toNat ≤ hi) = true := by simp; omega
  rw [g1, g2, Bool.true_and, Bool.true_and]
  rcases h2' with ⟨rfl, h2'⟩ | ⟨rfl, h2'⟩
  ·rw [h2']
   simp [lgB, hsl, e0, hsh', e1, e2, ix1, cv, l1', l3', h1]
  ·rw [h2']
   simp [lgB, hsl, e0, hsh', e1, e2, ix1, cv, l1', l3', h1]
def lng : List UInt8 → Nat
 | [] => 0
 | c :: r => if c.toNat < 128 then 1 else if signOk (lead c) r = true then wid c else 0
theorem lgA_ok {s : List UInt8} {p n : Nat} {c : UInt8} {r : List UInt8} {N k lo hi : Nat} (hd : s.drop p = c :: r) (hs : s.length ≤ 1000000) (hc : 128 ≤ c.toNat) (hk : lead c = (N, n, k, lo, hi)) (h2 : 2 ≤ n) (h4 : n ≤ 4) (hlo : lo ≤ 255) (hhi : hi ≤ 255) (w : World)
  (hq : ∀ L, lgA C [st s, .int .i64 (p : Int), .int .i64 (c.toNat : Int), .int .i64 (n : Int), .int .i64 128, .int .i64 191] w = L → L = (lgB C [st s, .int .i64 (p : Int), .int .i64 (n : Int), .int .i64 (lo : Int), .int .i64 (hi : Int)] w)) :
  lgA C [st s, .int .i64 (p : Int), .int .i64 (c.toNat : Int), .int .i64 (n : Int), .int .i64 128, .int .i64 191] w = some (.ret [.int .i64 ((lng (c :: r) : Nat) : Int)] w) := by
 rw [hq _ rfl, lgB_ok hd hs h2 h4 hlo hhi w]
 have hc' : ¬ c.toNat < 128 := by omega
 have e : lng (c :: r) = if so n lo hi r = true then n else 0 := by
  rw [lng, if_neg hc']
  have : wid c = n := by simp [wid, hc', hk]
  rw [this]
  unfold signOk
  rw [hk]
 rw [e]
theorem long_ok {s : List UInt8} {p : Nat} {c : UInt8} {r : List UInt8} (hd : s.drop p = c :: r) (hs : s.length ≤ 1000000) (w : World) :
  C 69 #[st s, .int .i64 (p : Int)] w = some (.int .i64 ((lng (c :: r) : Nat) : Int), w) := by
 have hlen : r.length + 1 = s.length - p := by have := congrArg List.length hd; simp at this; omega
 have ix := str_index (P := Zp) Uz s .i64 p (by omega)
 have e0 : s[p]'(by omega) = c := by
  have : (s.drop p)[0]? = (c :: r)[0]? := by rw [hd]
  rw [List.getElem?_drop, Nat.add_zero, Yg (by omega)] at this
  simpa using this
 rw [e0] at ix
 have hb := c.toNat_lt
 have cv := cv5_3c (c.toNat : Int) (by omega) (by omega)
 refine f69.run rfl ?_
 rw [f69.parts]
 by_cases hc : c.toNat < 128
 ·have hc' : (c.toNat : Int) < 128 := by omega
  simp [ix, cv, hc', lng, hc]
 have hc' : ¬ (c.toNat : Int) < 128 := by omega
 have A := fun {N n k lo hi : Nat} (hk : lead c = (N, n, k, lo, hi)) => lgA_ok (N := N) (n := n) (k := k) (lo := lo) (hi := hi) hd hs (by omega) hk
 obtain ⟨V, hV⟩ : ∃ V : Int, V = (c.toNat : Int) := ⟨_, rfl⟩
 rw [← hV] at ix cv hc' A
 obtain ⟨R, hR⟩ : ∃ R : Nat, R = lng (c :: r) := ⟨_, rfl⟩
 rw [← hR] at A ⊢
 rcases lead_cls (show 128 ≤ c.toNat by omega) with ⟨hk, h1, h2⟩ | ⟨hk, h1⟩ | ⟨hk, h1⟩ | ⟨hk, h1⟩ | ⟨hk, h1⟩ | ⟨hk, h1, h2⟩ | ⟨hk, h1⟩ | ⟨hk, h1⟩
 ·have a1 : (194 : Int) ≤ V := by omega
  have a2 : V ≤ 223 := by omega
  have n1 : ¬ V = 224 := by omega
  have n2 : ¬ V = 237 := by omega
  have n3 : ¬ V = 240 := by omega
  have n4 : ¬ V = 244 := by omega
  have B := A hk (by omega) (by omega) (by omega) (by omega) w (by rintro L rfl; simp [lgA, n1, n2, n3, n4]; done)
  simp at B
  simp [ix, cv, hc', a1, a2, B]
 ·have a1 : (194 : Int) ≤ V := by omega
  have a2 : ¬ V ≤ 223 := by omega
  have a3 : (224 : Int) ≤ V := by omega
  have a4 : V ≤ 239 := by omega
  have n1 : V = 224 := by omega
  have B := A hk (by omega) (by omega) (by omega) (by omega) w (by rintro L rfl; simp [lgA, n1]; done)
  simp at B
  simp [ix, cv, hc', a1, a2, a3, a4, B]
 ·have a1 : (194 : Int) ≤ V := by omega
  have a2 : ¬ V ≤ 223 := by omega
  have a3 : (224 : Int) ≤ V := by omega
  have a4 : V ≤ 239 := by omega
  have n1 : ¬ V = 224 := by omega
  have n2 : ¬ V = 237 := by omega
  have n3 : ¬ V = 240 := by omega
  have n4 : ¬ V = 244 := by omega
  have B := A hk (by omega) (by omega) (by omega) (by omega) w (by rintro L rfl; simp [lgA, n1, n2, n3, n4]; done)
  simp at B
  simp [ix, cv, hc', a1, a2, a3, a4, B]
 ·have a1 : (194 : Int) ≤ V := by omega
  have a2 : ¬ V ≤ 223 := by omega
  have a3 : (224 : Int) ≤ V := by omega
  have a4 : V ≤ 239 := by omega
  have n1 : ¬ V = 224 := by omega
  have n2 : V = 237 := by omega
  have B := A hk (by omega) (by omega) (by omega) (by omega) w (by rintro L rfl; simp [lgA, n2]; done)
  simp at B
  simp [ix, cv, hc', a1, a2, a3, a4, B]
 ·have a1 : (194 : Int) ≤ V := by omega
  have a2 : ¬ V ≤ 223 := by omega
  have a3 : (224 : Int) ≤ V := by omega
  have a4 : ¬ V ≤ 239 := by omega
  have a5 : (240 : Int) ≤ V := by omega
  have a6 : V ≤ 244 := by omega
  have n3 : V = 240 := by omega
  have B := A hk (by omega) (by omega) (by omega) (by omega) w (by rintro L rfl; simp [lgA, n3]; done)
  simp at B
  simp [ix, cv, hc', a1, a2, a3, a4, a5, a6, B]
 ·have a1 : (194 : Int) ≤ V := by omega
  have a2 : ¬ V ≤ 223 := by omega
  have a3 : (224 : Int) ≤ V := by omega
  have a4 : ¬ V ≤ 239 := by omega
  have a5 : (240 : Int) ≤ V := by omega
  have a6 : V ≤ 244 := by omega
  have n1 : ¬ V = 224 := by omega
  have n2 : ¬ V = 237 := by omega
  have n3 : ¬ V = 240 := by omega
  have n4 : ¬ V = 244 := by omega
  have B := A hk (by omega) (by omega) (by omega) (by omega) w (by rintro L rfl; simp [lgA, n1, n2, n3, n4]; done)
  simp at B
  simp [ix, cv, hc', a1, a2, a3, a4, a5, a6, B]
 ·have a1 : (194 : Int) ≤ V := by omega
  have a2 : ¬ V ≤ 223 := by omega
  have a3 : (224 : Int) ≤ V := by omega
  have a4 : ¬ V ≤ 239 := by omega
  have a5 : (240 : Int) ≤ V := by omega
  have a6 : V ≤ 244 := by omega
  have n4 : V = 244 := by omega
  have B := A hk (by omega) (by omega) (by omega) (by omega) w (by rintro L rfl; simp [lgA, n4]; done)
  simp at B
  simp [ix, cv, hc', a1, a2, a3, a4, a5, a6, B]
 ·have e : R = 0 := by
   rw [hR, lng, if_neg hc]
   have : signOk (lead c) r = false := by
    unfold signOk
    rw [hk]
    unfold so
    split <;> simp_all
   rw [this]
   rfl
  rw [e]
  by_cases a1 : (194 : Int) ≤ V
  ·have a2 : ¬ V ≤ 223 := by omega
   have a3 : (224 : Int) ≤ V := by omega
   have a4 : ¬ V ≤ 239 := by omega
   have a5 : (240 : Int) ≤ V := by omega
   have a6 : ¬ V ≤ 244 := by omega
   simp [ix, cv, hc', a1, a2, a3, a4, a5, a6]
  ·have a3 : ¬ (224 : Int) ≤ V := by omega
   have a5 : ¬ (240 : Int) ≤ V := by omega
   simp [ix, cv, hc', a1, a3, a5]
theorem lng_pos {c : UInt8} {r : List UInt8} (h : lng (c :: r) ≠ 0) (p : Nat) : bad 0 (c :: r) p = bad 0 ((c :: r).drop (lng (c :: r))) (p + lng (c :: r)) ∧ 1 ≤ lng (c :: r) ∧ lng (c :: r) ≤ r.length + 1 := by
 rw [lng] at h ⊢
 by_cases hc : c.toNat < 128
 ·rw [if_pos hc, bad]
  simp [hc]
 ·rw [if_neg hc] at h ⊢
  cases hk : signOk (lead c) r with
  | false => rw [hk] at h; simp at h
  | true =>
   have hw : wid c = (lead c).2.1 := by simp [wid, hc]
   have hl := so_len hk
   obtain ⟨m, hm⟩ : ∃ m, (lead c).2.1 = m + 1 := ⟨(lead c).2.1 - 1, by omega⟩
   have e : (if true = true then wid c else 0) = m + 1 := by rw [if_pos rfl, hw, hm]
   rw [e, bad]
   simp only [hc, decide_false, cond_false, hk, cond_true]
   rw [hm, List.drop_succ_cons, Nat.add_sub_cancel]
   refine ⟨?_, by omega, by omega⟩
   rw [bad_drop m, show p + 1 + m = p + (m + 1) by omega]
theorem lng_zero {c : UInt8} {r : List UInt8} (h : lng (c :: r) = 0) (p : Nat) : bad 0 (c :: r) p = some p := by
 rw [lng] at h
 by_cases hc : c.toNat < 128
 ·rw [if_pos hc] at h; omega
 ·rw [if_neg hc] at h
  cases hk : signOk (lead c) r with
  | true =>
   rw [hk, if_pos rfl] at h
   have hw : wid c = (lead c).2.1 := by simp [wid, hc]
   have := so_len hk
   omega
  | false =>
   rw [bad]
   simp [hc, hk]
theorem rbad_ok (s : List UInt8) (hs : s.length ≤ 1000000) (w : World) : C 29 #[st s] w = some (.int .i64 (placeOf (bad 0 s 0)), w) := by
 have hsl := fun ty => str_len (P := Zp) Uz ty s
 have key := iter_down (f := f29.l0 C) (fun k vs w1 => ∃ p : Nat, vs = [st s, .int .i64 (p : Int)] ∧ p + k = s.length ∧ w1 = w ∧ bad 0 s 0 = bad 0 (s.drop p) p)
  (fun r => (r = .exit 0 [] w ∧ bad 0 s 0 = none) ∨ (∃ p : Nat, r = .ret [.int .i64 (p : Int)] w ∧ bad 0 s 0 = some p)) (by
   rintro k vs w1 ⟨p, rfl, hp, rfl, ha⟩
   match hd : s.drop p with
   | [] =>
    have : s.length ≤ p := List.drop_eq_nil_iff.mp hd
    have hlt : ¬ (p : Int) < s.length := by omega
    rw [hd] at ha
    exact .inr ⟨_, by simp [f29.l0, hsl, hlt], .inl ⟨rfl, ha⟩, by simp⟩
   | c :: r =>
    have hlen : r.length + 1 = s.length - p := by have := congrArg List.length hd; simp at this; omega
    have hlt : (p : Int) < s.length := by omega
    have L := long_ok hd hs w1
    rw [hd] at ha
    by_cases h0 : lng (c :: r) = 0
    ·rw [h0] at L
     refine .inr ⟨_, by simp [f29.l0, hsl, hlt, L], .inr ⟨p, rfl, by rw [ha]; exact lng_zero h0 p⟩, by simp⟩
    ·obtain ⟨l1, l2, l3⟩ := lng_pos h0 p
     obtain ⟨n, hn⟩ : ∃ n, n = lng (c :: r) := ⟨_, rfl⟩
     rw [← hn] at L l1 l2 l3 h0
     have n0 : ¬ (n : Int) = 0 := by omega
     have e1 : IntKind.i64.wrap ((p : Int) + n) = ((p + n : Nat) : Int) := (wrap_i64 (by omega) (by omega)).trans (by omega)
     refine .inl ⟨k - n, _, w1, by omega, ?_, ⟨p + n, rfl, by omega, rfl, by rw [ha, l1, ← hd, Yd]⟩⟩
     simp [f29.l0, hsl, hlt, L, h0, e1]) s.length _ w ⟨0, rfl, by omega, rfl, by simp⟩
 obtain ⟨x, h1, h2⟩ := key
 refine f29.run rfl ?_
 simp at h1
 rcases h2 with ⟨rfl, h2⟩ | ⟨p, rfl, h2⟩
 ·rw [h2]; simp [f29, h1, placeOf]
 ·rw [h2]; simp [f29, h1, placeOf]
def rwc (a : Int) (t : Bool) (s : List UInt8) (r : Bool) : List Value := [.int .i64 a, .bool t, st s, .bool r]
def rwv (a : Int) (t : Bool) (s : List UInt8) (r : Bool) : Value := .agg #[.int .i64 a, .bool t, st s, .bool r]
theorem rwc_one (a : Int) (t : Bool) (s : List UInt8) (r : Bool) : ∀ u ∈ rwc a t s r, u.oneCell' = true := by
 intro u hu
 simp only [rwc, List.mem_cons, List.not_mem_nil, or_false] at hu
 rcases hu with rfl | rfl | rfl | rfl <;> rfl
theorem alloc74 (w : World) : Eq_ Zp (Za 74 true (.tuple #[])) w = some (.pointer (some ⟨w.heap.size, 0, none⟩), w.alloc (.cells (rwc 0 false [] false).toArray 74)) := id (by kernel_rfl)
theorem build74t (a : Int) : Pq Zp (Zb 74 #[(0, .int .i64 a), (1, .bool true)]) = some (rwv a true [] false) := id (by kernel_rfl)
theorem build74p (a : Int) (s : List UInt8) : Pq Zp (Zb 74 #[(0, .int .i64 a), (2, st s), (3, .bool true)]) = some (rwv a false s true) := id (by kernel_rfl)
theorem put_rw {W w : World} {R : Asn W.heap.size} {b : Nat} {cs : List Value} (s : Sat W (blkA b 74 cs * R) w) (hl : cs.length = 4) (a : Int) (t : Bool) (x : List UInt8) (d : Bool) : ∃ w', Eq_ Zp (Zs 74 (.pointer (some ⟨b, 0, none⟩)) (rwv a t x d)) w = some ((), w') ∧ Sat W (blkA b 74 (rwc a t x d) * R) w' :=
 put_blk s inf74 (cs' := rwc a t x d) rfl (by rw [size74]; rfl) (by rw [hl]; rfl) (rwc_one _ _ _ _)
theorem ld_rw {W w : World} {R : Asn W.heap.size} {b : Nat} {a : Int} {t : Bool} {x : List UInt8} {d : Bool} (s : Sat W (blkA b 74 (rwc a t x d) * R) w) : Rq Zp (Zl 74 (.pointer (some ⟨b, 0, none⟩))) w = some (rwv a t x d) :=
 ld74 (a := ⟨b, 0, none⟩) (by rw [addL]; exact s.cell 0 rfl) (by rw [addL]; exact s.cell 1 rfl) (by rw [addL]; exact s.cell 2 rfl) (by rw [addL]; exact s.cell 3 rfl)
theorem drop_at {s : List UInt8} {p : Nat} {c : UInt8} {r : List UInt8} (h : s.drop p = c :: r) : ∃ hp : p < s.length, s[p] = c ∧ s.drop (p + 1) = r ∧ r.length + 1 = s.length - p := by
 have hlen : r.length + 1 = s.length - p := by have := congrArg List.length h; simp at this; omega
 have hp : p < s.length := by omega
 refine ⟨hp, ?_, ?_, hlen⟩
 ·have : (s.drop p)[0]? = (c :: r)[0]? := by rw [h]
  rw [List.getElem?_drop, Nat.add_zero, Yg hp] at this
  simpa using this
 ·have := congrArg (List.drop 1) h
  rw [Yd] at this
  simpa using this
theorem ix_at {s : List UInt8} {p : Nat} {c : UInt8} {r : List UInt8} (h : s.drop p = c :: r) : Pq Zp (Zi 9 (st s) (.int .i64 (p : Int))) = some (.int .u8 c.toNat) := by
 obtain ⟨hp, e, _, _⟩ := drop_at h
 have ix := str_index (P := Zp) Uz s .i64 p hp
 rw [e] at ix
 exact ix
def rtx : List UInt8 → List UInt8 → Nat → List UInt8 × Bool × Nat
 | [], o, k => (o, false, k)
 | c :: r, o, k =>
  if c = 10 then (o, false, k)
  else if c = 34 then (o, true, k + 1)
  else if c = 92 then match r with
   | [] => (o, false, k)
   | d :: r' => if d = 34 ∨ d = 92 then rtx r' (o ++ [d]) (k + 2) else if d = 110 then rtx r' (o ++ [10]) (k + 2) else (o, false, k)
  else rtx r (o ++ [c]) (k + 1)
theorem rtx_nil (o : List UInt8) (k : Nat) : rtx [] o k = (o, false, k) := by unfold rtx; rfl
theorem rtx_cons (c : UInt8) (r o : List UInt8) (k : Nat) : rtx (c :: r) o k = if c = 10 then (o, false, k)
  else if c = 34 then (o, true, k + 1)
  else if c = 92 then match r with
   | [] => (o, false, k)
   | d :: r' => if d = 34 ∨ d = 92 then rtx r' (o ++ [d]) (k + 2) else if d = 110 then rtx r' (o ++ [10]) (k + 2) else (o, false, k)
  else rtx r (o ++ [c]) (k + 1) := by
 conv => lhs; unfold rtx
section
variable {W : World} {X : Asn W.heap.size}
theorem text_ok {w : World} (x : Sat W X w) (s : List UInt8) (p : Nat) (hp : p < s.length) (hs : s.length ≤ 100000) :
  ∃ w', C 70 #[st s, .int .i64 (p : Int)] w = some (.tuple #[rwv (p : Int) true (rtx (s.drop (p + 1)) [] 0).1 (rtx (s.drop (p + 1)) [] 0).2.1, .int .i64 ((p + 1 + (rtx (s.drop (p + 1)) [] 0).2.2 : Nat) : Int)], w') ∧ Sat W X w' := by
 have hsl := fun ty => str_len (P := Zp) Uz ty s
 have x1 := x.newBlk 74 (rwc 0 false [] false)
 obtain ⟨w1, hw1⟩ : ∃ w1, w1 = w.alloc (.cells (rwc 0 false [] false).toArray 74) := ⟨_, rfl⟩
 have a1 := alloc74 w
 rw [← hw1] at x1 a1
 have x2 := x1.newBlk 74 (rwc 0 false [] false)
 obtain ⟨w2, hw2⟩ : ∃ w2, w2 = w1.alloc (.cells (rwc 0 false [] false).toArray 74) := ⟨_, rfl⟩
 have a2 := alloc74 w1
 rw [← hw2] at x2 a2
 obtain ⟨w3, h3, x3⟩ := put_rw x2 rfl (p : Int) true [] false
 have bq := build74t (p : Int)
 obtain ⟨bV, hbV⟩ : ∃ b, b = w.heap.size := ⟨_, rfl⟩
 obtain ⟨bW, hbW⟩ : ∃ b, b = w1.heap.size := ⟨_, rfl⟩
 rw [← hbV] at x3 a1
 rw [← hbW] at x3 a2 h3
 obtain ⟨T, hT⟩ : ∃ T, T = rtx (s.drop (p + 1)) [] 0 := ⟨_, rfl⟩
 rw [← hT]
 have key := iter_down (f := f70.l0 C) (fun d vs w4 => ∃ (k : Nat) (I : Int) (o : List UInt8), vs = [st s, .pointer (some ⟨bV, 0, none⟩), .pointer (some ⟨bW, 0, none⟩), .int .i64 I] ∧ I = ((p + 1 + k : Nat) : Int) ∧ d + (p + 1 + k) = s.length ∧ o.length ≤ k ∧ Sat W (blkA bW 74 (rwc (p : Int) true o false) * (blkA bV 74 (rwc 0 false [] false) * X)) w4 ∧ rtx (s.drop (p + 1 + k)) o k = T)
  (fun r => (∃ w' I, r = .exit 0 [.pointer (some ⟨bV, 0, none⟩), .pointer (some ⟨bW, 0, none⟩), .int .i64 I] w' ∧ I = ((p + 1 + T.2.2 : Nat) : Int) ∧ T.2.1 = false ∧ Sat W (blkA bW 74 (rwc (p : Int) true T.1 false) * (blkA bV 74 (rwc 0 false [] false) * X)) w') ∨
   (∃ w' I, r = .ret [.pointer (some ⟨bV, 0, none⟩), .int .i64 I] w' ∧ I = ((p + 1 + T.2.2 : Nat) : Int) ∧ Sat W (blkA bV 74 (rwc (p : Int) true T.1 T.2.1) * X) w')) (by
   rintro d vs w4 ⟨k, I, o, rfl, hI, hd, hol, y, hq⟩
   match hl : s.drop (p + 1 + k) with
   | [] =>
    have : s.length ≤ p + 1 + k := List.drop_eq_nil_iff.mp hl
    have hlt : ¬ I < s.length := by omega
    rw [hl, rtx_nil] at hq
    subst hq
    exact .inr ⟨_, by simp [f70.l0, hsl, hlt], .inl ⟨w4, I, rfl, hI, rfl, y⟩, by simp⟩
   | c :: r =>
    obtain ⟨hp1, hc, hdr, hlen⟩ := drop_at hl
    have ix := ix_at hl
    rw [← hI] at ix
    have hlt : I < s.length := by omega
    have hcb := c.toNat_lt
    rw [hl, rtx_cons] at hq
    by_cases c10 : c = 10
    ·rw [if_pos c10] at hq
     subst hq
     have v10 : (c.toNat : Int) = 10 := by rw [c10]; rfl
     exact .inr ⟨_, by simp [f70.l0, hsl, hlt, ix, v10], .inl ⟨w4, I, rfl, hI, rfl, y⟩, by simp⟩
    rw [if_neg c10] at hq
    have v10 : ¬ (c.toNat : Int) = 10 := fun h => c10 ((c_eq (c := c) (n := 10) (by omega)).mp (by omega))
    by_cases c34 : c = 34
    ·rw [if_pos c34] at hq
     subst hq
     have v34 : (c.toNat : Int) = 34 := by rw [c34]; rfl
     have k1 := y.blk.store (P := Zp) (t := 4) (j := 3) (v := .bool true) inf4 size4 (by simp [rwc]) rfl rfl
     have y1 := y.store 3 (.bool true) (cs' := rwc (p : Int) true o true) rfl
     obtain ⟨w5, hw5⟩ : ∃ w5, w5 = w4.setCell ⟨bW, 3, none⟩ (.bool true) := ⟨_, rfl⟩
     rw [← hw5] at k1 y1
     have l1 := ld_rw y1
     obtain ⟨w6, k2, y2⟩ := put_rw (y1.eq (by ac_rfl : _ = blkA bV 74 (rwc 0 false [] false) * (blkA bW 74 (rwc (p : Int) true o true) * X))) rfl (p : Int) true o true
     obtain ⟨J, hJ⟩ : ∃ J : Int, J = ((p + 1 + (k + 1) : Nat) : Int) := ⟨_, rfl⟩
     have e1 : IntKind.i64.wrap (I + 1) = J := (wrap_i64 (by omega) (by omega)).trans (by omega)
     refine .inr ⟨.ret [.pointer (some ⟨bV, 0, none⟩), .int .i64 J] w6, ?_, .inr ⟨w6, J, rfl, hJ, (y2.eq (by ac_rfl : _ = blkA bW 74 (rwc (p : Int) true o true) * (blkA bV 74 (rwc (p : Int) true o true) * X))).right⟩, by simp⟩
     simp [f70.l0, hsl, hlt, ix, v34, addL, k1, l1, e1, k2]
    rw [if_neg c34] at hq
    have v34 : ¬ (c.toNat : Int) = 34 := fun h => c34 ((c_eq (c := c) (n := 34) (by omega)).mp (by omega))
    have l2 := y.cell 2 rfl
    by_cases c92 : c = 92
    ·rw [if_pos c92] at hq
     have v92 : (c.toNat : Int) = 92 := by rw [c92]; rfl
     obtain ⟨J, hJ⟩ : ∃ J : Int, J = ((p + 1 + k + 1 : Nat) : Int) := ⟨_, rfl⟩
     have e1 : IntKind.i64.wrap (I + 1) = J := (wrap_i64 (by omega) (by omega)).trans (by omega)
     match r, hdr, hlen, hq with
     | [], hdr, hlen, hq =>
      simp only at hq
      subst hq
      have hge : (s.length : Int) ≤ J := by simp only [List.length_nil] at hlen; omega
      have l1 := ld_rw y
      obtain ⟨w6, k2, y2⟩ := put_rw (y.eq (by ac_rfl : _ = blkA bV 74 (rwc 0 false [] false) * (blkA bW 74 (rwc (p : Int) true o false) * X))) rfl (p : Int) true o false
      refine .inr ⟨.ret [.pointer (some ⟨bV, 0, none⟩), .int .i64 I] w6, ?_, .inr ⟨w6, I, rfl, hI, (y2.eq (by ac_rfl : _ = blkA bW 74 (rwc (p : Int) true o false) * (blkA bV 74 (rwc (p : Int) true o false) * X))).right⟩, by simp⟩
      simp [f70.l0, hsl, hlt, ix, v92, e1, hge, l1, k2]
     | g :: r', hdr, hlen, hq =>
      simp only [Yc] at hlen
      dsimp only at hq
      have ix2 := ix_at hdr
      rw [← hJ] at ix2
      have hge : ¬ (s.length : Int) ≤ J := by omega
      have hgb := g.toNat_lt
      obtain ⟨J2, hJ2⟩ : ∃ J : Int, J = ((p + 1 + (k + 2) : Nat) : Int) := ⟨_, rfl⟩
      have e2 : IntKind.i64.wrap (I + 2) = J2 := (wrap_i64 (by omega) (by omega)).trans (by omega)
      have sl := str_part (P := Zp) Uz s .i64 .i64 (p + 1 + k + 1) (p + 1 + (k + 2)) (by omega) (by omega)
      have tk : (s.drop (p + 1 + k + 1)).take (p + 1 + (k + 2) - (p + 1 + k + 1)) = [g] := by
       rw [hdr, show p + 1 + (k + 2) - (p + 1 + k + 1) = 1 by omega]
       rfl
      rw [tk, ← hJ, ← hJ2] at sl
      have hdr2 : s.drop (p + 1 + (k + 2)) = r' := by
       obtain ⟨_, _, h, _⟩ := drop_at hdr
       rw [← h, show p + 1 + (k + 2) = p + 1 + k + 1 + 1 by omega]
      by_cases g34 : g = 34 ∨ g = 92
      ·rw [if_pos g34] at hq
       have k1 := y.drew.blk.store (P := Zp) (t := 9) (j := 2) (v := st (o ++ [g])) inf9 size9 (by simp [rwc]) rfl rfl
       have y1 := y.drew.store 2 (st (o ++ [g])) (cs' := rwc (p : Int) true (o ++ [g]) false) rfl
       obtain ⟨w5, hw5⟩ : ∃ w5, w5 = w4.drew.setCell ⟨bW, 2, none⟩ (st (o ++ [g])) := ⟨_, rfl⟩
       rw [← hw5] at k1 y1
       have l2' := y.drew.cell 2 rfl
       have ad := str_add (P := Zp) Uz (.tmp 83) (.tmp 89) o [g] (by simp; omega)
       refine .inl ⟨d - 2, _, w5, by omega, ?_, ⟨k + 2, J2, o ++ [g], rfl, hJ2, by omega, by simp; omega, y1, by rw [hdr2]; exact hq⟩⟩
       have ng : ¬ (g.toNat : Int) = 110 := by rcases g34 with h | h <;> rw [h] <;> decide
       rcases g34 with h | h
       ·have vg : (g.toNat : Int) = 34 := by rw [h]; rfl
        simp [f70.l0, hsl, hlt, ix, v92, e1, hge, ix2, vg, addL, l2, l2', sl, ad, k1, e2]
       ·have vg : (g.toNat : Int) = 92 := by rw [h]; rfl
        simp [f70.l0, hsl, hlt, ix, v92, e1, hge, ix2, vg, addL, l2, l2', sl, ad, k1, e2]
      ·rw [if_neg g34] at hq
       have n34 : ¬ (g.toNat : Int) = 34 := fun h => g34 (.inl ((c_eq (c := g) (n := 34) (by omega)).mp (by omega)))
       have n92 : ¬ (g.toNat : Int) = 92 := fun h => g34 (.inr ((c_eq (c := g) (n := 92) (by omega)).mp (by omega)))
       by_cases g110 : g = 110
       ·rw [if_pos g110] at hq
        have v110 : (g.toNat : Int) = 110 := by rw [g110]; rfl
        have k1 := y.blk.store (P := Zp) (t := 9) (j := 2) (v := st (o ++ [10])) inf9 size9 (by simp [rwc]) rfl rfl
        have y1 := y.store 2 (st (o ++ [10])) (cs' := rwc (p : Int) true (o ++ [10]) false) rfl
        obtain ⟨w5, hw5⟩ : ∃ w5, w5 = w4.setCell ⟨bW, 2, none⟩ (st (o ++ [10])) := ⟨_, rfl⟩
        rw [← hw5] at k1 y1
        have ad : Pq Zp (do eqGuard .add 9 (Ot 79) (Oc (Vs { data := #[10] })) (st o) (Vs { data := #[10] }); binOp .add 9 (st o) (Vs { data := #[10] })) = some (st (o ++ [10])) := str_add (P := Zp) Uz (.tmp 79) (Oc (Vs { data := #[10] })) o [10] (by simp; omega)
        refine .inl ⟨d - 2, _, w5, by omega, ?_, ⟨k + 2, J2, o ++ [10], rfl, hJ2, by omega, by simp; omega, y1, by rw [hdr2]; exact hq⟩⟩
        simp [f70.l0, hsl, hlt, ix, v92, e1, hge, ix2, v110, addL, l2, ad, k1, e2]
       ·rw [if_neg g110] at hq
        subst hq
        have n110 : ¬ (g.toNat : Int) = 110 := fun h => g110 ((c_eq (c := g) (n := 110) (by omega)).mp (by omega))
        have l1 := ld_rw y
        obtain ⟨w6, k2, y2⟩ := put_rw (y.eq (by ac_rfl : _ = blkA bV 74 (rwc 0 false [] false) * (blkA bW 74 (rwc (p : Int) true o false) * X))) rfl (p : Int) true o false
        refine .inr ⟨.ret [.pointer (some ⟨bV, 0, none⟩), .int .i64 I] w6, ?_, .inr ⟨w6, I, rfl, hI, (y2.eq (by ac_rfl : _ = blkA bW 74 (rwc (p : Int) true o false) * (blkA bV 74 (rwc (p : Int) true o false) * X))).right⟩, by simp⟩
        simp [f70.l0, hsl, hlt, ix, v92, e1, hge, ix2, n34, n92, n110, l1, k2]
    ·rw [if_neg c92] at hq
     have v92 : ¬ (c.toNat : Int) = 92 := fun h => c92 ((c_eq (c := c) (n := 92) (by omega)).mp (by omega))
     obtain ⟨J, hJ⟩ : ∃ J : Int, J = ((p + 1 + (k + 1) : Nat) : Int) := ⟨_, rfl⟩
     have e1 : IntKind.i64.wrap (I + 1) = J := (wrap_i64 (by omega) (by omega)).trans (by omega)
     have sl := str_part (P := Zp) Uz s .i64 .i64 (p + 1 + k) (p + 1 + (k + 1)) (by omega) (by omega)
     have tk : (s.drop (p + 1 + k)).take (p + 1 + (k + 1) - (p + 1 + k)) = [c] := by
      rw [hl, show p + 1 + (k + 1) - (p + 1 + k) = 1 by omega]
      rfl
     rw [tk, ← hI, ← hJ] at sl
     have k1 := y.drew.blk.store (P := Zp) (t := 9) (j := 2) (v := st (o ++ [c])) inf9 size9 (by simp [rwc]) rfl rfl
     have y1 := y.drew.store 2 (st (o ++ [c])) (cs' := rwc (p : Int) true (o ++ [c]) false) rfl
     obtain ⟨w5, hw5⟩ : ∃ w5, w5 = w4.drew.setCell ⟨bW, 2, none⟩ (st (o ++ [c])) := ⟨_, rfl⟩
     rw [← hw5] at k1 y1
     have l2' := y.drew.cell 2 rfl
     have ad := str_add (P := Zp) Uz (.tmp 35) (.tmp 40) o [c] (by simp; omega)
     refine .inl ⟨d - 1, _, w5, by omega, ?_, ⟨k + 1, J, o ++ [c], rfl, hJ, by omega, by simp; omega, y1, by rw [show p + 1 + (k + 1) = p + 1 + k + 1 by omega, hdr]; exact hq⟩⟩
     simp [f70.l0, hsl, hlt, ix, v10, v34, v92, e1, addL, l2, l2', sl, ad, k1]) (s.length - (p + 1)) _ w3 ⟨0, _, [], rfl, rfl, by omega, by simp, x3, by simpa using hT.symm⟩
 obtain ⟨res, h1, h2⟩ := key
 have e0 : IntKind.i64.wrap ((p : Int) + 1) = ((p + 1 + 0 : Nat) : Int) := (wrap_i64 (by omega) (by omega)).trans (by omega)
 obtain ⟨I0, hI0⟩ : ∃ I0 : Int, I0 = ((p + 1 + 0 : Nat) : Int) := ⟨_, rfl⟩
 rw [← hI0] at e0 h1
 rcases h2 with ⟨w', I, rfl, hI, hf, y⟩ | ⟨w', I, rfl, hI, y⟩
 ·rw [← hI]
  have l1 := ld_rw y
  obtain ⟨w6, k2, y2⟩ := put_rw (y.eq (by ac_rfl : _ = blkA bV 74 (rwc 0 false [] false) * (blkA bW 74 (rwc (p : Int) true T.1 false) * X))) rfl (p : Int) true T.1 false
  have l2 := ld_rw y2
  refine ⟨w6, f70.run rfl ?_, (y2.right).right⟩
  rw [hf]
  simp [f70, a1, bq, a2, h3, e0, h1, l1, k2, l2]
 ·rw [← hI]
  have l2 := ld_rw y
  refine ⟨w', f70.run rfl ?_, y.right⟩
  simp [f70, a1, bq, a2, h3, e0, h1, l2]
end
theorem lineOf_cons (c : UInt8) (r : List UInt8) : lineOf (c :: r) = if c = 10 then [] else c :: lineOf r := by
 unfold lineOf
 rw [List.takeWhile_cons]
 by_cases h : c = 10
 ·rw [if_pos h]; simp [h]
 ·rw [if_neg h]; simp [h]
theorem rtx_run : ∀ (m : Nat) (l o : List UInt8) (k : Nat), m ≤ l.length → (∀ b ∈ l.take m, b ≠ 10 ∧ b ≠ 34 ∧ b ≠ 92) → rtx l o k = rtx (l.drop m) (o ++ l.take m) (k + m)
 | 0, l, o, k, _, _ => by simp
 | m + 1, [], o, k, h, _ => by simp at h
 | m + 1, c :: r, o, k, h, hb => by
  obtain ⟨h1, h2, h3⟩ := hb c (by simp)
  rw [rtx_cons, if_neg h1, if_neg h2, if_neg h3, rtx_run m r (o ++ [c]) (k + 1) (by simpa using h) (fun b hb' => hb b (by rw [List.take_succ_cons]; exact List.mem_cons_of_mem _ hb'))]
  rw [List.drop_succ_cons, List.take_succ_cons, List.append_assoc, List.singleton_append, show k + 1 + m = k + (m + 1) by omega]
theorem lineOf_run : ∀ (m : Nat) (l : List UInt8), m ≤ l.length → (∀ b ∈ l.take m, b ≠ 10) → lineOf l = l.take m ++ lineOf (l.drop m)
 | 0, l, _, _ => by simp
 | m + 1, [], h, _ => by simp at h
 | m + 1, c :: r, h, hb => by
  have h1 := hb c (by simp)
  rw [lineOf_cons, if_neg h1, lineOf_run m r (by simpa using h) (fun b hb' => hb b (by rw [List.take_succ_cons]; exact List.mem_cons_of_mem _ hb'))]
  rfl
theorem qt_bad : ∀ (l : List UInt8) (k : Nat) (tu : Bool) (o : List UInt8) (p : Nat), qt k l tu true o p = none ∨ ∃ o' p', qt k l tu true o p = some (o', true, p')
 | [], k, tu, o, p => .inl (by simp [qt])
 | c :: r, k + 1, tu, o, p => by rw [qt]; exact qt_bad r k tu o (p + 1)
 | c :: r, 0, true, o, p => by
  rw [qt]
  split
  ·exact qt_bad r 0 false _ _
  ·split
   ·exact qt_bad r 0 false _ _
   ·exact qt_bad r _ false _ _
 | c :: r, 0, false, o, p => by
  rw [qt]
  split
  ·exact qt_bad r 0 true _ _
  ·split
   ·exact .inr ⟨o, p, rfl⟩
   ·exact qt_bad r _ false _ _
theorem rtx_qt : ∀ (n : Nat) (l o : List UInt8) (p : Nat), l.length ≤ n → vs 0 (lineOf l) = true →
  (∃ o' p', qt 0 (lineOf l) false false o p = some (o', false, p') ∧ rtx l o p = (o', true, p' + 1)) ∨
  ((qt 0 (lineOf l) false false o p = none ∨ ∃ o' p', qt 0 (lineOf l) false false o p = some (o', true, p')) ∧ ∃ o' k, rtx l o p = (o', false, k) ∧ k ≤ p + (lineOf l).length)
 | _, [], o, p, _, _ => .inr ⟨.inl (by simp [lineOf, qt]), o, p, rtx_nil o p, by omega⟩
 | 0, c :: r, o, p, hn, _ => by simp at hn
 | n + 1, c :: r, o, p, hn, hv => by
  simp only [Yc] at hn
  rw [lineOf_cons] at hv ⊢
  by_cases c10 : c = 10
  ·rw [if_pos c10, rtx_cons, if_pos c10]
   exact .inr ⟨.inl (by simp [qt]), o, p, rfl, by omega⟩
  rw [if_neg c10] at hv ⊢
  by_cases c34 : c = 34
  ·left
   rw [rtx_cons, if_neg c10, if_pos c34, qt, if_neg (by rw [c34]; decide), if_pos c34]
   exact ⟨o, p, rfl, rfl⟩
  by_cases c92 : c = 92
  ·rw [rtx_cons, if_neg c10, if_neg c34, if_pos c92, qt, if_pos c92]
   have hv1 : vs 0 (lineOf r) = true := by rw [vs_byte _ (by rw [c92]; decide)] at hv; exact hv
   match r, hn, hv1 with
   | [], _, _ => exact .inr ⟨.inl (by simp [lineOf, qt]), o, p, rfl, by omega⟩
   | d :: r', hn, hv1 =>
    simp only [Yc] at hn
    rw [lineOf_cons] at hv1 ⊢
    by_cases d10 : d = 10
    ·rw [if_pos d10]
     refine .inr ⟨.inl (by simp [qt]), o, p, ?_, by omega⟩
     dsimp only
     rw [if_neg (by rw [d10]; decide), if_neg (by rw [d10]; decide)]
    rw [if_neg d10] at hv1 ⊢
    dsimp only
    rw [qt]
    by_cases hd : d = 34 ∨ d = 92
    ·rw [if_pos hd, if_pos hd]
     have hv2 : vs 0 (lineOf r') = true := by rw [vs_byte _ (by rcases hd with h | h <;> rw [h] <;> decide)] at hv1; exact hv1
     rcases rtx_qt n r' (o ++ [d]) (p + 2) (by omega) hv2 with ⟨a, b, e1, e2⟩ | ⟨e1, a, b, e2, e3⟩
     ·exact .inl ⟨a, b, e1, e2⟩
     ·exact .inr ⟨e1, a, b, e2, by simp only [Yc]; omega⟩
    rw [if_neg hd, if_neg hd]
    by_cases h110 : d = 110
    ·rw [if_pos h110, if_pos h110]
     have hv2 : vs 0 (lineOf r') = true := by rw [vs_byte _ (by rw [h110]; decide)] at hv1; exact hv1
     rcases rtx_qt n r' (o ++ [10]) (p + 2) (by omega) hv2 with ⟨a, b, e1, e2⟩ | ⟨e1, a, b, e2, e3⟩
     ·exact .inl ⟨a, b, e1, e2⟩
     ·exact .inr ⟨e1, a, b, e2, by simp only [Yc]; omega⟩
    rw [if_neg h110, if_neg h110]
    exact .inr ⟨qt_bad _ _ _ _ _, o, p, rfl, by omega⟩
  ·obtain ⟨R, e1, e2, e3, e4, e5, e6, e7, e8, e9⟩ := sign_at hv
   have hpre : ∃ t, c :: r = (c :: lineOf r) ++ t := by
    rcases lineOf_cut r with h | ⟨t, h⟩
    ·exact ⟨[], by rw [h]; simp⟩
    ·exact ⟨10 :: t, by rw [List.cons_append, ← h]⟩
   obtain ⟨t, ht⟩ := hpre
   have htk : (c :: r).take (wid c) = (c :: lineOf r).take (wid c) := by
    conv => lhs; rw [ht]
    exact List.take_append_of_le_length (by simpa using e8)
   have hall : ∀ b ∈ (c :: r).take (wid c), b ≠ 10 ∧ b ≠ 34 ∧ b ≠ 92 := by
    intro b hb
    by_cases hc : c.toNat < 128
    ·have : wid c = 1 := by simp [wid, hc]
     rw [this] at hb
     simp at hb
     subst hb
     exact ⟨c10, c34, c92⟩
    ·rw [htk, ← e2] at hb
     have := enc_all (e6 (by omega)) e3 b hb
     refine ⟨?_, ?_, ?_⟩ <;> (intro h; rw [h] at this; revert this; decide)
   have hwl : wid c ≤ (c :: r).length := by
    have : (lineOf r).length ≤ r.length := by
     rcases lineOf_cut r with h | ⟨t, h⟩
     ·rw [h]; omega
     ·have := congrArg List.length h; simp at this; omega
    simp only [Yc]
    omega
   rw [rtx_run (wid c) (c :: r) o p hwl hall]
   have hln := lineOf_run (wid c) (c :: r) hwl (fun b hb => (hall b hb).1)
   rw [lineOf_cons, if_neg c10] at hln
   have hdl : (c :: lineOf r).drop (wid c) = lineOf ((c :: r).drop (wid c)) := by
    rw [hln, List.drop_left' (by rw [List.length_take]; omega)]
   rw [qt, if_neg c92, if_neg c34, qt_drop]
   have hw1 : wid c = (wid c - 1) + 1 := by omega
   have hd2 : (lineOf r).drop (wid c - 1) = (c :: lineOf r).drop (wid c) := by conv => rhs; rw [hw1, List.drop_succ_cons]
   rw [hd2, hdl, ← htk, show p + 1 + (wid c - 1) = p + wid c by omega]
   have hv2 : vs 0 (lineOf ((c :: r).drop (wid c))) = true := by rw [← hdl]; exact e9
   rcases rtx_qt n ((c :: r).drop (wid c)) (o ++ (c :: r).take (wid c)) (p + wid c) (by rw [Ye]; simp only [Yc]; omega) hv2 with ⟨a, b, f1, f2⟩ | ⟨f1, a, b, f2, f3⟩
   ·exact .inl ⟨a, b, f1, f2⟩
   ·refine .inr ⟨f1, a, b, f2, ?_⟩
    have := congrArg List.length hln
    simp only [Ya, List.length_take, Yc] at this ⊢
    simp only [Yc] at hwl
    omega
theorem rtx_txt {l : List UInt8} (hv : vs 0 (lineOf l) = true) :
  ((txt (lineOf l)).2.1 = false ∧ rtx l [] 0 = ((txt (lineOf l)).1, true, (txt (lineOf l)).2.2 - 1) ∧ 2 ≤ (txt (lineOf l)).2.2) ∨
  ((txt (lineOf l)).2.1 = true ∧ ∃ o k, rtx l [] 0 = (o, false, k) ∧ k ≤ (lineOf l).length) := by
 unfold txt
 rcases rtx_qt l.length l [] 0 (Nat.le_refl _) hv with ⟨o, p, h1, h2⟩ | ⟨h1 | ⟨o, p, h1⟩, o', k, h2, h3⟩
 ·left
  rw [h1]
  exact ⟨rfl, by rw [h2]; simp, by simp⟩
 ·right
  rw [h1]
  exact ⟨rfl, o', k, h2, by omega⟩
 ·right
  rw [h1]
  exact ⟨rfl, o', k, h2, by omega⟩
theorem rtx_len : ∀ (n : Nat) (l o : List UInt8) (k : Nat), l.length ≤ n → k ≤ (rtx l o k).2.2 ∧ (rtx l o k).2.2 ≤ k + (lineOf l).length ∧ (rtx l o k).1.length ≤ o.length + (lineOf l).length
 | _, [], o, k, _ => by rw [rtx_nil]; simp
 | 0, c :: r, o, k, hn => by simp at hn
 | n + 1, c :: r, o, k, hn => by
  simp only [Yc] at hn
  rw [rtx_cons, lineOf_cons]
  by_cases c10 : c = 10
  ·rw [if_pos c10]; simp
  rw [if_neg c10, if_neg c10]
  by_cases c34 : c = 34
  ·rw [if_pos c34]; simp
  rw [if_neg c34]
  by_cases c92 : c = 92
  ·rw [if_pos c92]
   match r, hn with
   | [], _ => simp
   | d :: r', hn =>
    simp only [Yc] at hn
    dsimp only
    rw [lineOf_cons]
    by_cases hd : d = 34 ∨ d = 92
    ·have d10 : d ≠ 10 := by rcases hd with h | h <;> rw [h] <;> decide
     rw [if_pos hd, if_neg d10]
     have := rtx_len n r' (o ++ [d]) (k + 2) (by omega)
     simp only [Yc, Ya, List.length_nil] at this ⊢
     omega
    rw [if_neg hd]
    by_cases h110 : d = 110
    ·rw [if_pos h110, if_neg (by rw [h110]; decide)]
     have := rtx_len n r' (o ++ [10]) (k + 2) (by omega)
     simp only [Yc, Ya, List.length_nil] at this ⊢
     omega
    rw [if_neg h110]
    simp
  ·rw [if_neg c92]
   have := rtx_len n r (o ++ [c]) (k + 1) (by omega)
   simp only [Yc, Ya, List.length_nil] at this ⊢
   omega
theorem lineOf_drop : ∀ (m : Nat) (l : List UInt8), m ≤ (lineOf l).length → lineOf (l.drop m) = (lineOf l).drop m
 | 0, l, _ => by simp
 | m + 1, [], h => by simp [lineOf] at h
 | m + 1, c :: r, h => by
  rw [lineOf_cons] at h ⊢
  by_cases c10 : c = 10
  ·rw [if_pos c10] at h; simp at h
  ·rw [if_neg c10] at h ⊢
   rw [List.drop_succ_cons, List.drop_succ_cons]
   exact lineOf_drop m r (by simpa using h)
def pl : List UInt8 → Nat
 | [] => 0
 | c :: r => if c = 10 ∨ isB c = true then 0 else pl r + 1
theorem pl_le : ∀ (l : List UInt8), pl l ≤ (lineOf l).length
 | [] => by simp [pl]
 | c :: r => by
  rw [pl, lineOf_cons]
  by_cases c10 : c = 10
  ·simp [c10]
  by_cases hb : isB c = true
  ·simp [hb]
  ·rw [if_neg (by simp [c10, hb]), if_neg c10]
   have := pl_le r
   simp only [Yc]
   omega
theorem pl_plain : ∀ (l : List UInt8), plainN (lineOf l) = pl l
 | [] => by simp [pl, lineOf, plainN]
 | c :: r => by
  have ih := pl_plain r
  rw [pl, lineOf_cons]
  by_cases c10 : c = 10
  ·simp [c10, plainN]
  rw [if_neg c10]
  by_cases hb : isB c = true
  ·rw [if_pos (.inr hb)]
   simp [plainN, List.findIdx?_cons, hb]
  ·rw [if_neg (by simp [c10, hb]), ← ih]
   have hb' : isB c = false := by simpa using hb
   unfold plainN
   rw [List.findIdx?_cons, hb']
   cases (lineOf r).findIdx? isB <;> simp
def rds : Nat → Nat → List UInt8 → List Wd → List Wd × Nat
 | 0, p, _, acc => (acc, p)
 | _ + 1, p, [], acc => (acc, p)
 | n + 1, p, c :: r, acc =>
  if c = 10 then (acc, p)
  else if isB c = true then rds n (p + 1) r acc
  else if c = 35 then (acc, p)
  else if c = 34 then
   if (rtx r [] 0).2.1 = true then rds n (p + 1 + (rtx r [] 0).2.2) (r.drop (rtx r [] 0).2.2) (acc ++ [⟨p, (rtx r [] 0).1, true, false⟩])
   else (acc ++ [⟨p, (rtx r [] 0).1, true, true⟩], p + (lineOf (c :: r)).length)
  else rds n (p + pl (c :: r)) ((c :: r).drop (pl (c :: r))) (acc ++ [⟨p, (c :: r).take (pl (c :: r)), false, false⟩])
def Wd.rcs (x : Wd) : List Value := rwc (x.a : Int) x.t x.s (!x.b)
def rwcs (l : List Wd) : List Value := l.flatMap Wd.rcs
theorem rwcs_add (l : List Wd) (x : Wd) : rwcs (l ++ [x]) = rwcs l ++ rwc (x.a : Int) x.t x.s (!x.b) := by simp [rwcs, Wd.rcs]
theorem bs70 (a : Int) (t : Bool) (s : List UInt8) (d : Bool) (w : World) : Eq_ Zp (Instr.buildSlice 70 1 #[(0, rwv a t s d)]) w = some (.slice (some ⟨w.heap.size, 0, none⟩) 1 1, w.alloc (.cells (rwc a t s d).toArray 74)) := id (by kernel_rfl)
theorem isB_val {c : UInt8} : isB c = true ↔ (c.toNat : Int) = 32 ∨ (c.toNat : Int) = 9 := by
 have hb := c.toNat_lt
 constructor
 ·intro h
  have hc : c = 32 ∨ c = 9 := by simpa [isB] using h
  rcases hc with h | h <;> rw [h] <;> decide
 ·rintro (h | h)
  ·have := (c_eq (c := c) (n := 32) (by omega)).mp (by omega)
   rw [this]; rfl
  ·have := (c_eq (c := c) (n := 9) (by omega)).mp (by omega)
   rw [this]; rfl
theorem inner30 {s : List UInt8} (hs : s.length ≤ 100000) (v e f : Value) (w : World) : ∀ (l : List UInt8) (p : Nat) (I : Int), I = (p : Int) → s.drop p = l → p ≤ s.length →
  ∃ J : Int, J = ((p + pl l : Nat) : Int) ∧ iter (f30.l0 C) [st s, v, .int .i64 I, e, f] w = some (.exit 2 [st s, v, .int .i64 J, e, f] w) := by
 intro l p I hI hl hp
 have hsl := fun ty => str_len (P := Zp) Uz ty s
 have key := iter_down (f := f30.l0 C) (fun d vs w1 => ∃ (q : Nat) (Q : Int), Q = (q : Int) ∧ vs = [st s, v, .int .i64 Q, e, f] ∧ d + q = s.length ∧ w1 = w ∧ q + pl (s.drop q) = p + pl l)
  (fun r => ∃ J : Int, J = ((p + pl l : Nat) : Int) ∧ r = .exit 2 [st s, v, .int .i64 J, e, f] w) (by
   rintro d vs w1 ⟨q, Q, hQ, rfl, hd, rfl, hpl⟩
   match hq : s.drop q with
   | [] =>
    have : s.length ≤ q := List.drop_eq_nil_iff.mp hq
    have hlt : ¬ Q < s.length := by omega
    rw [hq, pl] at hpl
    exact .inr ⟨.exit 2 [st s, v, .int .i64 Q, e, f] w1, by simp [f30.l0, hsl, hlt], ⟨Q, by omega, rfl⟩, by simp⟩
   | c :: r =>
    obtain ⟨hp1, hc, hdr, hlen⟩ := drop_at hq
    have ix := ix_at hq
    rw [← hQ] at ix
    have hlt : Q < s.length := by omega
    rw [hq, pl] at hpl
    by_cases c10 : c = 10
    ·rw [if_pos (.inl c10)] at hpl
     have v10 : (c.toNat : Int) = 10 := by rw [c10]; rfl
     exact .inr ⟨.exit 2 [st s, v, .int .i64 Q, e, f] w1, by simp [f30.l0, hsl, hlt, ix, v10], ⟨Q, by omega, rfl⟩, by simp⟩
    have hcb := c.toNat_lt
    have v10 : ¬ (c.toNat : Int) = 10 := fun h => c10 ((c_eq (c := c) (n := 10) (by omega)).mp (by omega))
    by_cases hb : isB c = true
    ·rw [if_pos (.inr hb)] at hpl
     rcases isB_val.mp hb with v32 | v9
     ·exact .inr ⟨.exit 2 [st s, v, .int .i64 Q, e, f] w1, by simp [f30.l0, hsl, hlt, ix, v32], ⟨Q, by omega, rfl⟩, by simp⟩
     ·exact .inr ⟨.exit 2 [st s, v, .int .i64 Q, e, f] w1, by simp [f30.l0, hsl, hlt, ix, v9], ⟨Q, by omega, rfl⟩, by simp⟩
    ·rw [if_neg (by simp [c10, hb])] at hpl
     have hb' := mt isB_val.mpr hb
     simp only [not_or] at hb'
     obtain ⟨Q2, hQ2⟩ : ∃ x : Int, x = ((q + 1 : Nat) : Int) := ⟨_, rfl⟩
     have e1 : IntKind.i64.wrap (Q + 1) = Q2 := (wrap_i64 (by omega) (by omega)).trans (by omega)
     refine .inl ⟨d - 1, _, w1, by omega, ?_, ⟨q + 1, Q2, hQ2, rfl, by omega, rfl, by rw [hdr]; omega⟩⟩
     simp [f30.l0, hsl, hlt, ix, v10, hb'.1, hb'.2, e1]) (s.length - p) _ w ⟨p, I, hI, rfl, by omega, rfl, by rw [hl]⟩
 obtain ⟨res, h1, J, hJ, rfl⟩ := key
 exact ⟨J, hJ, h1⟩
section
variable {W : World} {X : Asn W.heap.size}
theorem l_round {w : World} {s : List UInt8} {p n : Nat} {I : Int} {v : Value} {acc : List Wd} (hs : s.length ≤ 100000) (hI : I = (p : Int)) (hp : p ≤ s.length) (hacc : acc.length ≤ p) (hn : s.length < p + n + 1) (x : Sat W (rowA 74 4 v acc.length (rwcs acc) * X) w) :
  (∃ (v' : Value) (acc' : List Wd) (p' : Nat) (J : Int) (w' : World), f30.l1 C [st s, v, .int .i64 I, .int .i64 (-1)] w = some (.norm [st s, v', .int .i64 J, .int .i64 (-1)] w') ∧ J = (p' : Int) ∧ Sat W (rowA 74 4 v' acc'.length (rwcs acc') * X) w' ∧ p < p' ∧ p' ≤ s.length ∧ acc'.length ≤ p' ∧ p' + (lineOf (s.drop p')).length = p + (lineOf (s.drop p)).length ∧ rds (n + 1) p (s.drop p) acc = rds n p' (s.drop p') acc') ∨
  (∃ (v' : Value) (acc' : List Wd) (e p' : Nat) (J E : Int) (w' : World), f30.l1 C [st s, v, .int .i64 I, .int .i64 (-1)] w = some (.exit 0 [st s, v', .int .i64 J, .int .i64 E] w') ∧ J = (p' : Int) ∧ (E = (e : Int) ∨ (E = -1 ∧ e = p + (lineOf (s.drop p)).length)) ∧ p' ≤ s.length ∧ Sat W (rowA 74 4 v' acc'.length (rwcs acc') * X) w' ∧ p' + (lineOf (s.drop p')).length = p + (lineOf (s.drop p)).length ∧ rds (n + 1) p (s.drop p) acc = (acc', e)) := by
 have hsl := fun ty => str_len (P := Zp) Uz ty s
 match hl : s.drop p with
 | [] =>
  have : s.length ≤ p := List.drop_eq_nil_iff.mp hl
  have hlt : ¬ I < s.length := by omega
  right
  refine ⟨v, acc, p, p, I, -1, w, by simp [f30.l1, hsl, hlt], hI, .inr ⟨rfl, by simp [lineOf]⟩, hp, x, by rw [hl], by rw [rds]⟩
 | c :: r =>
  obtain ⟨hp1, hc, hdr, hlen⟩ := drop_at hl
  have ix := ix_at hl
  rw [← hI] at ix
  have hlt : I < s.length := by omega
  have hcb := c.toNat_lt
  rw [rds]
  by_cases c10 : c = 10
  ·right
   have v10 : (c.toNat : Int) = 10 := by rw [c10]; rfl
   rw [if_pos c10]
   exact ⟨v, acc, p, p, I, -1, w, by simp [f30.l1, hsl, hlt, ix, v10], hI, .inr ⟨rfl, by rw [lineOf_cons, if_pos c10]; simp⟩, hp, x, by rw [hl], rfl⟩
  rw [if_neg c10]
  have v10 : ¬ (c.toNat : Int) = 10 := fun h => c10 ((c_eq (c := c) (n := 10) (by omega)).mp (by omega))
  have hlo : (lineOf (c :: r)).length = (lineOf r).length + 1 := by rw [lineOf_cons, if_neg c10]; rfl
  by_cases hb : isB c = true
  ·left
   rw [if_pos hb]
   obtain ⟨J, hJ⟩ : ∃ x : Int, x = ((p + 1 : Nat) : Int) := ⟨_, rfl⟩
   have e1 : IntKind.i64.wrap (I + 1) = J := (wrap_i64 (by omega) (by omega)).trans (by omega)
   refine ⟨v, acc, p + 1, J, w, ?_, hJ, x, by omega, by omega, by omega, by rw [hdr, hlo]; omega, by rw [hdr]⟩
   rcases isB_val.mp hb with v32 | v9
   ·simp [f30.l1, hsl, hlt, ix, v32, e1]
   ·simp [f30.l1, hsl, hlt, ix, v9, e1]
  rw [if_neg hb]
  have hb' := mt isB_val.mpr hb
  simp only [not_or] at hb'
  by_cases c35 : c = 35
  ·right
   rw [if_pos c35]
   have v35 : (c.toNat : Int) = 35 := by rw [c35]; rfl
   exact ⟨v, acc, p, p, I, I, w, by simp [f30.l1, hsl, hlt, ix, v35, Res.unblock, Res.cont], hI, .inl hI, hp, x, by rw [hl], rfl⟩
  rw [if_neg c35]
  have v35 : ¬ (c.toNat : Int) = 35 := fun h => c35 ((c_eq (c := c) (n := 35) (by omega)).mp (by omega))
  by_cases c34 : c = 34
  ·rw [if_pos c34]
   have v34 : (c.toNat : Int) = 34 := by rw [c34]; rfl
   obtain ⟨w1, k1, x1⟩ := text_ok x s p hp1 hs
   rw [hdr] at k1
   obtain ⟨tl1, tl2, _⟩ := rtx_len r.length r [] 0 (Nat.le_refl _)
   obtain ⟨o, ri, k, hT⟩ : ∃ o ri k, rtx r [] 0 = (o, ri, k) := ⟨_, _, _, rfl⟩
   rw [hT] at k1 tl1 tl2 ⊢
   simp only at k1 tl1 tl2 ⊢
   rw [← hI] at k1
   obtain ⟨J, hJ⟩ : ∃ x : Int, x = ((p + 1 + k : Nat) : Int) := ⟨_, rfl⟩
   rw [← hJ] at k1
   have x2 := x1.newBlk 74 (rwc 0 false [] false)
   have a2 := alloc74 w1
   obtain ⟨w2, hw2⟩ : ∃ w2, w2 = w1.alloc (.cells (rwc 0 false [] false).toArray 74) := ⟨_, rfl⟩
   rw [← hw2] at x2 a2
   obtain ⟨w3, h3, x3⟩ := put_rw x2 rfl I true o ri
   have l3 := ld_rw x3
   have b5 := bs70 I true o ri w3
   obtain ⟨v', w5, h5, x5⟩ := (x3.eq (by ac_rfl : _ = rowA 74 4 v acc.length (rwcs acc) * (blkA w1.heap.size 74 (rwc I true o ri) * X))).push (ty := 70) (P := Zp) Tryz.underlying70 inf74 zero74 size74 bytes74 rfl (by decide) (news := rwc I true o ri) rfl (rwc_one _ _ _ _) (by simp [maxLen]; omega) (by omega)
   have x6 : Sat W (blkA w1.heap.size 74 (rwc I true o ri) * (rowA 74 4 v' (acc.length + 1) (rwcs acc ++ rwc I true o ri) * X)) w5 := x5.eq (by ac_rfl)
   have l6 := x6.cell 3 rfl
   have lineLe : (lineOf r).length ≤ r.length := by
    rcases lineOf_cut r with h | ⟨t, h⟩
    ·rw [h]; omega
    ·have := congrArg List.length h; simp at this; omega
   have hdk : s.drop (p + 1 + k) = r.drop k := by rw [← hdr, Yd]
   have hinv : p + 1 + k + (lineOf (s.drop (p + 1 + k))).length = p + (lineOf (c :: r)).length := by
    rw [hdk, lineOf_drop k r (by omega), Ye, hlo]
    omega
   cases ri with
   | true =>
    left
    rw [if_pos rfl]
    refine ⟨v', acc ++ [⟨p, o, true, false⟩], p + 1 + k, J, w5, ?_, hJ, ?_, by omega, by omega, by simp; omega, hinv, by rw [hdk]⟩
    ·simp [f30.l1, hsl, hlt, ix, v34, k1, a2, h3, l3, b5, h5, addL, l6, Res.unblock, Res.cont]
    ·rw [Ya, rwcs_add, ← hI]; exact x6.right
   | false =>
    right
    rw [if_neg (by decide)]
    refine ⟨v', acc ++ [⟨p, o, true, true⟩], p + (lineOf (c :: r)).length, p + 1 + k, J, -1, w5, ?_, hJ, .inr ⟨rfl, rfl⟩, by omega, ?_, hinv, rfl⟩
    ·simp [f30.l1, hsl, hlt, ix, v34, k1, a2, h3, l3, b5, h5, addL, l6, Res.unblock, Res.cont]
    ·rw [Ya, rwcs_add, ← hI]; exact x6.right
  ·rw [if_neg c34]
   left
   have v34 : ¬ (c.toNat : Int) = 34 := fun h => c34 ((c_eq (c := c) (n := 34) (by omega)).mp (by omega))
   obtain ⟨J, hJ, hin⟩ := inner30 hs v (.int .i64 (-1)) (.int .i64 I) w (c :: r) p I hI hl hp
   have pl1 : 1 ≤ pl (c :: r) := by rw [pl, if_neg (by simp [c10, hb])]; omega
   have pl2 := pl_le (c :: r)
   obtain ⟨k, hk⟩ : ∃ k, k = pl (c :: r) := ⟨_, rfl⟩
   rw [← hk] at hJ pl1 pl2 ⊢
   have lineLe : (lineOf (c :: r)).length ≤ r.length + 1 := by
    rcases lineOf_cut (c :: r) with h | ⟨t, h⟩
    ·rw [h]; simp
    ·have := congrArg List.length h; simp at this; omega
   have sl := str_part (P := Zp) Uz s .i64 .i64 p (p + k) (by omega) (by omega)
   have tk : (s.drop p).take (p + k - p) = (c :: r).take k := by rw [hl, show p + k - p = k by omega]
   rw [tk, ← hI, ← hJ] at sl
   have bp := build74p I ((c :: r).take k)
   have b5 := bs70 I false ((c :: r).take k) true w
   obtain ⟨v', w5, h5, x5⟩ := x.push (ty := 70) (P := Zp) Tryz.underlying70 inf74 zero74 size74 bytes74 rfl (by decide) (news := rwc I false ((c :: r).take k) true) rfl (rwc_one _ _ _ _) (by simp [maxLen]; omega) (by omega)
   have hdk : s.drop (p + k) = (c :: r).drop k := by rw [← hl, Yd]
   refine ⟨v', acc ++ [⟨p, (c :: r).take k, false, false⟩], p + k, J, w5, ?_, hJ, ?_, by omega, by omega, by simp; omega, ?_, by rw [hdk]⟩
   ·obtain ⟨t, ht⟩ : ∃ t, t = (c :: r).take k := ⟨_, rfl⟩
    rw [← ht] at sl bp b5 h5
    simp [f30.l1, hsl, hlt, ix, v10, hb'.1, hb'.2, v35, v34, hin, sl, bp, b5, h5]
   ·rw [Ya, rwcs_add, ← hI]; exact x5
   ·rw [hdk, lineOf_drop k (c :: r) pl2, Ye]
    omega
end
theorem lineOf_le (l : List UInt8) : (lineOf l).length ≤ l.length := by
 rcases lineOf_cut l with h | ⟨t, h⟩
 ·rw [h]; omega
 ·have := congrArg List.length h; simp at this; omega
theorem lineOf_take (l : List UInt8) (m : Nat) (h : m ≤ (lineOf l).length) : (lineOf l).take m = l.take m := by
 rcases lineOf_cut l with h1 | ⟨t, h1⟩
 ·rw [h1]
 ·conv => rhs; rw [h1]
  rw [List.take_append_of_le_length h]
section
variable {W : World} {X : Asn W.heap.size}
theorem rline_ok {w : World} (x : Sat W X w) (s : List UInt8) (p : Nat) (hp : p ≤ s.length) (hs : s.length ≤ 100000) :
  ∃ B c w', C 30 #[st s, .int .i64 (p : Int)] w = some (.tuple #[.slice B (rds (s.length + 1) p (s.drop p) []).1.length c, .int .i64 ((rds (s.length + 1) p (s.drop p) []).2 : Int), .int .i64 ((p + (lineOf (s.drop p)).length + 1 : Nat) : Int)], w') ∧
   Sat W (rowA 74 4 (.slice B (rds (s.length + 1) p (s.drop p) []).1.length c) (rds (s.length + 1) p (s.drop p) []).1.length (rwcs (rds (s.length + 1) p (s.drop p) []).1) * X) w' ∧ (rds (s.length + 1) p (s.drop p) []).1.length ≤ c := by
 have hsl := fun ty => str_len (P := Zp) Uz ty s
 obtain ⟨T, hT⟩ : ∃ T, T = rds (s.length + 1) p (s.drop p) [] := ⟨_, rfl⟩
 rw [← hT]
 obtain ⟨EN, hEN⟩ : ∃ EN, EN = p + (lineOf (s.drop p)).length := ⟨_, rfl⟩
 have hEl : EN ≤ s.length := by
  have := lineOf_le (s.drop p)
  rw [Ye] at this
  omega
 rw [← hEN]
 have key := iter_down (f := f30.l1 C) (fun d vs w1 => ∃ (q : Nat) (Q : Int) (v : Value) (acc : List Wd), Q = (q : Int) ∧ vs = [st s, v, .int .i64 Q, .int .i64 (-1)] ∧ q ≤ s.length ∧ s.length < q + d ∧ acc.length ≤ q ∧ Sat W (rowA 74 4 v acc.length (rwcs acc) * X) w1 ∧ q + (lineOf (s.drop q)).length = EN ∧ rds d q (s.drop q) acc = T)
  (fun r => ∃ (v' : Value) (q : Nat) (Q E : Int) (w' : World), r = .exit 0 [st s, v', .int .i64 Q, .int .i64 E] w' ∧ Q = (q : Int) ∧ (E = (T.2 : Int) ∨ (E = -1 ∧ T.2 = EN)) ∧ q ≤ s.length ∧ Sat W (rowA 74 4 v' T.1.length (rwcs T.1) * X) w' ∧ q + (lineOf (s.drop q)).length = EN) (by
   rintro d vs w1 ⟨q, Q, v, acc, hQ, rfl, hq, hd, hacc, y, hE, hr⟩
   obtain ⟨n, rfl⟩ : ∃ n, d = n + 1 := ⟨d - 1, by omega⟩
   rcases l_round (n := n) hs hQ hq hacc (by omega) y with ⟨v', acc', p', J, w', k1, k2, k3, k4, k5, k6, k7, k8⟩ | ⟨v', acc', e, p', J, E, w', k1, k2, k3, k4, k5, k6, k7⟩
   ·exact .inl ⟨n, _, w', by omega, k1, ⟨p', J, v', acc', k2, rfl, k5, by omega, k6, k3, by omega, by rw [← k8]; exact hr⟩⟩
   ·rw [k7] at hr
    subst hr
    refine .inr ⟨_, k1, ⟨v', p', J, E, w', rfl, k2, ?_, k4, k5, by omega⟩, by simp⟩
    rcases k3 with h | ⟨h1, h2⟩
    ·exact .inl h
    ·exact .inr ⟨h1, by simp only; omega⟩) (s.length + 1) _ w ⟨p, (p : Int), .slice none 0 0, [], rfl, rfl, hp, by omega, by simp, x.nilRow 74 4, hEN.symm, hT.symm⟩
 obtain ⟨r1, i1, v1, q1, Q1, E1, w1, rfl, hQ1, hE1, hq1, x1, hl1⟩ := key
 have key2 := iter_down (f := f30.l2 C) (fun d vs w2 => ∃ (q : Nat) (Q : Int), Q = (q : Int) ∧ vs = [st s, v1, .int .i64 Q, .int .i64 E1] ∧ q ≤ s.length ∧ q + d = s.length ∧ w2 = w1 ∧ q + (lineOf (s.drop q)).length = EN)
  (fun r => ∃ Q : Int, Q = (EN : Int) ∧ r = .exit 4 [v1, .int .i64 Q, .int .i64 E1] w1) (by
   rintro d vs w2 ⟨q, Q, hQ, rfl, hq, hd, rfl, hl⟩
   match hqd : s.drop q with
   | [] =>
    have : s.length ≤ q := List.drop_eq_nil_iff.mp hqd
    have hlt : ¬ Q < s.length := by omega
    rw [hqd] at hl
    simp [lineOf] at hl
    exact .inr ⟨.exit 4 [v1, .int .i64 Q, .int .i64 E1] w2, by simp [f30.l2, hsl, hlt], ⟨Q, by omega, rfl⟩, by simp⟩
   | c :: r =>
    obtain ⟨hp1, hc, hdr, hlen⟩ := drop_at hqd
    have ix := ix_at hqd
    rw [← hQ] at ix
    have hlt : Q < s.length := by omega
    rw [hqd, lineOf_cons] at hl
    by_cases c10 : c = 10
    ·rw [if_pos c10] at hl
     simp at hl
     have v10 : (c.toNat : Int) = 10 := by rw [c10]; rfl
     exact .inr ⟨.exit 4 [v1, .int .i64 Q, .int .i64 E1] w2, by simp [f30.l2, hsl, hlt, ix, v10], ⟨Q, by omega, rfl⟩, by simp⟩
    rw [if_neg c10] at hl
    simp only [Yc] at hl
    have hcb := c.toNat_lt
    have v10 : ¬ (c.toNat : Int) = 10 := fun h => c10 ((c_eq (c := c) (n := 10) (by omega)).mp (by omega))
    obtain ⟨J, hJ⟩ : ∃ x : Int, x = ((q + 1 : Nat) : Int) := ⟨_, rfl⟩
    have e1 : IntKind.i64.wrap (Q + 1) = J := (wrap_i64 (by omega) (by omega)).trans (by omega)
    refine .inl ⟨d - 1, _, w2, by omega, ?_, ⟨q + 1, J, hJ, rfl, by omega, by omega, rfl, by rw [hdr]; omega⟩⟩
    simp [f30.l2, hsl, hlt, ix, v10, e1]) (s.length - q1) _ w1 ⟨q1, Q1, hQ1, rfl, hq1, by omega, rfl, hl1⟩
 obtain ⟨r2, i2, Q2, hQ2, rfl⟩ := key2
 obtain ⟨B, c, rfl, hc, _⟩ := own_form x1.row
 refine ⟨B, c, w1, f30.run rfl ?_, x1, hc⟩
 obtain ⟨N, hN⟩ : ∃ N : Int, N = ((EN + 1 : Nat) : Int) := ⟨_, rfl⟩
 have e1 : IntKind.i64.wrap (Q2 + 1) = N := (wrap_i64 (by omega) (by omega)).trans (by omega)
 rw [← hN]
 rcases hE1 with h | ⟨h1, h2⟩
 ·have hneg : ¬ E1 < 0 := by omega
  rw [← h]
  simp [f30, i1, i2, hneg, e1]
 ·subst h1
  rw [h2, ← hQ2]
  simp [f30, i1, i2, e1]
end
inductive RW : List Wd → Nat → List Wd → Nat → Prop
 | same (ws : List Wd) (e : Nat) : RW ws e ws e
 | bad {y y' : Wd} (rest : List Wd) (e e' : Nat) : y.b = true → y'.b = true → y.a = y'.a → RW (y :: rest) e [y'] e'
 | cons {ws ws' : List Wd} {e e' : Nat} (y : Wd) : RW ws e ws' e' → RW (y :: ws) e (y :: ws') e'
theorem wds_pre : ∀ (n p : Nat) (l : List UInt8) (acc : List Wd), ∃ a e, wds n p l acc = (acc ++ a, e)
 | 0, p, l, acc => ⟨[], p, by simp [wds]⟩
 | n + 1, p, [], acc => ⟨[], p, by simp [wds]⟩
 | n + 1, p, c :: r, acc => by
  rw [wds]
  split
  ·exact wds_pre n _ _ _
  ·split
   ·exact ⟨[], p, by simp⟩
   ·split
    ·obtain ⟨a, e, h⟩ := wds_pre n (p + (txt r).2.2) ((c :: r).drop (txt r).2.2) (acc ++ [⟨p, (txt r).1, true, (txt r).2.1⟩])
     exact ⟨[⟨p, (txt r).1, true, (txt r).2.1⟩] ++ a, e, by rw [h, List.append_assoc]⟩
    ·obtain ⟨a, e, h⟩ := wds_pre n (p + plainN (c :: r)) ((c :: r).drop (plainN (c :: r))) (acc ++ [⟨p, (c :: r).take (plainN (c :: r)), false, false⟩])
     exact ⟨[⟨p, (c :: r).take (plainN (c :: r)), false, false⟩] ++ a, e, by rw [h, List.append_assoc]⟩
theorem rds_wds : ∀ (n m p : Nat) (l : List UInt8) (acc : List Wd), l.length < n → (lineOf l).length < m → vs 0 (lineOf l) = true →
  ∃ a e a' e', wds m p (lineOf l) acc = (acc ++ a, e) ∧ rds n p l acc = (acc ++ a', e') ∧ RW a e a' e'
 | 0, m, p, l, acc, h, _, _ => by omega
 | n + 1, 0, p, l, acc, _, h, _ => by omega
 | n + 1, m + 1, p, [], acc, _, _, _ => ⟨[], p, [], p, by simp [lineOf, wds], by simp [rds], .same _ _⟩
 | n + 1, m + 1, p, c :: r, acc, hn, hm, hv => by
  simp only [Yc] at hn
  rw [rds]
  rw [lineOf_cons] at hm hv ⊢
  by_cases c10 : c = 10
  ·rw [if_pos c10, if_pos c10]
   exact ⟨[], p, [], p, by simp [wds], by simp, .same _ _⟩
  rw [if_neg c10] at hm hv ⊢
  rw [if_neg c10, wds]
  simp only [Yc] at hm
  by_cases hb : isB c = true
  ·rw [if_pos hb, if_pos hb]
   exact rds_wds n m (p + 1) r acc (by omega) (by omega) (by rw [vs_byte _ (isB_low hb)] at hv; exact hv)
  rw [if_neg hb, if_neg hb]
  by_cases c35 : c = 35
  ·rw [if_pos c35, if_pos c35]
   exact ⟨[], p, [], p, by simp, by simp, .same _ _⟩
  rw [if_neg c35, if_neg c35]
  by_cases c34 : c = 34
  ·rw [if_pos c34, if_pos c34]
   have hv1 : vs 0 (lineOf r) = true := by rw [vs_byte _ (by rw [c34]; decide)] at hv; exact hv
   obtain ⟨t1, t2, t3⟩ := txt_ok hv1
   rcases rtx_txt hv1 with ⟨h1, h2, h3⟩ | ⟨h1, o, k, h2, h3⟩
   ·obtain ⟨rl1, rl2, _⟩ := rtx_len r.length r [] 0 (Nat.le_refl _)
    rw [h2] at rl1 rl2 ⊢
    simp only at rl1 rl2 ⊢
    rw [if_pos trivial, h1]
    obtain ⟨k, hk⟩ : ∃ k, (txt (lineOf r)).2.2 = k + 1 := ⟨(txt (lineOf r)).2.2 - 1, by omega⟩
    obtain ⟨o, ho⟩ : ∃ o, o = (txt (lineOf r)).1 := ⟨_, rfl⟩
    rw [← ho]
    rw [hk] at rl1 rl2 t3 ⊢
    rw [Nat.add_sub_cancel] at rl1 rl2 ⊢
    have hdl : (c :: lineOf r).drop (k + 1) = lineOf (r.drop k) := by rw [List.drop_succ_cons, lineOf_drop k r (by omega)]
    rw [hdl, show p + (k + 1) = p + 1 + k by omega]
    obtain ⟨a, e, a', e', g1, g2, g3⟩ := rds_wds n m (p + 1 + k) (r.drop k) (acc ++ [⟨p, o, true, false⟩]) (by rw [Ye]; omega) (by rw [lineOf_drop k r (by omega), Ye]; omega) (by rw [← hdl, c34]; exact t3)
    refine ⟨⟨p, o, true, false⟩ :: a, e, ⟨p, o, true, false⟩ :: a', e', ?_, ?_, .cons _ g3⟩
    ·rw [g1, List.append_assoc]; rfl
    ·rw [g2, List.append_assoc]; rfl
   ·rw [h2, h1]
    simp only
    rw [if_neg (by decide)]
    obtain ⟨a, e, g1⟩ := wds_pre m (p + (txt (lineOf r)).2.2) ((c :: lineOf r).drop (txt (lineOf r)).2.2) (acc ++ [⟨p, (txt (lineOf r)).1, true, true⟩])
    refine ⟨⟨p, (txt (lineOf r)).1, true, true⟩ :: a, e, [⟨p, o, true, true⟩], _, ?_, rfl, .bad _ _ _ rfl rfl rfl⟩
    rw [g1, List.append_assoc]; rfl
  ·rw [if_neg c34, if_neg c34]
   have hpl : plainN (c :: lineOf r) = pl (c :: r) := by
    have := pl_plain (c :: r)
    rw [lineOf_cons, if_neg c10] at this
    exact this
   have hvp := vs_plain hv
   have p1 : 1 ≤ pl (c :: r) := by rw [pl, if_neg (by simp [c10, hb])]; omega
   have p2 := pl_le (c :: r)
   rw [hpl] at hvp ⊢
   obtain ⟨k, hk⟩ : ∃ k, k = pl (c :: r) := ⟨_, rfl⟩
   rw [← hk] at hvp p1 p2 ⊢
   have hln : lineOf (c :: r) = c :: lineOf r := by rw [lineOf_cons, if_neg c10]
   have htk : (c :: lineOf r).take k = (c :: r).take k := by rw [← hln, lineOf_take _ _ p2]
   have hdl : (c :: lineOf r).drop k = lineOf ((c :: r).drop k) := by rw [← hln, lineOf_drop k _ p2]
   have h3 : (lineOf ((c :: r).drop k)).length < m := by rw [← hdl, Ye]; simp only [Yc]; omega
   rw [htk, hdl]
   obtain ⟨a, e, a', e', g1, g2, g3⟩ := rds_wds n m (p + k) ((c :: r).drop k) (acc ++ [⟨p, (c :: r).take k, false, false⟩]) (by rw [Ye]; simp only [Yc]; omega) h3 (by rw [← hdl]; exact hvp)
   refine ⟨⟨p, (c :: r).take k, false, false⟩ :: a, e, ⟨p, (c :: r).take k, false, false⟩ :: a', e', ?_, ?_, .cons _ g3⟩
   ·rw [g1, List.append_assoc]; rfl
   ·rw [g2, List.append_assoc]; rfl
theorem rwcs_get {ws : List Wd} {k : Nat} {y : Wd} (hk : ws[k]? = some y) {j : Nat} (hj : j < 4) : (rwcs ws)[k * 4 + j]? = y.rcs[j]? := by
 induction ws generalizing k with
 | nil => simp at hk
 | cons a l ih =>
  have hl : a.rcs.length = 4 := rfl
  cases k with
  | zero =>
   simp at hk
   subst hk
   simp only [rwcs, List.flatMap_cons, Nat.zero_mul, Nat.zero_add]
   rw [Yf (by omega)]
  | succ k =>
   simp at hk
   have := ih hk
   simp only [rwcs, List.flatMap_cons] at this ⊢
   rw [List.getElem?_append_right (by omega), hl, ← this]
   congr 1
   omega
theorem rw_at {w : World} {B : Option Addr} {ws : List Wd} (hr : Rd w B (rwcs ws)) {k : Nat} {y : Wd} (hk : ws[k]? = some y) :
  ∃ a : Addr, (∀ c, Pq Zp (Zj 70 (.slice B ws.length c) (.int .i64 (k : Int))) = some (.pointer (some a))) ∧ w.cell? a = some (.int .i64 (y.a : Int)) ∧ w.cell? (a.add 1) = some (.bool y.t) ∧ w.cell? (a.add 2) = some (st y.s) ∧ w.cell? (a.add 3) = some (.bool (!y.b)) := by
 have hlt : k < ws.length := (List.getElem?_eq_some_iff.mp hk).1
 cases B with
 | none =>
  have h0 : rwcs ws = [] := hr
  have := rwcs_get hk (j := 0) (by omega)
  rw [h0] at this
  simp [Wd.rcs, rwc] at this
 | some ba =>
  have g : ∀ j v, j < 4 → y.rcs[j]? = some v → w.cell? ((ba.add (k * 4)).add j) = some v := by
   intro j v hj hv
   have := hr (k * 4 + j) v (by rw [rwcs_get hk hj]; exact hv)
   rw [← this]
   congr 1
   first | done | exact Addr.add_add _ _ _
  refine ⟨ba.add (k * 4), fun c => ?_, by have := g 0 _ (by omega) rfl; simpa using this, g 1 _ (by omega) rfl, g 2 _ (by omega) rfl, g 3 _ (by omega) rfl⟩
  have := ix70 ba ws.length c .i64 (k : Int) (by omega) (by omega)
  simpa using this
def xcs (a z : Int) : List Value := [.int .i64 a, .int .i64 z]
def xv (a z : Int) : Value := .agg #[.int .i64 a, .int .i64 z]
theorem alloc76 (w : World) : Eq_ Zp (Za 76 true (.tuple #[])) w = some (.pointer (some ⟨w.heap.size, 0, none⟩), w.alloc (.cells (xcs 0 0).toArray 76)) := id (by kernel_rfl)
theorem build76 (a z : Int) : Pq Zp (Zb 76 #[(0, .int .i64 a), (1, .int .i64 z)]) = some (xv a z) := id (by kernel_rfl)
theorem build76z : Pq Zp (Zb 76 #[]) = some (xv 0 0) := id (by kernel_rfl)
theorem put_x {W w : World} {R : Asn W.heap.size} {b : Nat} {cs : List Value} (s : Sat W (blkA b 76 cs * R) w) (hl : cs.length = 2) (a z : Int) : ∃ w', Eq_ Zp (Zs 76 (.pointer (some ⟨b, 0, none⟩)) (xv a z)) w = some ((), w') ∧ Sat W (blkA b 76 (xcs a z) * R) w' :=
 put_blk s inf76 (cs' := xcs a z) rfl (by rw [size76]; rfl) (by rw [hl]; rfl) (by intro u hu; simp only [xcs, List.mem_cons, List.not_mem_nil, or_false] at hu; rcases hu with rfl | rfl <;> rfl)
theorem ld_x {W w : World} {R : Asn W.heap.size} {b : Nat} {a z : Int} (s : Sat W (blkA b 76 (xcs a z) * R) w) : Rq Zp (Zl 76 (.pointer (some ⟨b, 0, none⟩))) w = some (xv a z) :=
 ld76 (a := ⟨b, 0, none⟩) (by rw [addL]; exact s.cell 0 rfl) (by rw [addL]; exact s.cell 1 rfl)
def nextV (t : Bool) (ws : List Wd) (e : Int) : Value := match nextE t ws e with
 | some (a, z) => .tuple #[st [], xv a z, .bool false]
 | none => match ws with
  | [] => .tuple #[st [], xv 0 0, .bool true]
  | y :: _ => .tuple #[st y.s, xv 0 0, .bool true]
theorem rplain_ok {w : World} {B : Option Addr} {ws : List Wd} {c : Nat} (hr : Rd w B (rwcs ws)) (hws : ∀ y ∈ ws, y.t = false → y.b = false) (e : Int) (k : Nat) (hk : ws.length ≤ 1000000) :
  ∃ w', C 71 #[.slice B ws.length c, .int .i64 e, .int .i64 (k : Int)] w = some (nextV false (ws.drop k) e, w') ∧ w.grownBy w' none := by
 have x1 := (emp_sat w).newBlk 76 (xcs 0 0)
 have a1 := alloc76 w
 obtain ⟨w1, hw1⟩ : ∃ w1, w1 = w.alloc (.cells (xcs 0 0).toArray 76) := ⟨_, rfl⟩
 rw [← hw1] at x1 a1
 have hr1 : Rd w1 B (rwcs ws) := hr.grown (grown_of x1)
 cases hy : ws[k]? with
 | none =>
  have hle : ws.length ≤ k := by simpa using hy
  have hle' : (ws.length : Int) ≤ (k : Int) := by omega
  have b1 := build76 e 193
  obtain ⟨w2, k2, x2⟩ := put_x x1 rfl e 193
  have l2 := ld_x x2
  refine ⟨w2, f71.run rfl ?_, grown_of x2⟩
  rw [List.drop_eq_nil_of_le hle]
  simp [f71, a1, hle', b1, k2, l2, nextV, nextE]
 | some y =>
  have hlt : k < ws.length := (List.getElem?_eq_some_iff.mp hy).1
  have hlt' : ¬ (ws.length : Int) ≤ (k : Int) := by omega
  obtain ⟨a, i0, c0, c1, c2, c3⟩ := rw_at hr1 hy
  have hd : ws.drop k = y :: ws.drop (k + 1) := by
   rw [List.drop_eq_getElem_cons hlt]
   congr 1
   rw [Yg hlt] at hy
   exact Option.some.inj hy
  rw [hd]
  cases ht : y.t with
  | true =>
   have b1 := build76 (y.a : Int) 193
   obtain ⟨w2, k2, x2⟩ := put_x x1.drew rfl (y.a : Int) 193
   have l2 := ld_x x2
   refine ⟨w2, f71.run rfl ?_, grown_of x2⟩
   rw [ht] at c1
   simp [f71, a1, hlt', i0, c0, c1, b1, k2, l2, nextV, nextE, ht]
  | false =>
   have hb := hws y (List.mem_of_getElem? hy) ht
   obtain ⟨w2, k2, x2⟩ := put_x x1 rfl 0 0
   have l2 := ld_x x2
   refine ⟨w2, f71.run rfl ?_, grown_of x2⟩
   rw [ht] at c1
   simp [f71, a1, hlt', i0, c1, c2, build76z, k2, l2, nextV, nextE, ht, hb]
theorem rtexted_ok {w : World} {B : Option Addr} {ws : List Wd} {c : Nat} (hr : Rd w B (rwcs ws)) (e : Int) (k : Nat) (hk : ws.length ≤ 1000000) :
  ∃ w', C 72 #[.slice B ws.length c, .int .i64 e, .int .i64 (k : Int)] w = some (nextV true (ws.drop k) e, w') ∧ w.grownBy w' none := by
 have x1 := (emp_sat w).newBlk 76 (xcs 0 0)
 have a1 := alloc76 w
 obtain ⟨w1, hw1⟩ : ∃ w1, w1 = w.alloc (.cells (xcs 0 0).toArray 76) := ⟨_, rfl⟩
 rw [← hw1] at x1 a1
 have hr1 : Rd w1 B (rwcs ws) := hr.grown (grown_of x1)
 cases hy : ws[k]? with
 | none =>
  have hle : ws.length ≤ k := by simpa using hy
  have hle' : (ws.length : Int) ≤ (k : Int) := by omega
  have b1 := build76 e 193
  obtain ⟨w2, k2, x2⟩ := put_x x1 rfl e 193
  have l2 := ld_x x2
  refine ⟨w2, f72.run rfl ?_, grown_of x2⟩
  rw [List.drop_eq_nil_of_le hle]
  simp [f72, a1, hle', b1, k2, l2, nextV, nextE]
 | some y =>
  have hlt : k < ws.length := (List.getElem?_eq_some_iff.mp hy).1
  have hlt' : ¬ (ws.length : Int) ≤ (k : Int) := by omega
  obtain ⟨a, i0, c0, c1, c2, c3⟩ := rw_at hr1 hy
  have hsl := fun ty => str_len (P := Zp) Uz ty y.s
  have hd : ws.drop k = y :: ws.drop (k + 1) := by
   rw [List.drop_eq_getElem_cons hlt]
   congr 1
   rw [Yg hlt] at hy
   exact Option.some.inj hy
  rw [hd]
  have b1 := build76 (y.a : Int) 193
  have b2 := build76 (y.a : Int) 191
  by_cases hbad : y.b = true ∨ y.t = false
  ·obtain ⟨w2, k2, x2⟩ := put_x x1.drew rfl (y.a : Int) 193
   have l2 := ld_x x2
   refine ⟨w2, f72.run rfl ?_, grown_of x2⟩
   cases ht : y.t with
   | false =>
    rw [ht] at c1
    simp [f72, a1, hlt', i0, c0, c1, b1, k2, l2, nextV, nextE, ht]
   | true =>
    have hb : y.b = true := by simpa [ht] using hbad
    rw [ht] at c1
    rw [hb] at c3
    simp [f72, a1, hlt', i0, c0, c1, c3, b1, k2, l2, nextV, nextE, ht, hb]
  ·simp only [not_or, Bool.not_eq_true, Bool.not_eq_false] at hbad
   obtain ⟨hb, ht⟩ := hbad
   rw [ht] at c1
   rw [hb] at c3
   by_cases hl : 100 < y.s.length
   ·have hl' : (100 : Int) < y.s.length := by omega
    obtain ⟨w2, k2, x2⟩ := put_x x1.drew rfl (y.a : Int) 191
    have l2 := ld_x x2
    refine ⟨w2, f72.run rfl ?_, grown_of x2⟩
    simp [f72, a1, hlt', i0, c0, c1, c2, c3, hsl, hl', b2, k2, l2, nextV, nextE, ht, hb, hl]
   ·have hl' : ¬ (100 : Int) < y.s.length := by omega
    obtain ⟨w2, k2, x2⟩ := put_x x1 rfl 0 0
    have l2 := ld_x x2
    refine ⟨w2, f72.run rfl ?_, grown_of x2⟩
    simp [f72, a1, hlt', i0, c1, c2, c3, hsl, hl', build76z, k2, l2, nextV, nextE, ht, hb, hl]
noncomputable def hdB (call : CallF) (vs_2 : List Value) (W3 : World) : Option Res :=
 let l0_3 := nth vs_2 0
 let end1_3 := nth vs_2 1
 let v4_2 := nth vs_2 2
 let v5_2 := nth vs_2 3
 let rate9_2 := nth vs_2 4
 (bin .eql rate9_2 (Vi Ki 0)).bind fun v56 =>
 (asB v56).bind fun c56 =>
 if c56 then
  ((Pq Zp (Zb 30 #[])).bind fun v57 =>
  some (v57, W3.drew)).bind fun r57 =>
  ((Pq Zp (Zj 70 l0_3 (Vi Ki 1))).bind fun v59 =>
  some (v59, r57.2)).bind fun r59 =>
  ((Pq Zp (Zf 74 r59.1 0)).bind fun v60 =>
  some (v60, r59.2)).bind fun r60 =>
  ((Rq Zp (Zl 3 r60.1) r60.2).bind fun v61 =>
  some (v61, r60.2)).bind fun r61 =>
  ((Pq Zp (Zb 76 #[(0, r61.1), (1, (Vi Ki 193))])).bind fun v62 =>
  some (v62, r61.2)).bind fun r62 =>
  ((Eq_ Zp (Zs 30 v4_2 r57.1) r62.2).bind fun r_15 =>
  some (undef, r_15.2)).bind fun r_14 =>
  ((Eq_ Zp (Zs 76 v5_2 r62.1) r_14.2).bind fun r_17 =>
  some (undef, r_17.2)).bind fun r_16 =>
  chkThen ((((Rq Zp (Zl 3 r60.1) r62.2).bind fun v61_1 => some v61_1) = some r61.1 ∧ ((Rq Zp (Zl 3 r60.1) r_14.2).bind fun v61_2 => some v61_2) = some r61.1) ∧ True)
  (some (Xr [v4_2, v5_2] r_16.2))
 else
 (call 72 #[l0_3, end1_3, (Vi Ki 2)] W3).bind fun r66 =>
 (Pq Zp (Zx r66.1 0)).bind fun v67 =>
 (Pq Zp (Zx r66.1 1)).bind fun v68 =>
 (Pq Zp (Zx r66.1 2)).bind fun v69 =>
 (Eq_ Zp (Za 76 true (.tuple #[])) r66.2).bind fun r13 =>
 (Eq_ Zp (Zs 76 r13.1 v68) r13.2).bind fun r_18 =>
 (Pq Zp (Op.unary .not v69)).bind fun v71 =>
 (asB v71).bind fun c71 =>
 if c71 then
  ((Pq Zp (Zb 30 #[])).bind fun v72 =>
  some (v72, r_18.2.drew)).bind fun r72 =>
  ((Rq Zp (Zl 76 r13.1) r72.2).bind fun v73 =>
  some (v73, r72.2)).bind fun r73 =>
  ((Eq_ Zp (Zs 30 v4_2 r72.1) r73.2).bind fun r_20 =>
  some (undef, r_20.2)).bind fun r_19 =>
  ((Eq_ Zp (Zs 76 v5_2 r73.1) r_19.2).bind fun r_22 =>
  some (undef, r_22.2)).bind fun r_21 =>
  chkThen ((((Rq Zp (Zl 76 r13.1) r73.2).bind fun v73_1 => some v73_1) = some r73.1 ∧ ((Rq Zp (Zl 76 r13.1) r_19.2).bind fun v73_2 => some v73_2) = some r73.1) ∧ True)
  (some (Xr [v4_2, v5_2] r_21.2))
 else
 (Pq Zp (Yl #[70] 3 #[l0_3])).bind fun v75 =>
 (bin .gtr v75 (Vi Ki 3)).bind fun v76 =>
 (asB v76).bind fun c76 =>
 if c76 then
  ((Pq Zp (Zb 30 #[])).bind fun v77 =>
  some (v77, r_18.2.drew)).bind fun r77 =>
  ((Pq Zp (Zj 70 l0_3 (Vi Ki 3))).bind fun v79 =>
  some (v79, r77.2)).bind fun r79 =>
  ((Pq Zp (Zf 74 r79.1 0)).bind fun v80 =>
  some (v80, r79.2)).bind fun r80 =>
  ((Rq Zp (Zl 3 r80.1) r80.2).bind fun v81 =>
  some (v81, r80.2)).bind fun r81 =>
  ((Pq Zp (Zb 76 #[(0, r81.1), (1, (Vi Ki 193))])).bind fun v82 =>
  some (v82, r81.2)).bind fun r82 =>
  ((Eq_ Zp (Zs 30 v4_2 r77.1) r82.2).bind fun r_24 =>
  some (undef, r_24.2)).bind fun r_23 =>
  ((Eq_ Zp (Zs 76 v5_2 r82.1) r_23.2).bind fun r_26 =>
  some (undef, r_26.2)).bind fun r_25 =>
  chkThen ((((Rq Zp (Zl 3 r80.1) r82.2).bind fun v81_1 => some v81_1) = some r81.1 ∧ ((Rq Zp (Zl 3 r80.1) r_23.2).bind fun v81_2 => some v81_2) = some r81.1) ∧ True)
  (some (Xr [v4_2, v5_2] r_25.2))
 else
 (Pq Zp (Zb 30 #[(0, v67), (1, rate9_2)])).bind fun v85 =>
 (Pq Zp (Zb 76 #[])).bind fun v86 =>
 (Eq_ Zp (Zs 30 v4_2 v85) r_18.2).bind fun r_27 =>
 (Eq_ Zp (Zs 76 v5_2 v86) r_27.2).bind fun r_28 =>
 some (Xr [v4_2, v5_2] r_28.2)
theorem f31.parts (call : CallF) (l0 : Value) (end1 : Value) (W0 : World) : f31 call l0 end1 W0 =
 ((Eq_ Zp (Za 30 true (.tuple #[])) W0).bind fun r4 =>
 (Eq_ Zp (Za 76 true (.tuple #[])) r4.2).bind fun r5 =>
 (call 71 #[l0, end1, (Vi Ki 0)] r5.2).bind fun r18 =>
 (Pq Zp (Zx r18.1 0)).bind fun v19 =>
 (Pq Zp (Zx r18.1 1)).bind fun v20 =>
 (Pq Zp (Zx r18.1 2)).bind fun v21 =>
 (Eq_ Zp (Za 76 true (.tuple #[])) r18.2).bind fun r7 =>
 (Eq_ Zp (Zs 76 r7.1 v20) r7.2).bind fun r =>
 (Pq Zp (Op.unary .not v21)).bind fun v23 =>
 (asB v23).bind fun c23 =>
 if c23 then
  ((Pq Zp (Zb 30 #[])).bind fun v24 =>
  some (v24, r.2.drew)).bind fun r24 =>
  ((Rq Zp (Zl 76 r7.1) r24.2).bind fun v25 =>
  some (v25, r24.2)).bind fun r25 =>
  ((Eq_ Zp (Zs 30 r4.1 r24.1) r25.2).bind fun r_2 =>
  some (undef, r_2.2)).bind fun r_1 =>
  ((Eq_ Zp (Zs 76 r5.1 r25.1) r_1.2).bind fun r_4 =>
  some (undef, r_4.2)).bind fun r_3 =>
  chkThen ((((Rq Zp (Zl 76 r7.1) r25.2).bind fun v25_1 => some v25_1) = some r25.1 ∧ ((Rq Zp (Zl 76 r7.1) r_1.2).bind fun v25_2 => some v25_2) = some r25.1) ∧ True)
  (some (Xr [r4.1, r5.1] r_3.2))
 else
 (Pq Zp (do eqGuard .neq 9 (Ot 26) (Oc (Vs { data := #[108, 105, 115, 116] })) v19 (Vs { data := #[108, 105, 115, 116] }); binOp .neq 9 v19 (Vs { data := #[108, 105, 115, 116] }))).bind fun v27 =>
 (asB v27).bind fun c27 =>
 if c27 then
  ((Pq Zp (Zb 30 #[])).bind fun v28 =>
  some (v28, r.2.drew)).bind fun r28 =>
  ((Pq Zp (Zj 70 l0 (Vi Ki 0))).bind fun v30 =>
  some (v30, r28.2)).bind fun r30 =>
  ((Pq Zp (Zf 74 r30.1 0)).bind fun v31 =>
  some (v31, r30.2)).bind fun r31 =>
  ((Rq Zp (Zl 3 r31.1) r31.2).bind fun v32 =>
  some (v32, r31.2)).bind fun r32 =>
  ((Pq Zp (Zb 76 #[(0, r32.1), (1, (Vi Ki 193))])).bind fun v33 =>
  some (v33, r32.2)).bind fun r33 =>
  ((Eq_ Zp (Zs 30 r4.1 r28.1) r33.2).bind fun r_6 =>
  some (undef, r_6.2)).bind fun r_5 =>
  ((Eq_ Zp (Zs 76 r5.1 r33.1) r_5.2).bind fun r_8 =>
  some (undef, r_8.2)).bind fun r_7 =>
  chkThen ((((Rq Zp (Zl 3 r31.1) r33.2).bind fun v32_1 => some v32_1) = some r32.1 ∧ ((Rq Zp (Zl 3 r31.1) r_5.2).bind fun v32_2 => some v32_2) = some r32.1) ∧ True)
  (some (Xr [r4.1, r5.1] r_7.2))
 else
 (call 71 #[l0, end1, (Vi Ki 1)] r.2).bind fun r37 =>
 (Pq Zp (Zx r37.1 0)).bind fun v38 =>
 (Pq Zp (Zx r37.1 1)).bind fun v39 =>
 (Pq Zp (Zx r37.1 2)).bind fun v40 =>
 (Eq_ Zp (Zs 76 r7.1 v39) r37.2).bind fun r_9 =>
 (Pq Zp (Op.unary .not v40)).bind fun v42 =>
 (asB v42).bind fun c42 =>
 if c42 then
  ((Pq Zp (Zb 30 #[])).bind fun v43 =>
  some (v43, r_9.2.drew)).bind fun r43 =>
  ((Rq Zp (Zl 76 r7.1) r43.2).bind fun v44 =>
  some (v44, r43.2)).bind fun r44 =>
  ((Eq_ Zp (Zs 30 r4.1 r43.1) r44.2).bind fun r_11 =>
  some (undef, r_11.2)).bind fun r_10 =>
  ((Eq_ Zp (Zs 76 r5.1 r44.1) r_10.2).bind fun r_13 =>
  some (undef, r_13.2)).bind fun r_12 =>
  chkThen ((((Rq Zp (Zl 76 r7.1) r44.2).bind fun v44_1 => some v44_1) = some r44.1 ∧ ((Rq Zp (Zl 76 r7.1) r_10.2).bind fun v44_2 => some v44_2) = some r44.1) ∧ True)
  (some (Xr [r4.1, r5.1] r_12.2))
 else
 (iter (f31.l0 call) [l0, end1, r4.1, r5.1, v38, (Vi Ki 0), (Vi Ki 1)] r_9.2).bind fun (r : Res) => (r.unblock 0).cont (hdB call)).bind (Res.doneR Zp [.cell 4 30, .cell 5 76]) := rfl
abbrev zcv : Value := .agg #[st [], .int .i64 0, .slice none 0 0]
theorem build30z : Pq Zp (Zb 30 #[]) = some zcv := id (by kernel_rfl)
section
variable {W : World} {X : Asn W.heap.size}
theorem fin_ok {w : World} {b4 b5 : Nat} {a0 a1 a2 : Value} {p q : Int} (x : Sat W (blkA b4 30 [a0, a1, a2] * (blkA b5 76 (xcs p q) * X)) w) (t : List UInt8) (r a z : Int) :
  ∃ w1 w2, Eq_ Zp (Zs 30 (.pointer (some ⟨b4, 0, none⟩)) (.agg #[st t, .int .i64 r, .slice none 0 0])) w = some ((), w1) ∧ Sat W (blkA b4 30 [st t, .int .i64 r, .slice none 0 0] * (blkA b5 76 (xcs p q) * X)) w1 ∧
   Eq_ Zp (Zs 76 (.pointer (some ⟨b5, 0, none⟩)) (xv a z)) w1 = some ((), w2) ∧ Sat W (blkA b4 30 [st t, .int .i64 r, .slice none 0 0] * (blkA b5 76 (xcs a z) * X)) w2 ∧
   Rq Zp (Zl 30 (.pointer (some ⟨b4, 0, none⟩))) w2 = some (.agg #[st t, .int .i64 r, .slice none 0 0]) ∧ Rq Zp (Zl 76 (.pointer (some ⟨b5, 0, none⟩))) w2 = some (xv a z) := by
 obtain ⟨w1, k1, x1⟩ := put_blk x inf30 (v := .agg #[st t, .int .i64 r, .slice none 0 0]) (cs' := [st t, .int .i64 r, .slice none 0 0]) rfl (by rw [size30]; rfl) rfl (by simp [Value.oneCell'])
 obtain ⟨w2, k2, x2⟩ := put_x (x1.eq (by ac_rfl : _ = blkA b5 76 (xcs p q) * (blkA b4 30 [st t, .int .i64 r, .slice none 0 0] * X))) rfl a z
 have x3 : Sat W (blkA b4 30 [st t, .int .i64 r, .slice none 0 0] * (blkA b5 76 (xcs a z) * X)) w2 := x2.eq (by ac_rfl)
 exact ⟨w1, w2, k1, x1, k2, x3, ld_cut x3, ld_x x2⟩
end
def headV (r : Except (Int × Int) (List UInt8 × Int)) : Value := match r with
 | .ok (t, r) => .tuple #[.agg #[st t, .int .i64 r, .slice none 0 0], xv 0 0]
 | .error (a, z) => .tuple #[zcv, xv a z]
def rsel (w : List UInt8) : Nat → Nat
 | 0 => 0
 | n + 1 => if w = rname ((n + 1 : Nat) : Int) then n + 1 else rsel w n
theorem rsel_rate (w : List UInt8) : (rsel w 7 : Int) = rateOf w := by
 unfold rateOf
 by_cases h1 : w = rname 1
 ·rw [if_pos h1, h1]; decide
 rw [if_neg h1]
 by_cases h2 : w = rname 2
 ·rw [if_pos h2, h2]; decide
 rw [if_neg h2]
 by_cases h3 : w = rname 3
 ·rw [if_pos h3, h3]; decide
 rw [if_neg h3]
 by_cases h4 : w = rname 4
 ·rw [if_pos h4, h4]; decide
 rw [if_neg h4]
 by_cases h5 : w = rname 5
 ·rw [if_pos h5, h5]; decide
 rw [if_neg h5]
 by_cases h6 : w = rname 6
 ·rw [if_pos h6, h6]; decide
 rw [if_neg h6]
 by_cases h7 : w = rname 7
 ·rw [if_pos h7, h7]; decide
 rw [if_neg h7]
 simp [rsel, h1, h2, h3, h4, h5, h6, h7]
theorem rates_loop (l e a b : Value) (s : List UInt8) (w : World) : iter (f31.l0 C) [l, e, a, b, st s, .int .i64 0, .int .i64 1] w = some (.exit 0 [l, e, a, b, .int .i64 (rateOf s)] w) := by
 have key := iter_down (f := f31.l0 C) (fun d vs w1 => ∃ (n : Nat) (N R : Int), N = ((n + 1 : Nat) : Int) ∧ R = ((rsel s n : Nat) : Int) ∧ vs = [l, e, a, b, st s, .int .i64 R, .int .i64 N] ∧ n + d = 7 ∧ w1 = w)
  (fun r => r = .exit 0 [l, e, a, b, .int .i64 (rateOf s)] w) (by
   rintro d vs w1 ⟨n, N, R, hN, hR, rfl, hd, rfl⟩
   cases d with
   | zero =>
    obtain rfl : n = 7 := by omega
    have hle : ¬ N ≤ 7 := by omega
    rw [rsel_rate] at hR
    subst hR
    exact .inr ⟨_, by simp [f31.l0, hle], rfl, by simp⟩
   | succ d =>
    have hle : N ≤ 7 := by omega
    have rn := ref_rname (r := N) (by omega) hle w1
    have eq := str_eql (P := Zp) (t := 9) (Ot 51) (Ot 52) s (rname N)
    obtain ⟨N2, hN2⟩ : ∃ x : Int, x = ((n + 1 + 1 : Nat) : Int) := ⟨_, rfl⟩
    have e1 : IntKind.i64.wrap (N + 1) = N2 := (wrap_i64 (by omega) (by omega)).trans (by omega)
    by_cases h : s = rname N
    ·have hs : rsel s (n + 1) = n + 1 := by rw [rsel, ← hN, if_pos h]
     refine .inl ⟨d, _, w1, by omega, ?_, ⟨n + 1, N2, N, hN2, by rw [hs]; exact hN, rfl, by omega, rfl⟩⟩
     have hd : decide (s = rname N) = true := by simpa using h
     rw [hd] at eq
     simp [f31.l0, hle, rn, eq, e1]
    ·have hs : rsel s (n + 1) = rsel s n := by rw [rsel, ← hN, if_neg h]
     refine .inl ⟨d, _, w1, by omega, ?_, ⟨n + 1, N2, R, hN2, by rw [hs]; exact hR, rfl, by omega, rfl⟩⟩
     have hd : decide (s = rname N) = false := by simpa using h
     rw [hd] at eq
     simp [f31.l0, hle, rn, eq, e1]) 7 _ w ⟨0, 1, 0, rfl, rfl, rfl, by omega, rfl⟩
 obtain ⟨r, h1, rfl⟩ := key
 exact h1
def hdR (e : Int) (y2 : Wd) (r : List Wd) : Except (Int × Int) (List UInt8 × Int) := if rateOf y2.s = 0 then .error ((y2.a : Int), 193) else match nextE true r e with
 | some p => .error p
 | none => match r with
  | y3 :: [] => .ok (y3.s, rateOf y2.s)
  | _ :: y4 :: _ => .error ((y4.a : Int), 193)
  | _ => .error (0, 0)
section
variable {W : World} {X : Asn W.heap.size}
theorem hdB_ok {w : World} {B : Option Addr} {c b4 b5 : Nat} {y1 y2 : Wd} {r : List Wd} {e : Int} (hr : Rd W B (rwcs (y1 :: y2 :: r))) (hl : (y1 :: y2 :: r).length ≤ 1000000)
  (x : Sat W (blkA b4 30 zcs * (blkA b5 76 (xcs 0 0) * X)) w) :
  ∃ w', ((hdB C [.slice B (y1 :: y2 :: r).length c, .int .i64 e, .pointer (some ⟨b4, 0, none⟩), .pointer (some ⟨b5, 0, none⟩), .int .i64 (rateOf y2.s)] w).bind (Res.doneR Zp [.cell 4 30, .cell 5 76])) = some (headV (hdR e y2 r), w') ∧ W.grownBy w' none := by
 unfold hdR
 have hrw : ∀ {w'} {Y : Asn W.heap.size}, Sat W Y w' → Rd w' B (rwcs (y1 :: y2 :: r)) := fun y => hr.grown (grown_of y)
 by_cases h0 : rateOf y2.s = 0
 ·rw [if_pos h0]
  obtain ⟨w1, w2, k1, x1, k2, x2, l1, l2⟩ := fin_ok x.drew [] 0 (y2.a : Int) 193
  obtain ⟨a, i0, c0, _, _, _⟩ := rw_at (hrw x) (k := 1) (y := y2) rfl
  obtain ⟨a', i0', c0', _, _, _⟩ := rw_at (hrw x1) (k := 1) (y := y2) rfl
  have : a' = a := by have := (i0 0).symm.trans (i0' 0); simpa using this.symm
  subst this
  obtain ⟨n, hn⟩ : ∃ n, n = (y1 :: y2 :: r).length := ⟨_, rfl⟩
  have i1 : Pq Zp (Zj 70 (.slice B n c) (.int .i64 1)) = some (.pointer (some a')) := by rw [hn]; exact i0 c
  rw [← hn]
  have b1 := build76 (y2.a : Int) 193
  refine ⟨w2, ?_, grown_of x2⟩
  simp [hdB, h0, build30z, i1, c0, c0', b1, k1, k2, l1, l2, headV]
 ·rw [if_neg h0]
  obtain ⟨w1, k1, g1⟩ := rtexted_ok (c := c) (hrw x) e 2 hl
  have k1 : C 72 #[.slice B (y1 :: y2 :: r).length c, .int .i64 e, .int .i64 2] w = some (nextV true r e, w1) := k1
  have x1 := (x.grown g1).newBlk 76 (xcs 0 0)
  have a2 := alloc76 w1
  obtain ⟨w2, hw2⟩ : ∃ w2, w2 = w1.alloc (.cells (xcs 0 0).toArray 76) := ⟨_, rfl⟩
  rw [← hw2] at x1 a2
  cases hz : nextE true r e with
  | some p =>
   obtain ⟨a, z⟩ := p
   obtain ⟨w3, k3, x3⟩ := put_x x1 rfl a z
   have x4 : Sat W (blkA b4 30 zcs * (blkA b5 76 (xcs 0 0) * (blkA w1.heap.size 76 (xcs a z) * X))) w3 := x3.eq (by ac_rfl)
   obtain ⟨w4, w5, k4, x5, k5, x6, l1, l2⟩ := fin_ok x4.drew [] 0 a z
   have l3 := ld_x x3
   have l3' := ld_x x3.drew
   have l4 := ld_x (x5.eq (by ac_rfl : _ = blkA w1.heap.size 76 (xcs a z) * (blkA b4 30 zcs * (blkA b5 76 (xcs 0 0) * X))))
   refine ⟨w5, ?_, grown_of x6⟩
   simp only [Yc] at k1
   simp [hdB, h0, k1, nextV, hz, a2, k3, build30z, l3, l3', l4, k4, k5, l1, l2, headV]
  | none =>
   match r, hz with
   | [], hz => simp [nextE] at hz
   | [y3], hz =>
    obtain ⟨w3, k3, x3⟩ := put_x x1 rfl 0 0
    have x4 : Sat W (blkA b4 30 zcs * (blkA b5 76 (xcs 0 0) * (blkA w1.heap.size 76 (xcs 0 0) * X))) w3 := x3.eq (by ac_rfl)
    obtain ⟨w4, w5, k4, x5, k5, x6, l1, l2⟩ := fin_ok x4 y3.s (rateOf y2.s) 0 0
    have bt := build30t y3.s (rateOf y2.s)
    refine ⟨w5, ?_, grown_of x6⟩
    simp only [Yc, List.length_nil] at k1
    simp [hdB, h0, k1, nextV, hz, a2, k3, build76z, bt, k4, k5, l1, l2, headV]
   | y3 :: y4 :: r', hz =>
    obtain ⟨w3, k3, x3⟩ := put_x x1 rfl 0 0
    have x4 : Sat W (blkA b4 30 zcs * (blkA b5 76 (xcs 0 0) * (blkA w1.heap.size 76 (xcs 0 0) * X))) w3 := x3.eq (by ac_rfl)
    obtain ⟨w4, w5, k4, x5, k5, x6, l1, l2⟩ := fin_ok x4.drew [] 0 (y4.a : Int) 193
    obtain ⟨a, i0, c0, _, _, _⟩ := rw_at (hrw x4) (k := 3) (y := y4) rfl
    obtain ⟨a', i0', c0', _, _, _⟩ := rw_at (hrw x5) (k := 3) (y := y4) rfl
    have : a' = a := by have := (i0 0).symm.trans (i0' 0); simpa using this.symm
    subst this
    have b1 := build76 (y4.a : Int) 193
    refine ⟨w5, ?_, grown_of x6⟩
    obtain ⟨n, hn⟩ : ∃ n, n = (y1 :: y2 :: y3 :: y4 :: r').length := ⟨_, rfl⟩
    have i1 : Pq Zp (Zj 70 (.slice B n c) (.int .i64 3)) = some (.pointer (some a')) := by rw [hn]; exact i0 c
    have h3 : (3 : Int) < n := by rw [hn]; simp; omega
    rw [← hn] at k1 ⊢
    simp [hdB, h0, k1, nextV, hz, a2, k3, build30z, i1, c0, c0', b1, h3, k4, k5, l1, l2, headV]
end
theorem nextV_bad {t : Bool} {ws : List Wd} {e a z : Int} (h : nextE t ws e = some (a, z)) : nextV t ws e = .tuple #[st [], xv a z, .bool false] := by
 unfold nextV
 rw [h]
theorem nextV_good {t : Bool} {y : Wd} {ws : List Wd} {e : Int} (h : nextE t (y :: ws) e = none) : nextV t (y :: ws) e = .tuple #[st y.s, xv 0 0, .bool true] := by
 unfold nextV
 rw [h]
theorem head_ok {w : World} {B : Option Addr} {ws : List Wd} {c : Nat} (hr : Rd w B (rwcs ws)) (hws : ∀ y ∈ ws, y.t = false → y.b = false) (e : Int) (hl : ws.length ≤ 1000000) :
  ∃ w', C 31 #[.slice B ws.length c, .int .i64 e] w = some (headV (listR e ws), w') ∧ w.grownBy w' none := by
 have x1 := (emp_sat w).newBlk 30 zcs
 have a1 := alloc30 w
 obtain ⟨w1, hw1⟩ : ∃ w1, w1 = w.alloc (.cells zcs.toArray 30) := ⟨_, rfl⟩
 rw [← hw1] at x1 a1
 have x2 := x1.newBlk 76 (xcs 0 0)
 have a2 := alloc76 w1
 obtain ⟨w2, hw2⟩ : ∃ w2, w2 = w1.alloc (.cells (xcs 0 0).toArray 76) := ⟨_, rfl⟩
 rw [← hw2] at x2 a2
 obtain ⟨b5, hb5⟩ : ∃ b, b = w1.heap.size := ⟨_, rfl⟩
 rw [← hb5] at a2 x2
 have hrw : ∀ {w'} {Y : Asn w.heap.size}, Sat w Y w' → Rd w' B (rwcs ws) := fun y => hr.grown (grown_of y)
 obtain ⟨w3, k3, g3⟩ := rplain_ok (c := c) (hrw x2) hws e 0 hl
 have k3 : C 71 #[.slice B ws.length c, .int .i64 e, .int .i64 0] w2 = some (nextV false ws e, w3) := k3
 have x3 := (x2.grown g3).newBlk 76 (xcs 0 0)
 have a3 := alloc76 w3
 obtain ⟨w4, hw4⟩ : ∃ w4, w4 = w3.alloc (.cells (xcs 0 0).toArray 76) := ⟨_, rfl⟩
 rw [← hw4] at x3 a3
 obtain ⟨b7, hb7⟩ : ∃ b, b = w3.heap.size := ⟨_, rfl⟩
 rw [← hb7] at a3 x3
 cases hz : nextE false ws e with
 | some p =>
  obtain ⟨a, z⟩ := p
  have hL : listR e ws = .error (a, z) := by unfold listR plainE; rw [hz]
  rw [nextV_bad hz] at k3
  rw [hL]
  obtain ⟨w5, k5, x5⟩ := put_x x3 rfl a z
  have x6 : Sat w (blkA w.heap.size 30 zcs * (blkA b5 76 (xcs 0 0) * (blkA b7 76 (xcs a z) * emp))) w5 := x5.eq (by ac_rfl)
  obtain ⟨w6, w7, k6, x7, k7, x8, l1, l2⟩ := fin_ok x6.drew [] 0 a z
  have l3 := ld_x x5
  have l3' := ld_x x5.drew
  have l4 := ld_x (x7.eq (by ac_rfl : _ = blkA b7 76 (xcs a z) * (blkA w.heap.size 30 zcs * (blkA b5 76 (xcs 0 0) * emp))))
  refine ⟨w7, f31.run rfl ?_, grown_of x8⟩
  simp [f31, a1, a2, k3, a3, k5, build30z, l3, l3', l4, k6, k7, l1, l2, headV]
 | none =>
  clear hrw
  match ws, hr, hws, hl, k3, hz with
  | [], _, _, _, _, hz => simp [nextE] at hz
  | y1 :: r, hr, hws, hl, k3, hz =>
   have hrw : ∀ {w'} {Y : Asn w.heap.size}, Sat w Y w' → Rd w' B (rwcs (y1 :: r)) := fun y => hr.grown (grown_of y)
   rw [nextV_good hz] at k3
   obtain ⟨w5, k5, x5⟩ := put_x x3 rfl 0 0
   have x6 : Sat w (blkA w.heap.size 30 zcs * (blkA b5 76 (xcs 0 0) * (blkA b7 76 (xcs 0 0) * emp))) w5 := x5.eq (by ac_rfl)
   have nq := str_neq (P := Zp) (t := 9) (Ot 26) (Oc (Vs { data := #[108, 105, 115, 116] })) y1.s tList
   have nq : Pq Zp (do eqGuard .neq 9 (Ot 26) (Oc (Vs { data := #[108, 105, 115, 116] })) (st y1.s) (Vs { data := #[108, 105, 115, 116] }); binOp .neq 9 (st y1.s) (Vs { data := #[108, 105, 115, 116] })) = some (.bool (decide (y1.s ≠ tList))) := nq
   obtain ⟨n, hn⟩ : ∃ n, n = (y1 :: r).length := ⟨_, rfl⟩
   by_cases hL : y1.s = tList
   ·have p1 : plainE isList (y1 :: r) e = none := by unfold plainE; rw [hz]; simp [isList, hL]
    rw [hL] at k3 nq
    simp only [ne_eq, not_true_eq_false, decide_false] at nq
    obtain ⟨w6, k6, g6⟩ := rplain_ok (c := c) (hrw x6) hws e 1 hl
    have k6 : C 71 #[.slice B (y1 :: r).length c, .int .i64 e, .int .i64 1] w5 = some (nextV false r e, w6) := k6
    have x7 := x5.grown g6
    cases hz2 : nextE false r e with
    | some p =>
     obtain ⟨a, z⟩ := p
     have hR : listR e (y1 :: r) = .error (a, z) := by
      unfold listR
      rw [p1]
      dsimp only
      have : plainE isRate r e = some (a, z) := by unfold plainE; rw [hz2]
      rw [List.tail_cons, this]
     rw [nextV_bad hz2] at k6
     rw [hR]
     obtain ⟨w8, k8, x8⟩ := put_x x7 rfl a z
     have x9 : Sat w (blkA w.heap.size 30 zcs * (blkA b5 76 (xcs 0 0) * (blkA b7 76 (xcs a z) * emp))) w8 := x8.eq (by ac_rfl)
     obtain ⟨wA, wB, kA, xA, kB, xB, l1, l2⟩ := fin_ok x9.drew [] 0 a z
     have l3 := ld_x x8
     have l3' := ld_x x8.drew
     have l4 := ld_x (xA.eq (by ac_rfl : _ = blkA b7 76 (xcs a z) * (blkA w.heap.size 30 zcs * (blkA b5 76 (xcs 0 0) * emp))))
     refine ⟨wB, f31.run rfl ?_, grown_of xB⟩
     rw [← hn] at k3 k6 ⊢
     simp [f31, a1, a2, k3, a3, k5, nq, k6, k8, build30z, l3, l3', l4, kA, kB, l1, l2, headV]
    | none =>
     clear hrw
     match r, hr, hws, hl, k3, k6, hn, p1, hz2 with
     | [], _, _, _, _, _, _, _, hz2 => simp [nextE] at hz2
     | y2 :: r2, hr, hws, hl, k3, k6, hn, p1, hz2 =>
      rw [nextV_good hz2] at k6
      obtain ⟨w8, k8, x8⟩ := put_x x7 rfl 0 0
      have x9 : Sat w (blkA w.heap.size 30 zcs * (blkA b5 76 (xcs 0 0) * (blkA b7 76 (xcs 0 0) * emp))) w8 := x8.eq (by ac_rfl)
      obtain ⟨w9, k9, g9⟩ := hdB_ok (c := c) (e := e) hr hl x9
      have rl := rates_loop (.slice B (y1 :: y2 :: r2).length c) (.int .i64 e) (.pointer (some ⟨w.heap.size, 0, none⟩)) (.pointer (some ⟨b5, 0, none⟩)) y2.s w8
      have hR : listR e (y1 :: y2 :: r2) = hdR e y2 r2 := by
       unfold hdR
       unfold listR
       rw [p1]
       dsimp only [List.tail_cons]
       have : plainE isRate (y2 :: r2) e = if rateOf y2.s = 0 then some ((y2.a : Int), 193) else none := by
        unfold plainE
        rw [hz2]
        by_cases h0 : rateOf y2.s = 0 <;> simp [isRate, h0]
       rw [this]
       by_cases h0 : rateOf y2.s = 0
       ·rw [if_pos h0, if_pos h0]
       ·rw [if_neg h0, if_neg h0]
        dsimp only
        cases nextE true r2 e with
        | some p => rfl
        | none =>
         match r2 with
         | [] => rfl
         | [_] => rfl
         | _ :: _ :: _ => rfl
      rw [hR]
      refine ⟨w9, f31.run rfl ?_, g9⟩
      rw [f31.parts]
      rw [← hn] at k3 k6 k9 rl ⊢
      simp [a1, a2, k3, a3, k5, nq, k6, k8, rl]
      exact k9
   ·have hR : listR e (y1 :: r) = .error ((y1.a : Int), 193) := by
     unfold listR plainE
     rw [hz]
     simp [isList, hL]
    rw [hR]
    have hd : decide (y1.s ≠ tList) = true := by simpa using hL
    rw [hd] at nq
    obtain ⟨w6, w7, k6, x7, k7, x8, l1, l2⟩ := fin_ok x6.drew [] 0 (y1.a : Int) 193
    obtain ⟨a, i0, c0, _, _, _⟩ := rw_at (hrw x6) (k := 0) (y := y1) rfl
    obtain ⟨a', i0', c0', _, _, _⟩ := rw_at (hrw x7) (k := 0) (y := y1) rfl
    have : a' = a := by have := (i0 0).symm.trans (i0' 0); simpa using this.symm
    subst this
    have b1 := build76 (y1.a : Int) 193
    have i1 : Pq Zp (Zj 70 (.slice B n c) (.int .i64 0)) = some (.pointer (some a')) := by rw [hn]; exact i0 c
    refine ⟨w7, f31.run rfl ?_, grown_of x8⟩
    rw [← hn] at k3 ⊢
    simp [f31, a1, a2, k3, a3, k5, nq, build30z, i1, c0, c0', b1, k6, k7, l1, l2, headV]
theorem ref_xr {r : Int} (h1 : 1 ≤ r) (h7 : r ≤ 7) : RefRate r (xrOf r) := by
 obtain ⟨k, rfl⟩ : ∃ k : Nat, r = (k : Int) := ⟨r.toNat, by omega⟩
 rcases (show k = 1 ∨ k = 2 ∨ k = 3 ∨ k = 4 ∨ k = 5 ∨ k = 6 ∨ k = 7 by omega) with rfl | rfl | rfl | rfl | rfl | rfl | rfl
 ·exact (⟨fun w => f124.run rfl (by simp [f124]), fun w => f87.run rfl (by simp [f87]), fun m w hm => left_any _ _ (by decide) m hm w⟩ : RefRate ((1 : Nat) : Int) (24, 24, 1, 0))
 ·exact (⟨fun w => f124.run rfl (by simp [f124]), fun w => f87.run rfl (by simp [f87]), fun m w hm => left_any _ _ (by decide) m hm w⟩ : RefRate ((2 : Nat) : Int) (25, 25, 1, 0))
 ·exact (⟨fun w => f124.run rfl (by simp [f124]), fun w => f87.run rfl (by simp [f87]), fun m w hm => left_any _ _ (by decide) m hm w⟩ : RefRate ((3 : Nat) : Int) (30, 30, 1, 0))
 ·exact (⟨fun w => f124.run rfl (by simp [f124]), fun w => f87.run rfl (by simp [f87]), fun m w hm => left_any _ _ (by decide) m hm w⟩ : RefRate ((4 : Nat) : Int) (30, 30000, 1001, 2))
 ·exact (⟨fun w => f124.run rfl (by simp [f124]), fun w => f87.run rfl (by simp [f87]), fun m w hm => left_any _ _ (by decide) m hm w⟩ : RefRate ((5 : Nat) : Int) (50, 50, 1, 0))
 ·exact (⟨fun w => f124.run rfl (by simp [f124]), fun w => f87.run rfl (by simp [f87]), fun m w hm => left_any _ _ (by decide) m hm w⟩ : RefRate ((6 : Nat) : Int) (60, 60, 1, 0))
 ·exact (⟨fun w => f124.run rfl (by simp [f124]), fun w => f87.run rfl (by simp [f87]), fun m w hm => left_any _ _ (by decide) m hm w⟩ : RefRate ((7 : Nat) : Int) (60, 60000, 1001, 4))
def formL (mk : Nat) : List UInt8 := [100, 100, 58, 100, 100, 58, 100, 100, UInt8.ofNat mk, 100, 100]
theorem formL_at {mk : Nat} (hm : mk = 58 ∨ mk = 59) : ∀ i, i < 11 → ∀ h : i < (formL mk).length, ((formL mk)[i]).toNat = if i = 8 then mk else if i % 3 = 2 then 58 else 100 := by
 rcases hm with rfl | rfl <;> decide
theorem goodB_val {mk i : Nat} {c : UInt8} (hm : mk = 58 ∨ mk = 59) : goodB mk i c = true ↔ (if i = 8 then c.toNat = mk else if i % 3 = 2 then c.toNat = 58 else 48 ≤ c.toNat ∧ c.toNat ≤ 57) := by
 unfold goodB
 split
 ·simp
 ·split <;> simp
theorem formed_ok {r : Int} {x : Int × Int × Int × Int} (R : RefRate r x) (s : List UInt8) (hs : s.length ≤ 1000000) (w : World) :
  ∃ (a : Int) (w' : World), C 125 #[.int .i64 r, st s] w = some (.int .i64 a, w') ∧ w.grownBy w' none ∧ (formB (markOf x.2.2.2) s = true → a = -1) ∧ (formB (markOf x.2.2.2) s = false → 0 ≤ a) := by
 have hsl := fun ty => str_len (P := Zp) Uz ty s
 obtain ⟨mk, hmk⟩ : ∃ mk, mk = markOf x.2.2.2 := ⟨_, rfl⟩
 have hm : mk = 58 ∨ mk = 59 := by rw [hmk]; unfold markOf; split <;> simp
 have bh := ref_behind R w
 rw [← hmk] at bh ⊢
 have a1 := str_add (P := Zp) Uz (Oc (Vs { data := #[100, 100, 58, 100, 100, 58, 100, 100] })) (Ot 9) [100, 100, 58, 100, 100, 58, 100, 100] [UInt8.ofNat mk] (by simp)
 have a2 := str_add (P := Zp) Uz (Ot 10) (Oc (Vs { data := #[100, 100] })) ([100, 100, 58, 100, 100, 58, 100, 100] ++ [UInt8.ofNat mk]) [100, 100] (by simp)
 have a1 : Pq Zp (do eqGuard .add 9 (Oc (Vs { data := #[100, 100, 58, 100, 100, 58, 100, 100] })) (Ot 9) (Vs { data := #[100, 100, 58, 100, 100, 58, 100, 100] }) (st [UInt8.ofNat mk]); binOp .add 9 (Vs { data := #[100, 100, 58, 100, 100, 58, 100, 100] }) (st [UInt8.ofNat mk])) = some (st ([100, 100, 58, 100, 100, 58, 100, 100] ++ [UInt8.ofNat mk])) := a1
 have a2 : Pq Zp (do eqGuard .add 9 (Ot 10) (Oc (Vs { data := #[100, 100] })) (st ([100, 100, 58, 100, 100, 58, 100, 100] ++ [UInt8.ofNat mk])) (Vs { data := #[100, 100] }); binOp .add 9 (st ([100, 100, 58, 100, 100, 58, 100, 100] ++ [UInt8.ofNat mk])) (Vs { data := #[100, 100] })) = some (st (formL mk)) := a2
 obtain ⟨F9, hF9⟩ : ∃ F, F = [100, 100, 58, 100, 100, 58, 100, 100] ++ [UInt8.ofNat mk] := ⟨_, rfl⟩
 rw [← hF9] at a1 a2
 have hfl : (formL mk).length = 11 := rfl
 have hFl := fun ty => str_len (P := Zp) Uz ty (formL mk)
 rw [hfl] at hFl
 have fa := formL_at hm
 obtain ⟨F, hF⟩ : ∃ F, F = formL mk := ⟨_, rfl⟩
 rw [← hF] at a2 hFl hfl fa
 have key := iter_down (f := f125.l0 C) (fun d vs w1 => ∃ (i : Nat) (I : Int), I = (i : Int) ∧ vs = [st s, st F, .int .i64 I] ∧ i + d = 11 ∧ Sat w emp w1 ∧ i ≤ s.length ∧ ∀ j, j < i → goodB mk j (s.getD j 0) = true)
  (fun q => (∃ w', q = .exit 0 [st s, st F] w' ∧ Sat w emp w' ∧ 11 ≤ s.length ∧ ∀ j, j < 11 → goodB mk j (s.getD j 0) = true) ∨ (∃ w' I, q = .ret [.int .i64 I] w' ∧ Sat w emp w' ∧ 0 ≤ I ∧ formB mk s = false)) (by
   rintro d vs w1 ⟨i, I, hI, rfl, hd, y, hi, hg⟩
   cases d with
   | zero =>
    obtain rfl : i = 11 := by omega
    have hlt : ¬ I < 11 := by omega
    exact .inr ⟨_, by simp [f125.l0, hFl, hlt], .inl ⟨w1, rfl, y, hi, hg⟩, by simp⟩
   | succ d =>
    have hlt : I < 11 := by omega
    by_cases hil : i < s.length
    ·have hge : ¬ (s.length : Int) ≤ I := by omega
     have ix := str_index (P := Zp) Uz s .i64 i hil
     have fx := str_index (P := Zp) Uz F .i64 i (by omega)
     rw [fa i (by omega) (by omega)] at fx
     have sg : s.getD i 0 = s[i] := by rw [List.getD_eq_getElem?_getD, Yg hil]; rfl
     obtain ⟨c, hc⟩ : ∃ c, c = s[i] := ⟨_, rfl⟩
     rw [← hc] at ix sg
     rw [← hI] at ix fx
     have gv := goodB_val (mk := mk) (i := i) (c := c) hm
     have hcb := c.toNat_lt
     obtain ⟨v, hv⟩ : ∃ v : Int, v = (c.toNat : Int) := ⟨_, rfl⟩
     rw [← hv] at ix
     obtain ⟨I2, hI2⟩ : ∃ x : Int, x = ((i + 1 : Nat) : Int) := ⟨_, rfl⟩
     have e1 : IntKind.i64.wrap (I + 1) = I2 := (wrap_i64 (by omega) (by omega)).trans (by omega)
     by_cases hgd : goodB mk i c = true
     ·have hg' := gv.mp hgd
      refine .inl ⟨d, _, w1.drew, by omega, ?_, ⟨i + 1, I2, hI2, rfl, by omega, y.drew, by omega, fun j hj => ?_⟩⟩
      ·by_cases h8 : i = 8
       ·rw [if_pos h8] at hg' fx
        obtain ⟨q, hq⟩ : ∃ q : Int, q = ((mk : Nat) : Int) := ⟨_, rfl⟩
        rw [← hq] at fx
        have nq : ¬ q = 100 := by omega
        have veq : v = q := by omega
        rw [veq] at ix
        by_cases d1 : (48 : Int) ≤ q <;> simp [f125.l0, hFl, hlt, hsl, hge, ix, fx, nq, e1, d1]
       ·rw [if_neg h8] at hg' fx
        by_cases h3 : i % 3 = 2
        ·rw [if_pos h3] at hg' fx
         have veq : v = 58 := by omega
         rw [veq] at ix
         have fx : Pq Zp (Zi 9 (st F) (.int .i64 I)) = some (.int .u8 58) := fx
         simp [f125.l0, hFl, hlt, hsl, hge, ix, fx, e1]
        ·rw [if_neg h3] at hg' fx
         have fx : Pq Zp (Zi 9 (st F) (.int .i64 I)) = some (.int .u8 100) := fx
         have d1 : (48 : Int) ≤ v := by omega
         have d2 : v ≤ 57 := by omega
         simp [f125.l0, hFl, hlt, hsl, hge, ix, fx, e1, d1, d2]
      ·by_cases hj' : j < i
       ·exact hg j hj'
       ·obtain rfl : j = i := by omega
        rw [sg]; exact hgd
     ·have hg' := mt gv.mpr hgd
      have hbad : formB mk s = false := by
       cases hf : formB mk s with
       | false => rfl
       | true =>
        have := ((formB_iff _ _).mp hf).2 i c (by rw [hc]; exact Yg hil)
        exact absurd this hgd
      refine .inr ⟨.ret [.int .i64 I] w1.drew, ?_, .inr ⟨w1.drew, I, rfl, y.drew, by omega, hbad⟩, by simp⟩
      by_cases h8 : i = 8
      ·rw [if_pos h8] at hg' fx
       obtain ⟨q, hq⟩ : ∃ q : Int, q = ((mk : Nat) : Int) := ⟨_, rfl⟩
       rw [← hq] at fx
       have nq : ¬ q = 100 := by omega
       have veq : ¬ v = q := by omega
       by_cases d1 : (48 : Int) ≤ v <;> simp [f125.l0, hFl, hlt, hsl, hge, ix, fx, nq, veq, d1]
      ·rw [if_neg h8] at hg' fx
       by_cases h3 : i % 3 = 2
       ·rw [if_pos h3] at hg' fx
        have veq : ¬ v = 58 := by omega
        have fx : Pq Zp (Zi 9 (st F) (.int .i64 I)) = some (.int .u8 58) := fx
        by_cases d1 : (48 : Int) ≤ v <;> simp [f125.l0, hFl, hlt, hsl, hge, ix, fx, veq, d1]
       ·rw [if_neg h3] at hg' fx
        have fx : Pq Zp (Zi 9 (st F) (.int .i64 I)) = some (.int .u8 100) := fx
        by_cases d1 : (48 : Int) ≤ v
        ·have d2 : ¬ v ≤ 57 := by omega
         simp [f125.l0, hFl, hlt, hsl, hge, ix, fx, d1, d2]
        ·simp [f125.l0, hFl, hlt, hsl, hge, ix, fx, d1]
    ·have hge : (s.length : Int) ≤ I := by omega
     have hbad : formB mk s = false := by
      cases hf : formB mk s with
      | false => rfl
      | true =>
       have := ((formB_iff _ _).mp hf).1
       omega
     exact .inr ⟨.ret [.int .i64 I] w1, by simp [f125.l0, hFl, hlt, hsl, hge], .inr ⟨w1, I, rfl, y, by omega, hbad⟩, by simp⟩) 11 _ w ⟨0, 0, rfl, rfl, by omega, emp_sat w, by omega, fun j hj => by omega⟩
 obtain ⟨q, h1, h2⟩ := key
 rcases h2 with ⟨w', rfl, y, hl, hg⟩ | ⟨w', I, rfl, y, hI, hf⟩
 ·by_cases hgt : 11 < s.length
  ·have hgt' : (11 : Int) < s.length := by omega
   have hbad : formB mk s = false := by
    cases hf : formB mk s with
    | false => rfl
    | true =>
     have := ((formB_iff _ _).mp hf).1
     omega
   refine ⟨11, w', f125.run rfl ?_, grown_of y, fun h => (by rw [hbad] at h; cases h), fun _ => by omega⟩
   simp [f125, bh, a1, a2, h1, hsl, hFl, hgt']
  ·have hgt' : ¬ (11 : Int) < s.length := by omega
   have hgood : formB mk s = true := by
    rw [formB_iff]
    refine ⟨by omega, fun i c hc => ?_⟩
    have hi := (List.getElem?_eq_some_iff.mp hc).1
    have := hg i (by omega)
    rw [List.getD_eq_getElem?_getD, hc] at this
    exact this
   refine ⟨-1, w', f125.run rfl ?_, grown_of y, fun _ => rfl, fun h => (by rw [hgood] at h; cases h)⟩
   simp [f125, bh, a1, a2, h1, hsl, hFl, hgt']
 ·refine ⟨I, w', f125.run rfl ?_, grown_of y, fun h => (by rw [hf] at h; cases h), fun _ => hI⟩
  simp [f125, bh, a1, a2, h1]
theorem xr_in {r : Int} (h1 : 1 ≤ r) (h7 : r ≤ 7) : xrOf r ∈ rates ∧ (xrOf r).1 ≠ 0 := by
 refine ⟨List.mem_of_getElem? (xrOf_ok h1 h7), ?_⟩
 obtain ⟨k, rfl⟩ : ∃ k : Nat, r = (k : Int) := ⟨r.toNat, by omega⟩
 rcases (show k = 1 ∨ k = 2 ∨ k = 3 ∨ k = 4 ∨ k = 5 ∨ k = 6 ∨ k = 7 by omega) with rfl | rfl | rfl | rfl | rfl | rfl | rfl <;> decide
theorem value_ok {mk : Nat} {s : List UInt8} (hf : formB mk s = true) {i : Nat} (hi : i = 0 ∨ i = 3 ∨ i = 6 ∨ i = 9) (w : World) : C 126 #[st s, .int .i64 (i : Int)] w = some (.int .i64 (pt s i : Int), w.drew) ∧ pt s i < 100 := by
 obtain ⟨d0, d1, d2⟩ := dig_at hf (i := i) (by omega) (by omega) (by omega) (by omega)
 have hl := ((formB_iff _ _).mp hf).1
 have ix0 := str_index (P := Zp) Uz s .i64 i (by omega)
 have ix1 := str_index (P := Zp) Uz s .i64 (i + 1) (by omega)
 have e0 : (s[i]'(by omega)).toNat = 48 + pt s i / 10 := by
  rw [Yg (by omega)] at d0
  rw [Option.some.inj d0]
  simp; omega
 have e1 : (s[i + 1]'(by omega)).toNat = 48 + pt s i % 10 := by
  rw [Yg (by omega)] at d1
  rw [Option.some.inj d1]
  simp; omega
 rw [e0] at ix0
 rw [e1] at ix1
 refine ⟨f126.run rfl ?_, d2⟩
 obtain ⟨A, hA⟩ : ∃ A : Int, A = ((48 + pt s i / 10 : Nat) : Int) := ⟨_, rfl⟩
 obtain ⟨A', hA'⟩ : ∃ A : Int, A = ((pt s i / 10 : Nat) : Int) := ⟨_, rfl⟩
 obtain ⟨B, hB⟩ : ∃ B : Int, B = ((48 + pt s i % 10 : Nat) : Int) := ⟨_, rfl⟩
 obtain ⟨B', hB'⟩ : ∃ B : Int, B = ((pt s i % 10 : Nat) : Int) := ⟨_, rfl⟩
 obtain ⟨T, hT⟩ : ∃ T : Int, T = ((pt s i : Nat) : Int) := ⟨_, rfl⟩
 obtain ⟨I, hI⟩ : ∃ I : Int, I = ((i : Nat) : Int) := ⟨_, rfl⟩
 obtain ⟨I1, hI1⟩ : ∃ I : Int, I = ((i + 1 : Nat) : Int) := ⟨_, rfl⟩
 rw [← hA, ← hI] at ix0
 rw [← hB, ← hI1] at ix1
 have s0 : IntKind.u8.wrap (A - 48) = A' := (wrap_u8 (by omega) (by omega)).trans (by omega)
 have s1 : IntKind.u8.wrap (B - 48) = B' := (wrap_u8 (by omega) (by omega)).trans (by omega)
 have c0 := cv5_3c A' (by omega) (by omega)
 have c1 := cv5_3c B' (by omega) (by omega)
 have m0 : IntKind.i64.wrap (10 * A') = 10 * A' := wrap_i64 (by omega) (by omega)
 have m1 : IntKind.i64.wrap (10 * A' + B') = T := (wrap_i64 (by omega) (by omega)).trans (by omega)
 have e2 : IntKind.i64.wrap (I + 1) = I1 := (wrap_i64 (by omega) (by omega)).trans (by omega)
 rw [← hT, ← hI]
 simp [f126, ix0, ix1, s0, s1, c0, c1, m0, m1, e2]
theorem numP_cum {x : Int × Int × Int × Int} (hx : x ∈ rates) (h0 : x.1 ≠ 0) (h mi se fr : Nat) :
  (x.1 * (se : Int) + (fr : Int) - leftAt x.2.2.2 (60 * h + mi)) + cum x.1 x.2.2.2 (60 * h + mi) = numP x.1 x.2.2.2 h mi se fr := by
 obtain ⟨m, hm⟩ : ∃ m, m = 60 * h + mi := ⟨_, rfl⟩
 have hm' : (60 * (h : Int) + (mi : Int)) = (m : Int) := by omega
 unfold numP
 rw [hm', ← hm]
 unfold leftAt
 simp only [rates, List.mem_cons, List.not_mem_nil, or_false] at hx
 rcases hx with rfl | rfl | rfl | rfl | rfl | rfl | rfl | rfl
 ·simp at h0
 ·rw [cum0]; simp only; split <;> omega
 ·rw [cum0]; simp only; split <;> omega
 ·rw [cum0]; simp only; split <;> omega
 ·rw [cum2]; simp only; split <;> omega
 ·rw [cum0]; simp only; split <;> omega
 ·rw [cum0]; simp only; split <;> omega
 ·rw [cum4]; simp only; split <;> omega
theorem told_ok {r : Int} (h1 : 1 ≤ r) (h7 : r ≤ 7) (s : List UInt8) (hs : s.length ≤ 1000000) (w : World) :
  ∃ (n p z : Int) (w' : World), C 103 #[.int .i64 r, st s] w = some (.tuple #[.int .i64 n, .int .i64 p, .int .i64 z], w') ∧ w.grownBy w' none ∧ ((numOf (xrOf r) s = some n ∧ z = 0) ∨ (numOf (xrOf r) s = none ∧ z ≠ 0)) := by
 have R := ref_xr h1 h7
 obtain ⟨hx, h0⟩ := xr_in h1 h7
 obtain ⟨r1, r2, r3, r4⟩ := rate_in hx h0
 obtain ⟨x, hxe⟩ : ∃ x, x = xrOf r := ⟨_, rfl⟩
 rw [← hxe] at R hx h0 r1 r2 r3 r4 ⊢
 obtain ⟨a, w1, k1, g1, f1, f2⟩ := formed_ok R s hs w
 have m0 := R.may w
 cases hf : formB (markOf x.2.2.2) s with
 | false =>
  have ha := f2 hf
  refine ⟨0, a, 182, w1, f103.run rfl ?_, g1, .inr ⟨?_, by decide⟩⟩
  ·simp [f103, m0, k1, ha]
  ·unfold numOf
   rw [if_neg (by rw [hf]; simp)]
 | true =>
  obtain rfl := f1 hf
  obtain ⟨v0, l0⟩ := value_ok hf (i := 0) (by omega) w1
  obtain ⟨v3, l3⟩ := value_ok hf (i := 3) (by omega) w1.drew
  obtain ⟨v6, l6⟩ := value_ok hf (i := 6) (by omega) w1.drew.drew
  obtain ⟨v9, l9⟩ := value_ok hf (i := 9) (by omega) w1.drew.drew.drew
  have gd : ∀ u : World, u.grownBy u.drew none := fun u => grown_of (emp_sat u).drew
  have g5 : w.grownBy w1.drew.drew.drew.drew none := grown_of (((((emp_sat w).grown g1).drew).drew.drew).drew)
  obtain ⟨w5, hw5⟩ : ∃ w5, w5 = w1.drew.drew.drew.drew := ⟨_, rfl⟩
  obtain ⟨w4, hw4⟩ : ∃ w4, w4 = w1.drew.drew.drew := ⟨_, rfl⟩
  obtain ⟨w3, hw3⟩ : ∃ w3, w3 = w1.drew.drew := ⟨_, rfl⟩
  obtain ⟨w2, hw2⟩ : ∃ w2, w2 = w1.drew := ⟨_, rfl⟩
  rw [← hw5] at v9 g5
  rw [← hw4] at v6 v9
  rw [← hw3] at v3 v6
  rw [← hw2] at v0 v3
  obtain ⟨h, hh⟩ : ∃ h, h = pt s 0 := ⟨_, rfl⟩
  obtain ⟨mi, hmi⟩ : ∃ h, h = pt s 3 := ⟨_, rfl⟩
  obtain ⟨se, hse⟩ : ∃ h, h = pt s 6 := ⟨_, rfl⟩
  obtain ⟨fr, hfr⟩ : ∃ h, h = pt s 9 := ⟨_, rfl⟩
  rw [← hh] at v0 l0
  rw [← hmi] at v3 l3
  rw [← hse] at v6 l6
  rw [← hfr] at v9 l9
  have v0 : C 126 #[st s, .int .i64 0] w1 = some (.int .i64 (h : Int), w2) := v0
  have v3 : C 126 #[st s, .int .i64 3] w2 = some (.int .i64 (mi : Int), w3) := v3
  have v6 : C 126 #[st s, .int .i64 6] w3 = some (.int .i64 (se : Int), w4) := v6
  have v9 : C 126 #[st s, .int .i64 9] w4 = some (.int .i64 (fr : Int), w5) := v9
  have hN : numOf x s = if partBad x h mi se fr = false then some (numP x.1 x.2.2.2 h mi se fr) else none := by
   unfold numOf
   rw [hf, ← hh, ← hmi, ← hse, ← hfr]
   simp
  have ct := R.count w5
  by_cases b1 : 23 < h
  ·have b1' : (23 : Int) < h := by omega
   refine ⟨0, 0, 184, w5, f103.run rfl ?_, g5, .inr ⟨?_, by decide⟩⟩
   ·simp [f103, m0, k1, v0, v3, v6, v9, b1']
   ·rw [hN, if_neg]; simp [partBad, b1]
  have b1' : ¬ (23 : Int) < h := by omega
  by_cases b2 : 59 < mi
  ·have b2' : (59 : Int) < mi := by omega
   refine ⟨0, 3, 182, w5, f103.run rfl ?_, g5, .inr ⟨?_, by decide⟩⟩
   ·simp [f103, m0, k1, v0, v3, v6, v9, b1', b2']
   ·rw [hN, if_neg]; simp [partBad, b2]
  have b2' : ¬ (59 : Int) < mi := by omega
  by_cases b3 : 59 < se
  ·have b3' : (59 : Int) < se := by omega
   refine ⟨0, 6, 182, w5, f103.run rfl ?_, g5, .inr ⟨?_, by decide⟩⟩
   ·simp [f103, m0, k1, v0, v3, v6, v9, b1', b2', b3']
   ·rw [hN, if_neg]; simp [partBad, b3]
  have b3' : ¬ (59 : Int) < se := by omega
  by_cases b4 : x.1 ≤ (fr : Int)
  ·refine ⟨0, 9, 182, w5, f103.run rfl ?_, g5, .inr ⟨?_, by decide⟩⟩
   ·simp [f103, m0, k1, v0, v3, v6, v9, b1', b2', b3', ct, b4]
   ·rw [hN, if_neg]; simp [partBad, b4]
  obtain ⟨m, hm⟩ : ∃ m, m = 60 * h + mi := ⟨_, rfl⟩
  have lf := R.left m w5 (by omega)
  have q1 : IntKind.i64.wrap (60 * (h : Int)) = 60 * (h : Int) := wrap_i64 (by omega) (by omega)
  have q2 : IntKind.i64.wrap (60 * (h : Int) + (mi : Int)) = (m : Int) := (wrap_i64 (by omega) (by omega)).trans (by omega)
  have cs1 : 0 ≤ x.1 * (se : Int) ∧ x.1 * (se : Int) ≤ 60 * 59 := ⟨Int.mul_nonneg (by omega) (by omega), Int.mul_le_mul (by omega) (by omega) (by omega) (by omega)⟩
  have q3 : IntKind.i64.wrap (x.1 * (se : Int)) = x.1 * (se : Int) := wrap_i64 (by omega) (by omega)
  obtain ⟨K, hK⟩ : ∃ K : Int, K = x.1 * (se : Int) + (fr : Int) := ⟨_, rfl⟩
  have q4 : IntKind.i64.wrap (x.1 * (se : Int) + (fr : Int)) = K := (wrap_i64 (by omega) (by omega)).trans hK.symm
  have la := leftAt_in (d := x.2.2.2) (by omega) m
  obtain ⟨La, hLa⟩ : ∃ L, L = leftAt x.2.2.2 m := ⟨_, rfl⟩
  rw [← hLa] at lf la
  have hpb : partBad x h mi se fr = decide (K < La) := by
   have e1 : (decide (23 < h) || decide (59 < mi) || decide (59 < se) || decide (x.1 ≤ (fr : Int))) = false := by simp [b1, b2, b3, b4]
   unfold partBad
   rw [e1, Bool.false_or]
   have hmm : m % 10 = mi % 10 := by omega
   rw [hLa, hK]
   unfold leftAt
   rw [hmm]
   by_cases c1 : mi % 10 = 0
   ·rw [if_pos c1]
    have : ¬ (x.1 * (se : Int) + (fr : Int) < 0) := by omega
    simp [c1, this]
   ·rw [if_neg c1]
    by_cases c2 : se = 0
    ·subst c2
     simp [c1]
    ·have h24 : x.1 * 1 ≤ x.1 * (se : Int) := Int.mul_le_mul_of_nonneg_left (by omega) (by omega)
     have : ¬ (x.1 * (se : Int) + (fr : Int) < x.2.2.2) := by omega
     simp [c1, c2, this]
  by_cases b5 : K < La
  ·refine ⟨0, 9, 183, w5, f103.run rfl ?_, g5, .inr ⟨?_, by decide⟩⟩
   ·simp [f103, m0, k1, v0, v3, v6, v9, b1', b2', b3', ct, b4, q1, q2, q3, q4, lf, b5]
   ·rw [hN, hpb, if_neg]; simp [b5]
  ·have key := iter_down (f := f103.l0 C) (fun d vs w6 => ∃ (i : Nat) (I N : Int), I = (i : Int) ∧ N = K - La + cum x.1 x.2.2.2 i ∧ vs = [.int .i64 r, .int .i64 (m : Int), .int .i64 N, .int .i64 I] ∧ i + d = m ∧ w6 = w5)
    (fun q => q = .exit 1 [.int .i64 (K - La + cum x.1 x.2.2.2 m)] w5) (by
     rintro d vs w6 ⟨i, I, N, hI, hN, rfl, hd, rfl⟩
     cases d with
     | zero =>
      obtain rfl : i = m := by omega
      have hlt : ¬ I < (i : Int) := by omega
      rw [← hN]
      exact .inr ⟨_, by simp [f103.l0, hlt], rfl, by simp⟩
     | succ d =>
      have hlt : I < (m : Int) := by omega
      have lf := R.left i w6 (by omega)
      rw [← hI] at lf
      have la2 := leftAt_in (d := x.2.2.2) (by omega) i
      have ci := cum_in ⟨r1, r2⟩ ⟨r3, r4⟩ i
      have cx : cum x.1 x.2.2.2 (i + 1) = cum x.1 x.2.2.2 i + (60 * x.1 - leftAt x.2.2.2 i) := rfl
      obtain ⟨L2, hL2⟩ : ∃ L, L = leftAt x.2.2.2 i := ⟨_, rfl⟩
      rw [← hL2] at lf la2 cx
      obtain ⟨I2, hI2⟩ : ∃ x : Int, x = ((i + 1 : Nat) : Int) := ⟨_, rfl⟩
      have ct := R.count w6
      have e1 : IntKind.i64.wrap (I + 1) = I2 := (wrap_i64 (by omega) (by omega)).trans (by omega)
      have e2 : IntKind.i64.wrap (60 * x.1) = 60 * x.1 := wrap_i64 (by omega) (by omega)
      have e3 : IntKind.i64.wrap (N + 60 * x.1) = N + 60 * x.1 := wrap_i64 (by omega) (by omega)
      have e4 : IntKind.i64.wrap (N + 60 * x.1 - L2) = N + 60 * x.1 - L2 := wrap_i64 (by omega) (by omega)
      refine .inl ⟨d, _, w6, by omega, ?_, ⟨i + 1, I2, N + 60 * x.1 - L2, hI2, by omega, rfl, by omega, rfl⟩⟩
      simp [f103.l0, hlt, ct, e2, e3, lf, e4, e1]) m _ w5 ⟨0, 0, K - La, rfl, by simp [cum], rfl, by omega, rfl⟩
   obtain ⟨q, i1, rfl⟩ := key
   have e5 : IntKind.i64.wrap (K - La) = K - La := wrap_i64 (by omega) (by omega)
   have np := numP_cum hx h0 h mi se fr
   rw [← hm, ← hK, ← hLa] at np
   rw [np] at i1
   refine ⟨numP x.1 x.2.2.2 h mi se fr, 0, 0, w5, f103.run rfl ?_, g5, .inl ⟨?_, rfl⟩⟩
   ·simp [f103, m0, k1, v0, v3, v6, v9, b1', b2', b3', ct, b4, q1, q2, q3, q4, lf, b5, e5, i1]
   ·rw [hN, hpb, if_pos]; simp [b5]
theorem rnumber_ok {r : Int} (h1 : 1 ≤ r) (h7 : r ≤ 7) (s : List UInt8) (hs : s.length ≤ 1000000) (w : World) :
  ∃ (n z : Int) (w' : World), C 74 #[.int .i64 r, st s] w = some (.tuple #[.int .i64 n, .int .i64 z], w') ∧ w.grownBy w' none ∧ ((numOf (xrOf r) s = some n ∧ z = 0) ∨ (numOf (xrOf r) s = none ∧ z ≠ 0)) := by
 obtain ⟨n, p, z, w', h, g, hc⟩ := told_ok h1 h7 s hs w
 exact ⟨n, z, w', f74.run rfl (by simp [f74, h]), g, hc⟩
theorem rfade_ok {w : World} {A : Option Addr} {c : Nat} {q : List Ev} {e : Ev} (hr : Rd w A ((q ++ [e]).flatMap Ev.cs)) (hl : q.length ≤ 1000000) (he : 0 ≤ e.i ∧ e.i ≤ 1000000000 ∧ 0 ≤ e.o ∧ e.o ≤ 1000000000) (ha : ∀ x ∈ q, x.mid ∧ 0 ≤ x.f ∧ x.f ≤ 100) :
  ∃ w', C 75 #[.slice A (q ++ [e]).length c] w = some (.bool (fadeMay q e), w') ∧ w.grownBy w' none := by
 obtain ⟨n, hn⟩ : ∃ n, n = (q ++ [e]).length := ⟨_, rfl⟩
 have hn1 : n = q.length + 1 := by rw [hn]; simp
 rw [← hn]
 have hlast : (q ++ [e])[q.length]? = some e := by simp
 cases A with
 | none =>
  have h0 : (q ++ [e]).flatMap Ev.cs = [] := hr
  simp [Ev.cs] at h0
 | some a =>
  have e1 : IntKind.i64.wrap ((n : Int) - 1) = (q.length : Int) := (wrap_i64 (by omega) (by omega)).trans (by omega)
  have i1 := ix28 a n c .i64 (q.length : Int) (by omega) (by omega)
  rw [Int.toNat_natCast] at i1
  have l1 := ev_ld hr hlast
  obtain ⟨w1, h1, b1, g1⟩ := lay51 e w
  have c1 := b1.cell_eq 1 rfl
  have c2 := b1.cell_eq 2 rfl
  have c3 := b1.cell_eq 3 rfl
  have z3 : IntKind.i64.wrap (e.o - e.i) = e.o - e.i := wrap_i64 (by omega) (by omega)
  by_cases z1 : e.f < 0
  ·have f0 : fadeMay q e = false := by
    unfold fadeMay
    have a1 : ¬ e.f = 0 := by omega
    have a2 : ¬ 0 ≤ e.f := by omega
    simp [a1, a2]
   refine ⟨w1, f75.run rfl ?_, g1⟩
   rw [f0]
   simp [f75, e1, i1, l1, alloc51, h1, addL, c3, z1]
  by_cases z2 : 100 < e.f
  ·have f0 : fadeMay q e = false := by
    unfold fadeMay
    have a1 : ¬ e.f = 0 := by omega
    have a2 : ¬ e.f ≤ 100 := by omega
    simp [a1, a2]
   refine ⟨w1, f75.run rfl ?_, g1⟩
   rw [f0]
   simp [f75, e1, i1, l1, alloc51, h1, addL, c3, z1, z2]
  by_cases z0 : e.f = 0
  ·have f0 : fadeMay q e = true := by unfold fadeMay; simp [z0]
   refine ⟨w1, f75.run rfl ?_, g1⟩
   rw [f0]
   rw [z0] at c3
   simp [f75, e1, i1, l1, alloc51, h1, addL, c3]
  cases hgl : q.getLast? with
  | none =>
   have hq : q = [] := by simpa using hgl
   subst hq
   have f0 : fadeMay [] e = false := by unfold fadeMay; simp [z0]
   refine ⟨w1, f75.run rfl ?_, g1⟩
   rw [f0]
   have e1 : IntKind.i64.wrap ((n : Int) - 1) = 0 := e1
   have i1 : Pq Zp (Zj 28 (.slice (some a) n c) (.int .i64 0)) = some (.pointer (some (a.add 0))) := i1
   have l1 : Rq Zp (Zl 51 (.pointer (some (a.add 0)))) w = some e.v := l1
   rw [add0] at i1 l1
   simp [f75, e1, i1, l1, alloc51, h1, addL, c3, z1, z2, z0]
  | some l =>
   have hne : q ≠ [] := by rintro rfl; simp at hgl
   have hpos : 0 < q.length := List.length_pos_iff.mpr hne
   have hl1 : (q ++ [e])[q.length - 1]? = some l := by
    rw [List.getLast?_eq_getElem?] at hgl
    rw [Yf (by omega)]
    exact hgl
   obtain ⟨⟨l0, l1', l2⟩, l3, l4⟩ := ha l (by rw [List.getLast?_eq_getElem?] at hgl; exact List.mem_of_getElem? hgl)
   have ll : ¬ ((q.length : Int) = 0) := by omega
   by_cases z4 : e.o - e.i < e.f
   ·have f0 : fadeMay q e = false := by
     unfold fadeMay
     have a2 : ¬ e.f ≤ e.o - e.i := by omega
     simp [z0, a2]
    refine ⟨w1, f75.run rfl ?_, g1⟩
    rw [f0]
    obtain ⟨N, hN⟩ : ∃ N : Int, N = (q.length : Int) := ⟨_, rfl⟩
    rw [← hN] at e1 i1 ll
    simp [f75, e1, i1, l1, alloc51, h1, addL, c1, c2, c3, z1, z2, z0, ll, z3, z4]
   ·have e2 : IntKind.i64.wrap ((q.length : Int) - 1) = ((q.length - 1 : Nat) : Int) := (wrap_i64 (by omega) (by omega)).trans (by omega)
    have i2 := ix28 a n c .i64 ((q.length - 1 : Nat) : Int) (by omega) (by omega)
    rw [Int.toNat_natCast] at i2
    have l5 := ev_ld (hr.grown g1) hl1
    obtain ⟨w2, h2, b2, g2⟩ := lay51 l w1
    have b1' : Blk w2 w.heap.size 51 e.cs := Blk.grown b1 g2 (by simp)
    have c3' := b1'.cell_eq 3 rfl
    have d1 := b2.cell_eq 1 rfl
    have d2 := b2.cell_eq 2 rfl
    have d3 := b2.cell_eq 3 rfl
    have e3 : IntKind.i64.wrap (l.o - l.i) = l.o - l.i := wrap_i64 (by omega) (by omega)
    have e4 : IntKind.i64.wrap (l.o - l.i - l.f) = l.o - l.i - l.f := wrap_i64 (by omega) (by omega)
    have f0 : fadeMay q e = decide (e.f ≤ l.o - l.i - l.f) := by
     unfold fadeMay
     have a1 : 0 ≤ e.f := by omega
     have a2 : e.f ≤ 100 := by omega
     have a3 : e.f ≤ e.o - e.i := by omega
     rw [hgl]
     simp [z0, a1, a2, a3]
    refine ⟨w2, f75.run rfl ?_, grown_trans g1 g2 (by simp)⟩
    rw [f0]
    obtain ⟨M, hM⟩ : ∃ N : Int, N = ((q.length - 1 : Nat) : Int) := ⟨_, rfl⟩
    obtain ⟨N, hN⟩ : ∃ N : Int, N = (q.length : Int) := ⟨_, rfl⟩
    rw [← hM] at e2 i2
    rw [← hN] at e1 i1 ll e2
    simp [f75, e1, i1, l1, alloc51, h1, addL, c1, c2, c3, z1, z2, z0, ll, z3, z4, e2, i2, l5, h2, c3', d1, d2, d3, e3, e4]
noncomputable def nmB (call : CallF) (vs : List Value) (W1 : World) : Option Res :=
 let l0_1 := nth vs 0
 let end1_1 := nth vs 1
 let v4 := nth vs 2
 let v6 := nth vs 3
 let e7 := nth vs 4
 let x9 := nth vs 5
 let k11 := nth vs 6
 (call 71 #[l0_1, end1_1, k11] W1).bind fun r65 =>
 (Pq Zp (Zx r65.1 0)).bind fun v66 =>
 (Pq Zp (Zx r65.1 1)).bind fun v67 =>
 (Pq Zp (Zx r65.1 2)).bind fun v68 =>
 (Eq_ Zp (Zs 76 x9 v67) r65.2).bind fun r_19 =>
 (Pq Zp (Op.unary .not v68)).bind fun v70 =>
 (asB v70).bind fun c70 =>
 if c70 then
  ((Rq Zp (Zl 51 e7) r_19.2.drew).bind fun v71 =>
  some (v71, r_19.2.drew)).bind fun r71 =>
  ((Rq Zp (Zl 76 x9) r71.2).bind fun v72 =>
  some (v72, r71.2)).bind fun r72 =>
  ((Eq_ Zp (Zs 51 v4 r71.1) r72.2).bind fun r_21 =>
  some (undef, r_21.2)).bind fun r_20 =>
  ((Eq_ Zp (Zs 76 v6 r72.1) r_20.2).bind fun r_23 =>
  some (undef, r_23.2)).bind fun r_22 =>
  chkThen ((((Rq Zp (Zl 76 x9) r72.2).bind fun v72_1 => some v72_1) = some r72.1 ∧ ((Rq Zp (Zl 76 x9) r_20.2).bind fun v72_2 => some v72_2) = some r72.1) ∧ True)
  (some (Xr [v4, (Vi Ki 0), v6] r_22.2))
 else
 (call 102 #[v66] r_19.2).bind fun r74 =>
 (Pq Zp (Op.unary .not r74.1)).bind fun v76 =>
 (asB v76).bind fun c76 =>
 if c76 then
  ((Rq Zp (Zl 51 e7) r74.2.drew).bind fun v77 =>
  some (v77, r74.2.drew)).bind fun r77 =>
  ((Pq Zp (Zj 70 l0_1 k11)).bind fun v80 =>
  some (v80, r77.2)).bind fun r80 =>
  ((Pq Zp (Zf 74 r80.1 0)).bind fun v81 =>
  some (v81, r80.2)).bind fun r81 =>
  ((Rq Zp (Zl 3 r81.1) r81.2).bind fun v82 =>
  some (v82, r81.2)).bind fun r82 =>
  ((Pq Zp (Zb 76 #[(0, r82.1), (1, (Vi Ki 193))])).bind fun v83 =>
  some (v83, r82.2)).bind fun r83 =>
  ((Eq_ Zp (Zs 51 v4 r77.1) r83.2).bind fun r_25 =>
  some (undef, r_25.2)).bind fun r_24 =>
  ((Eq_ Zp (Zs 76 v6 r83.1) r_24.2).bind fun r_27 =>
  some (undef, r_27.2)).bind fun r_26 =>
  chkThen ((((Rq Zp (Zl 3 r81.1) r83.2).bind fun v82_1 => some v82_1) = some r82.1 ∧ ((Rq Zp (Zl 3 r81.1) r_24.2).bind fun v82_2 => some v82_2) = some r82.1) ∧ True)
  (some (Xr [v4, (Vi Ki 0), v6] r_26.2))
 else
 (Pq Zp (Zf 51 e7 0)).bind fun v85 =>
 (Eq_ Zp (Zs 9 v85 v66) r74.2).bind fun r_28 =>
 (Rq Zp (Zl 51 e7) r_28.2).bind fun v86 =>
 (bin .add k11 (Vi Ki 1)).bind fun v88 =>
 (Pq Zp (Zb 76 #[])).bind fun v89 =>
 (Eq_ Zp (Zs 51 v4 v86) r_28.2).bind fun r_29 =>
 (Eq_ Zp (Zs 76 v6 v89) r_29.2).bind fun r_30 =>
 some (Xr [v4, v88, v6] r_30.2)
theorem f73.parts (call : CallF) (l0 : Value) (end1 : Value) (W0 : World) : f73 call l0 end1 W0 =
 ((Eq_ Zp (Za 51 true (.tuple #[])) W0).bind fun r4 =>
 (Eq_ Zp (Za 76 true (.tuple #[])) r4.2).bind fun r6 =>
 (Eq_ Zp (Za 51 true (.tuple #[])) r6.2).bind fun r7 =>
 (call 71 #[l0, end1, (Vi Ki 0)] r7.2).bind fun r16 =>
 (Pq Zp (Zx r16.1 0)).bind fun v17 =>
 (Pq Zp (Zx r16.1 1)).bind fun v18 =>
 (Pq Zp (Zx r16.1 2)).bind fun v19 =>
 (Eq_ Zp (Za 76 true (.tuple #[])) r16.2).bind fun r9 =>
 (Eq_ Zp (Zs 76 r9.1 v18) r9.2).bind fun r =>
 (Pq Zp (Op.unary .not v19)).bind fun v21 =>
 (asB v21).bind fun c21 =>
 if c21 then
  ((Rq Zp (Zl 51 r7.1) r.2.drew).bind fun v22 =>
  some (v22, r.2.drew)).bind fun r22 =>
  ((Rq Zp (Zl 76 r9.1) r22.2).bind fun v23 =>
  some (v23, r22.2)).bind fun r23 =>
  ((Eq_ Zp (Zs 51 r4.1 r22.1) r23.2).bind fun r_2 =>
  some (undef, r_2.2)).bind fun r_1 =>
  ((Eq_ Zp (Zs 76 r6.1 r23.1) r_1.2).bind fun r_4 =>
  some (undef, r_4.2)).bind fun r_3 =>
  chkThen ((((Rq Zp (Zl 76 r9.1) r23.2).bind fun v23_1 => some v23_1) = some r23.1 ∧ ((Rq Zp (Zl 76 r9.1) r_1.2).bind fun v23_2 => some v23_2) = some r23.1) ∧ True)
  (some (Xr [r4.1, (Vi Ki 0), r6.1] r_3.2))
 else
 (Pq Zp (do eqGuard .neq 9 (Ot 24) (Oc (Vs { data := #[99, 117, 116] })) v17 (Vs { data := #[99, 117, 116] }); binOp .neq 9 v17 (Vs { data := #[99, 117, 116] }))).bind fun v25 =>
 (asB v25).bind fun b26 =>
 (if b26 = true then (Pq Zp (do eqGuard .neq 9 (Ot 27) (Oc (Vs { data := #[102, 97, 100, 101] })) v17 (Vs { data := #[102, 97, 100, 101] }); binOp .neq 9 v17 (Vs { data := #[102, 97, 100, 101] }))).bind fun v28 =>
  some (v28, r.2)
  else some ((Vb false), r.2)).bind fun r29 =>
 (asB r29.1).bind fun c29 =>
 if c29 then
  ((Rq Zp (Zl 51 r7.1) r29.2.drew).bind fun v30 =>
  some (v30, r29.2.drew)).bind fun r30 =>
  ((Pq Zp (Zj 70 l0 (Vi Ki 0))).bind fun v32 =>
  some (v32, r30.2)).bind fun r32 =>
  ((Pq Zp (Zf 74 r32.1 0)).bind fun v33 =>
  some (v33, r32.2)).bind fun r33 =>
  ((Rq Zp (Zl 3 r33.1) r33.2).bind fun v34 =>
  some (v34, r33.2)).bind fun r34 =>
  ((Pq Zp (Zb 76 #[(0, r34.1), (1, (Vi Ki 193))])).bind fun v35 =>
  some (v35, r34.2)).bind fun r35 =>
  ((Eq_ Zp (Zs 51 r4.1 r30.1) r35.2).bind fun r_6 =>
  some (undef, r_6.2)).bind fun r_5 =>
  ((Eq_ Zp (Zs 76 r6.1 r35.1) r_5.2).bind fun r_8 =>
  some (undef, r_8.2)).bind fun r_7 =>
  chkThen ((((Rq Zp (Zl 3 r33.1) r35.2).bind fun v34_1 => some v34_1) = some r34.1 ∧ ((Rq Zp (Zl 3 r33.1) r_5.2).bind fun v34_2 => some v34_2) = some r34.1) ∧ True)
  (some (Xr [r4.1, (Vi Ki 0), r6.1] r_7.2))
 else
 (Pq Zp (do eqGuard .eql 9 (Ot 36) (Oc (Vs { data := #[102, 97, 100, 101] })) v17 (Vs { data := #[102, 97, 100, 101] }); binOp .eql 9 v17 (Vs { data := #[102, 97, 100, 101] }))).bind fun v37 =>
 (asB v37).bind fun c37 =>
 (if c37 then
  (call 71 #[l0, end1, (Vi Ki 1)] r29.2).bind fun r41 =>
  (Pq Zp (Zx r41.1 0)).bind fun v42 =>
  (Pq Zp (Zx r41.1 1)).bind fun v43 =>
  (Pq Zp (Zx r41.1 2)).bind fun v44 =>
  (Eq_ Zp (Zs 76 r9.1 v43) r41.2).bind fun r_9 =>
  (Pq Zp (Op.unary .not v44)).bind fun v46 =>
  (asB v46).bind fun c46 =>
  if c46 then
   ((Rq Zp (Zl 51 r7.1) r_9.2.drew).bind fun v47 =>
   some (v47, r_9.2.drew)).bind fun r47 =>
   ((Rq Zp (Zl 76 r9.1) r47.2).bind fun v48 =>
   some (v48, r47.2)).bind fun r48 =>
   ((Eq_ Zp (Zs 51 r4.1 r47.1) r48.2).bind fun r_11 =>
   some (undef, r_11.2)).bind fun r_10 =>
   ((Eq_ Zp (Zs 76 r6.1 r48.1) r_10.2).bind fun r_13 =>
   some (undef, r_13.2)).bind fun r_12 =>
   chkThen ((((Rq Zp (Zl 76 r9.1) r48.2).bind fun v48_1 => some v48_1) = some r48.1 ∧ ((Rq Zp (Zl 76 r9.1) r_10.2).bind fun v48_2 => some v48_2) = some r48.1) ∧ True)
   (some (Xr [r4.1, (Vi Ki 0), r6.1] r_12.2))
  else
  (call 101 #[v42] r_9.2).bind fun r50 =>
  (Pq Zp (Zf 51 r7.1 3)).bind fun v51 =>
  (Eq_ Zp (Zs 3 v51 r50.1) r50.2).bind fun r_14 =>
  (Pq Zp (Zf 51 r7.1 3)).bind fun v52 =>
  (Rq Zp (Zl 3 v52) r_14.2).bind fun v53 =>
  (bin .eql v53 (Vi Ki 0)).bind fun v54 =>
  (asB v54).bind fun c54 =>
  if c54 then
   ((Rq Zp (Zl 51 r7.1) r_14.2.drew).bind fun v55 =>
   some (v55, r_14.2.drew)).bind fun r55 =>
   ((Pq Zp (Zj 70 l0 (Vi Ki 1))).bind fun v57 =>
   some (v57, r55.2)).bind fun r57 =>
   ((Pq Zp (Zf 74 r57.1 0)).bind fun v58 =>
   some (v58, r57.2)).bind fun r58 =>
   ((Rq Zp (Zl 3 r58.1) r58.2).bind fun v59 =>
   some (v59, r58.2)).bind fun r59 =>
   ((Pq Zp (Zb 76 #[(0, r59.1), (1, (Vi Ki 193))])).bind fun v60 =>
   some (v60, r59.2)).bind fun r60 =>
   ((Eq_ Zp (Zs 51 r4.1 r55.1) r60.2).bind fun r_16 =>
   some (undef, r_16.2)).bind fun r_15 =>
   ((Eq_ Zp (Zs 76 r6.1 r60.1) r_15.2).bind fun r_18 =>
   some (undef, r_18.2)).bind fun r_17 =>
   chkThen ((((Rq Zp (Zl 3 r58.1) r60.2).bind fun v59_1 => some v59_1) = some r59.1 ∧ ((Rq Zp (Zl 3 r58.1) r_15.2).bind fun v59_2 => some v59_2) = some r59.1) ∧ True)
   (some (Xr [r4.1, (Vi Ki 0), r6.1] r_17.2))
  else
  some (Xn [l0, end1, r4.1, r6.1, r7.1, r9.1, (Vi Ki 2)] r_14.2)
  else
  some (Xn [l0, end1, r4.1, r6.1, r7.1, r9.1, (Vi Ki 1)] r29.2)).bind fun (r : Res) => r.cont (nmB call)).bind (Res.doneR Zp [.cell 4 51, .tmp 5, .cell 6 76]) := rfl
def ev0 : Ev := ⟨[], 0, 0, 0, []⟩
def evf (s : List UInt8) (f : Int) : Ev := ⟨s, 0, 0, f, []⟩
theorem alloc51e (w : World) : Eq_ Zp (Za 51 true (.tuple #[])) w = some (.pointer (some ⟨w.heap.size, 0, none⟩), w.alloc (.cells (ev0.cs).toArray 51)) := alloc51 w
section
variable {W : World} {X : Asn W.heap.size}
theorem ld_ev {w : World} {b : Nat} {e : Ev} (s : Sat W (blkA b 51 e.cs * X) w) : Rq Zp (Zl 51 (.pointer (some ⟨b, 0, none⟩))) w = some e.v := ev_blk s.blk
theorem put_ev {w : World} {b : Nat} {cs : List Value} (s : Sat W (blkA b 51 cs * X) w) (hl : cs.length = 5) (e : Ev) : ∃ w', Eq_ Zp (Zs 51 (.pointer (some ⟨b, 0, none⟩)) e.v) w = some ((), w') ∧ Sat W (blkA b 51 e.cs * X) w' :=
 put_blk s inf51 (cs' := e.cs) rfl (by rw [size51]; rfl) (by rw [hl]; rfl) (by simp [Ev.cs, Value.oneCell'])
theorem fin51 {w : World} {b4 b5 : Nat} {e0 : Ev} {p q : Int} (x : Sat W (blkA b4 51 e0.cs * (blkA b5 76 (xcs p q) * X)) w) (e : Ev) (a z : Int) :
  ∃ w1 w2, Eq_ Zp (Zs 51 (.pointer (some ⟨b4, 0, none⟩)) e.v) w = some ((), w1) ∧ Sat W (blkA b4 51 e.cs * (blkA b5 76 (xcs p q) * X)) w1 ∧
   Eq_ Zp (Zs 76 (.pointer (some ⟨b5, 0, none⟩)) (xv a z)) w1 = some ((), w2) ∧ Sat W (blkA b4 51 e.cs * (blkA b5 76 (xcs a z) * X)) w2 ∧
   Rq Zp (Zl 51 (.pointer (some ⟨b4, 0, none⟩))) w2 = some e.v ∧ Rq Zp (Zl 76 (.pointer (some ⟨b5, 0, none⟩))) w2 = some (xv a z) := by
 obtain ⟨w1, k1, x1⟩ := put_ev x rfl e
 obtain ⟨w2, k2, x2⟩ := put_x (x1.eq (by ac_rfl : _ = blkA b5 76 (xcs p q) * (blkA b4 51 e.cs * X))) rfl a z
 have x3 : Sat W (blkA b4 51 e.cs * (blkA b5 76 (xcs a z) * X)) w2 := x2.eq (by ac_rfl)
 exact ⟨w1, w2, k1, x1, k2, x3, ld_ev x3, ld_x x2⟩
end
def nmR (f : Int) (k : Nat) (ws : List Wd) (e : Int) : Except (Int × Int) (List UInt8) := match plainE isName (ws.drop k) e with
 | some p => .error p
 | none => match ws.drop k with
  | [] => .error (0, 0)
  | y :: _ => .ok y.s
def NmOut (v : Value) (f : Int) (k : Nat) (r : Except (Int × Int) (List UInt8)) : Prop := match r with
 | .ok s => v = .tuple #[(evf s f).v, .int .i64 ((k + 1 : Nat) : Int), xv 0 0]
 | .error (a, z) => ∃ ev : Ev, v = .tuple #[ev.v, .int .i64 0, xv a z]
section
variable {W : World} {X : Asn W.heap.size}
theorem nmB_ok {w : World} {B : Option Addr} {ws : List Wd} {c b4 b5 b7 b9 : Nat} {f e : Int} {p q : Int} (hr : Rd W B (rwcs ws)) (hws : ∀ y ∈ ws, y.t = false → y.b = false) (hs : ∀ y ∈ ws, y.s.length ≤ 1000000) (hl : ws.length ≤ 1000000) (k : Nat) (hk : k ≤ 2)
  (x : Sat W (blkA b4 51 ev0.cs * (blkA b5 76 (xcs 0 0) * (blkA b7 51 (evf [] f).cs * (blkA b9 76 (xcs p q) * X)))) w) :
  ∃ v w', ((nmB C [.slice B ws.length c, .int .i64 e, .pointer (some ⟨b4, 0, none⟩), .pointer (some ⟨b5, 0, none⟩), .pointer (some ⟨b7, 0, none⟩), .pointer (some ⟨b9, 0, none⟩), .int .i64 (k : Int)] w).bind (Res.doneR Zp [.cell 4 51, .tmp 5, .cell 6 76])) = some (v, w') ∧ NmOut v f k (nmR f k ws e) ∧ W.grownBy w' none := by
 have hrw : ∀ {w'} {Y : Asn W.heap.size}, Sat W Y w' → Rd w' B (rwcs ws) := fun y => hr.grown (grown_of y)
 obtain ⟨w1, k1, g1⟩ := rplain_ok (c := c) (hrw x) hws e k hl
 have x1 : Sat W (blkA b9 76 (xcs p q) * (blkA b7 51 (evf [] f).cs * (blkA b4 51 ev0.cs * (blkA b5 76 (xcs 0 0) * X)))) w1 := (x.grown g1).eq (by ac_rfl)
 cases hz : nextE false (ws.drop k) e with
 | some pz =>
  obtain ⟨a, z⟩ := pz
  have hR : nmR f k ws e = .error (a, z) := by unfold nmR plainE; rw [hz]
  rw [nextV_bad hz] at k1
  rw [hR]
  obtain ⟨w2, k2, x2⟩ := put_x x1 rfl a z
  have l1 := ld_x x2
  have x3 : Sat W (blkA b7 51 (evf [] f).cs * (blkA b4 51 ev0.cs * (blkA b5 76 (xcs 0 0) * (blkA b9 76 (xcs a z) * X)))) w2 := x2.eq (by ac_rfl)
  have l2 := ld_ev x3.drew
  have x4 : Sat W (blkA b4 51 ev0.cs * (blkA b5 76 (xcs 0 0) * (blkA b9 76 (xcs a z) * (blkA b7 51 (evf [] f).cs * X)))) w2 := x2.eq (by ac_rfl)
  obtain ⟨w5, w6, k5, x5, k6, x6, l5, l6⟩ := fin51 x4.drew (evf [] f) a z
  have l1' := ld_x x2.drew
  have l7 := ld_x (x5.eq (by ac_rfl : _ = blkA b9 76 (xcs a z) * (blkA b4 51 (evf [] f).cs * (blkA b5 76 (xcs 0 0) * (blkA b7 51 (evf [] f).cs * X)))))
  refine ⟨.tuple #[(evf [] f).v, .int .i64 0, xv a z], w6, ?_, ⟨_, rfl⟩, grown_of x6⟩
  simp [nmB, k1, k2, l2, l1, l1', l7, k5, k6, l5, l6]
 | none =>
  obtain ⟨y, r, hd⟩ : ∃ y r, ws.drop k = y :: r := by
   cases h : ws.drop k with
   | nil => rw [h] at hz; simp [nextE] at hz
   | cons y r => exact ⟨y, r, rfl⟩
  have hy : ws[k]? = some y := by
   have := congrArg (fun l => l[0]?) hd
   simpa using this
  have hin : y ∈ ws := List.mem_of_getElem? hy
  rw [hd] at k1 hz
  rw [nextV_good hz] at k1
  obtain ⟨w2, k2, x2⟩ := put_x x1 rfl 0 0
  have nm := nameMay_ok y.s (by have := hs y hin; omega) w2
  have x3 : Sat W (blkA b7 51 (evf [] f).cs * (blkA b4 51 ev0.cs * (blkA b5 76 (xcs 0 0) * (blkA b9 76 (xcs 0 0) * X)))) w2 := x2.eq (by ac_rfl)
  cases hn : isName y.s with
  | false =>
   have hR : nmR f k ws e = .error ((y.a : Int), 193) := by unfold nmR plainE; rw [hd, hz]; simp [hn]
   rw [hR]
   rw [hn] at nm
   have l2 := ld_ev x3.drew
   have x4 : Sat W (blkA b4 51 ev0.cs * (blkA b5 76 (xcs 0 0) * (blkA b9 76 (xcs 0 0) * (blkA b7 51 (evf [] f).cs * X)))) w2 := x2.eq (by ac_rfl)
   obtain ⟨w5, w6, k5, x5, k6, x6, l5, l6⟩ := fin51 x4.drew (evf [] f) (y.a : Int) 193
   obtain ⟨a, i0, c0, _, _, _⟩ := rw_at (hrw x4) hy
   obtain ⟨a', i0', c0', _, _, _⟩ := rw_at (hrw x5) hy
   have : a' = a := by have := (i0 0).symm.trans (i0' 0); simpa using this.symm
   subst this
   have i1 := i0 c
   have b1 := build76 (y.a : Int) 193
   obtain ⟨K, hK⟩ : ∃ K : Int, K = (k : Int) := ⟨_, rfl⟩
   rw [← hK] at i1 k1 ⊢
   refine ⟨.tuple #[(evf [] f).v, .int .i64 0, xv (y.a : Int) 193], w6, ?_, ⟨_, rfl⟩, grown_of x6⟩
   simp [nmB, k1, k2, nm, l2, i1, c0, c0', b1, k5, k6, l5, l6]
  | true =>
   have hR : nmR f k ws e = .ok y.s := by unfold nmR plainE; rw [hd, hz]; simp [hn]
   rw [hR]
   rw [hn] at nm
   have k3 := x3.blk.store (P := Zp) (t := 9) (j := 0) (v := st y.s) inf9 size9 (by simp [Ev.cs]) rfl rfl
   have x4 := x3.store 0 (st y.s) (cs' := (evf y.s f).cs) rfl
   obtain ⟨w3, hw3⟩ : ∃ w3, w3 = w2.setCell ⟨b7, 0, none⟩ (st y.s) := ⟨_, rfl⟩
   rw [← hw3] at k3 x4
   have l4 := ld_ev x4
   have x5 : Sat W (blkA b4 51 ev0.cs * (blkA b5 76 (xcs 0 0) * (blkA b9 76 (xcs 0 0) * (blkA b7 51 (evf y.s f).cs * X)))) w3 := x4.eq (by ac_rfl)
   obtain ⟨w5, w6, k5, _, k6, x6, l5, l6⟩ := fin51 x5 (evf y.s f) 0 0
   have e1 : IntKind.i64.wrap ((k : Int) + 1) = ((k + 1 : Nat) : Int) := (wrap_i64 (by omega) (by omega)).trans (by omega)
   obtain ⟨K1, hK1⟩ : ∃ K : Int, K = ((k + 1 : Nat) : Int) := ⟨_, rfl⟩
   rw [← hK1] at e1
   refine ⟨.tuple #[(evf y.s f).v, .int .i64 K1, xv 0 0], w6, ?_, by rw [hK1]; rfl, grown_of x6⟩
   simp [nmB, k1, k2, nm, k3, l4, e1, build76z, k5, k6, l5, l6]
end
def nmT (f : Int) (k : Nat) (r : Except (Int × Int) (List UInt8)) : Except (Int × Int) (Int × Nat × List UInt8) := match r with
 | .error p => .error p
 | .ok s => .ok (f, k, s)
def namedR (e : Int) (ws : List Wd) : Except (Int × Int) (Int × Nat × List UInt8) := match plainE isCutF ws e with
 | some p => .error p
 | none => match ws with
  | [] => .error (0, 0)
  | y :: ws' => if y.s = tFade then (match plainE isFadeB ws' e with
    | some p => .error p
    | none => match ws' with
     | [] => .error (0, 0)
     | y2 :: _ => nmT (fadeNum y2.s : Nat) 2 (nmR (fadeNum y2.s : Nat) 2 ws e))
   else nmT 0 1 (nmR 0 1 ws e)
def NmO (v : Value) (r : Except (Int × Int) (Int × Nat × List UInt8)) : Prop := match r with
 | .ok (f, k, s) => v = .tuple #[(evf s f).v, .int .i64 ((k + 1 : Nat) : Int), xv 0 0]
 | .error (a, z) => ∃ ev : Ev, v = .tuple #[ev.v, .int .i64 0, xv a z]
theorem NmO_of {v : Value} {f : Int} {k : Nat} {r : Except (Int × Int) (List UInt8)} (h : NmOut v f k r) : NmO v (nmT f k r) := by
 cases r with
 | error p => exact h
 | ok s => exact h
theorem named_ok {w : World} {B : Option Addr} {ws : List Wd} {c : Nat} (hr : Rd w B (rwcs ws)) (hws : ∀ y ∈ ws, y.t = false → y.b = false) (hs : ∀ y ∈ ws, y.s.length ≤ 1000000) (e : Int) (hl : ws.length ≤ 1000000) :
  ∃ v w', C 73 #[.slice B ws.length c, .int .i64 e] w = some (v, w') ∧ NmO v (namedR e ws) ∧ w.grownBy w' none := by
 have x1 := (emp_sat w).newBlk 51 ev0.cs
 have a1 := alloc51e w
 obtain ⟨w1, hw1⟩ : ∃ w1, w1 = w.alloc (.cells (ev0.cs).toArray 51) := ⟨_, rfl⟩
 rw [← hw1] at x1 a1
 have x2 := x1.newBlk 76 (xcs 0 0)
 have a2 := alloc76 w1
 obtain ⟨w2, hw2⟩ : ∃ w2, w2 = w1.alloc (.cells (xcs 0 0).toArray 76) := ⟨_, rfl⟩
 rw [← hw2] at x2 a2
 have x3 := x2.newBlk 51 ev0.cs
 have a3 := alloc51e w2
 obtain ⟨w3, hw3⟩ : ∃ w3, w3 = w2.alloc (.cells (ev0.cs).toArray 51) := ⟨_, rfl⟩
 rw [← hw3] at x3 a3
 obtain ⟨b6, hb6⟩ : ∃ b, b = w1.heap.size := ⟨_, rfl⟩
 obtain ⟨b7, hb7⟩ : ∃ b, b = w2.heap.size := ⟨_, rfl⟩
 rw [← hb6] at a2 x3
 rw [← hb7] at a3 x3
 obtain ⟨w4, k4, g4⟩ := rplain_ok (c := c) (hr.grown (grown_of x3)) hws e 0 hl
 have k4 : C 71 #[.slice B ws.length c, .int .i64 e, .int .i64 0] w3 = some (nextV false ws e, w4) := k4
 have x4 := (x3.grown g4).newBlk 76 (xcs 0 0)
 have a4 := alloc76 w4
 obtain ⟨w5, hw5⟩ : ∃ w5, w5 = w4.alloc (.cells (xcs 0 0).toArray 76) := ⟨_, rfl⟩
 rw [← hw5] at x4 a4
 obtain ⟨b9, hb9⟩ : ∃ b, b = w4.heap.size := ⟨_, rfl⟩
 rw [← hb9] at a4 x4
 cases hz : nextE false ws e with
 | some pz =>
  obtain ⟨a, z⟩ := pz
  have hR : namedR e ws = .error (a, z) := by unfold namedR plainE; rw [hz]
  rw [nextV_bad hz] at k4
  rw [hR]
  obtain ⟨w6, k6, x6⟩ := put_x x4 rfl a z
  have l1 := ld_x x6
  have l1' := ld_x x6.drew
  have l2 := ld_ev (x6.drew.eq (by ac_rfl : _ = blkA b7 51 ev0.cs * (blkA b9 76 (xcs a z) * (blkA b6 76 (xcs 0 0) * (blkA w.heap.size 51 ev0.cs * emp)))))
  have x7 : Sat w (blkA w.heap.size 51 ev0.cs * (blkA b6 76 (xcs 0 0) * (blkA b9 76 (xcs a z) * (blkA b7 51 ev0.cs * emp)))) w6 := x6.eq (by ac_rfl)
  obtain ⟨w8, w9, k8, x8, k9, x9, l5, l6⟩ := fin51 x7.drew ev0 a z
  have l7 := ld_x (x8.eq (by ac_rfl : _ = blkA b9 76 (xcs a z) * (blkA w.heap.size 51 ev0.cs * (blkA b6 76 (xcs 0 0) * (blkA b7 51 ev0.cs * emp)))))
  refine ⟨.tuple #[ev0.v, .int .i64 0, xv a z], w9, f73.run rfl ?_, ⟨_, rfl⟩, grown_of x9⟩
  simp [f73, a1, a2, a3, k4, a4, k6, l2, l1, l1', l7, k8, k9, l5, l6]
 | none =>
  match ws, hr, hws, hs, hl, k4, hz with
  | [], _, _, _, _, _, hz => simp [nextE] at hz
  | y :: ws', hr, hws, hs, hl, k4, hz =>
   have hrw : ∀ {w'} {Y : Asn w.heap.size}, Sat w Y w' → Rd w' B (rwcs (y :: ws')) := fun y => hr.grown (grown_of y)
   rw [nextV_good hz] at k4
   obtain ⟨w6, k6, x6⟩ := put_x x4 rfl 0 0
   have n1 : Pq Zp (do eqGuard .neq 9 (Ot 24) (Oc (Vs { data := #[99, 117, 116] })) (st y.s) (Vs { data := #[99, 117, 116] }); binOp .neq 9 (st y.s) (Vs { data := #[99, 117, 116] })) = some (.bool (decide (y.s ≠ tCut))) :=
    str_neq (P := Zp) (t := 9) (Ot 24) (Oc (Vs { data := #[99, 117, 116] })) y.s tCut
   have n2 : Pq Zp (do eqGuard .neq 9 (Ot 27) (Oc (Vs { data := #[102, 97, 100, 101] })) (st y.s) (Vs { data := #[102, 97, 100, 101] }); binOp .neq 9 (st y.s) (Vs { data := #[102, 97, 100, 101] })) = some (.bool (decide (y.s ≠ tFade))) :=
    str_neq (P := Zp) (t := 9) (Ot 27) (Oc (Vs { data := #[102, 97, 100, 101] })) y.s tFade
   have n3 : Pq Zp (do eqGuard .eql 9 (Ot 36) (Oc (Vs { data := #[102, 97, 100, 101] })) (st y.s) (Vs { data := #[102, 97, 100, 101] }); binOp .eql 9 (st y.s) (Vs { data := #[102, 97, 100, 101] })) = some (.bool (decide (y.s = tFade))) :=
    str_eql (P := Zp) (t := 9) (Ot 36) (Oc (Vs { data := #[102, 97, 100, 101] })) y.s tFade
   obtain ⟨n, hn⟩ : ∃ n, n = (y :: ws').length := ⟨_, rfl⟩
   by_cases hC : y.s = tCut ∨ y.s = tFade
   ·have p1 : plainE isCutF (y :: ws') e = none := by
     unfold plainE
     rw [hz]
     rcases hC with h | h <;> simp [isCutF, h]
    by_cases hF : y.s = tFade
    ·have hd1 : decide (y.s ≠ tCut) = true := by rw [hF]; decide
     have hd2 : decide (y.s ≠ tFade) = false := by simpa using hF
     have hd3 : decide (y.s = tFade) = true := by simpa using hF
     rw [hd1] at n1
     rw [hd2] at n2
     rw [hd3] at n3
     obtain ⟨w7, k7, g7⟩ := rplain_ok (c := c) (hrw x6) hws e 1 hl
     have k7 : C 71 #[.slice B (y :: ws').length c, .int .i64 e, .int .i64 1] w6 = some (nextV false ws' e, w7) := k7
     have x7 := x6.grown g7
     cases hz2 : nextE false ws' e with
     | some pz =>
      obtain ⟨a, z⟩ := pz
      have hR : namedR e (y :: ws') = .error (a, z) := by
       unfold namedR
       rw [p1]
       dsimp only
       rw [if_pos hF]
       have : plainE isFadeB ws' e = some (a, z) := by unfold plainE; rw [hz2]
       rw [this]
      rw [nextV_bad hz2] at k7
      rw [hR]
      obtain ⟨w8, k8, x8⟩ := put_x x7 rfl a z
      have l1 := ld_x x8
      have l1' := ld_x x8.drew
      have l2 := ld_ev (x8.drew.eq (by ac_rfl : _ = blkA b7 51 ev0.cs * (blkA b9 76 (xcs a z) * (blkA b6 76 (xcs 0 0) * (blkA w.heap.size 51 ev0.cs * emp)))))
      have x9 : Sat w (blkA w.heap.size 51 ev0.cs * (blkA b6 76 (xcs 0 0) * (blkA b9 76 (xcs a z) * (blkA b7 51 ev0.cs * emp)))) w8 := x8.eq (by ac_rfl)
      obtain ⟨wA, wB, kA, xA, kB, xB, l5, l6⟩ := fin51 x9.drew ev0 a z
      have l7 := ld_x (xA.eq (by ac_rfl : _ = blkA b9 76 (xcs a z) * (blkA w.heap.size 51 ev0.cs * (blkA b6 76 (xcs 0 0) * (blkA b7 51 ev0.cs * emp)))))
      refine ⟨.tuple #[ev0.v, .int .i64 0, xv a z], wB, f73.run rfl ?_, ⟨_, rfl⟩, grown_of xB⟩
      rw [← hn] at k4 k7 ⊢
      simp [f73, a1, a2, a3, k4, a4, k6, n1, n2, n3, k7, k8, l2, l1, l1', l7, kA, kB, l5, l6]
     | none =>
      clear hrw
      match ws', hr, hws, hs, hl, hn, k4, k7, p1, hz2 with
      | [], _, _, _, _, _, _, _, _, hz2 => simp [nextE] at hz2
      | y2 :: r2, hr, hws, hs, hl, hn, k4, k7, p1, hz2 =>
       have hrw : ∀ {w'} {Y : Asn w.heap.size}, Sat w Y w' → Rd w' B (rwcs (y :: y2 :: r2)) := fun y => hr.grown (grown_of y)
       rw [nextV_good hz2] at k7
       obtain ⟨w8, k8, x8⟩ := put_x x7 rfl 0 0
       have ct := count_ok y2.s (by have := hs y2 (by simp); omega) w8
       rw [countV_fade] at ct
       have x9 : Sat w (blkA b7 51 ev0.cs * (blkA w.heap.size 51 ev0.cs * (blkA b6 76 (xcs 0 0) * (blkA b9 76 (xcs 0 0) * emp)))) w8 := x8.eq (by ac_rfl)
       obtain ⟨f, hf⟩ : ∃ f, f = fadeNum y2.s := ⟨_, rfl⟩
       rw [← hf] at ct
       have k9 := x9.blk.store (P := Zp) (t := 3) (j := 3) (v := .int .i64 (f : Int)) inf3 size3 (by simp [Ev.cs]) rfl rfl
       have xA := x9.store 3 (.int .i64 (f : Int)) (cs' := (evf [] f).cs) rfl
       obtain ⟨w9, hw9⟩ : ∃ w9, w9 = w8.setCell ⟨b7, 3, none⟩ (.int .i64 (f : Int)) := ⟨_, rfl⟩
       rw [← hw9] at k9 xA
       have c9 : w9.cell? ⟨b7, 3, none⟩ = some (.int .i64 (f : Int)) := xA.cell 3 rfl
       by_cases hf0 : f = 0
       ·have hR : namedR e (y :: y2 :: r2) = .error ((y2.a : Int), 193) := by
         unfold namedR
         rw [p1]
         dsimp only
         rw [if_pos hF]
         have : plainE isFadeB (y2 :: r2) e = some ((y2.a : Int), 193) := by unfold plainE; rw [hz2]; simp [isFadeB, ← hf, hf0]
         rw [this]
        rw [hR]
        subst hf0
        have l2 := ld_ev xA.drew
        have xB : Sat w (blkA w.heap.size 51 ev0.cs * (blkA b6 76 (xcs 0 0) * (blkA b9 76 (xcs 0 0) * (blkA b7 51 (evf [] (0 : Nat)).cs * emp)))) w9 := xA.eq (by ac_rfl)
        obtain ⟨wC, wD, kC, xC, kD, xD, l5, l6⟩ := fin51 xB.drew (evf [] (0 : Nat)) (y2.a : Int) 193
        obtain ⟨a, i0, c0, _, _, _⟩ := rw_at (hrw xB) (k := 1) (y := y2) rfl
        obtain ⟨a', i0', c0', _, _, _⟩ := rw_at (hrw xC) (k := 1) (y := y2) rfl
        have : a' = a := by have := (i0 0).symm.trans (i0' 0); simpa using this.symm
        subst this
        have b1 := build76 (y2.a : Int) 193
        have i1 : Pq Zp (Zj 70 (.slice B n c) (.int .i64 1)) = some (.pointer (some a')) := by rw [hn]; exact i0 c
        have e0 : (((0 : Nat) : Nat) : Int) = 0 := rfl
        simp only [e0] at ct k9 c9 l2 kC l5
        refine ⟨.tuple #[(evf [] 0).v, .int .i64 0, xv (y2.a : Int) 193], wD, f73.run rfl ?_, ⟨_, rfl⟩, grown_of xD⟩
        rw [← hn] at k4 k7 ⊢
        simp [f73, a1, a2, a3, k4, a4, k6, n1, n2, n3, k7, k8, ct, addL, k9, c9, l2, i1, c0, c0', b1, kC, kD, l5, l6]
       ·have hR : namedR e (y :: y2 :: r2) = nmT (f : Int) 2 (nmR (f : Int) 2 (y :: y2 :: r2) e) := by
         unfold namedR
         rw [p1]
         dsimp only
         rw [if_pos hF]
         have : plainE isFadeB (y2 :: r2) e = none := by unfold plainE; rw [hz2]; simp [isFadeB, ← hf, hf0]
         rw [this, ← hf]
        have xB : Sat w (blkA w.heap.size 51 ev0.cs * (blkA b6 76 (xcs 0 0) * (blkA b7 51 (evf [] f).cs * (blkA b9 76 (xcs 0 0) * emp)))) w9 := xA.eq (by ac_rfl)
        obtain ⟨v, wC, kC, hO, gC⟩ := nmB_ok (c := c) (e := e) hr hws hs hl 2 (by omega) xB
        have kC' : ((nmB C [.slice B (y :: y2 :: r2).length c, .int .i64 e, .pointer (some ⟨w.heap.size, 0, none⟩), .pointer (some ⟨b6, 0, none⟩), .pointer (some ⟨b7, 0, none⟩), .pointer (some ⟨b9, 0, none⟩), .int .i64 2] w9).bind (Res.doneR Zp [.cell 4 51, .tmp 5, .cell 6 76])) = some (v, wC) := kC
        refine ⟨v, wC, f73.run rfl ?_, by rw [hR]; exact NmO_of hO, gC⟩
        have hf0' : ¬ (f : Int) = 0 := by omega
        rw [f73.parts]
        rw [← hn] at k4 k7 kC' ⊢
        obtain ⟨FF, hFF⟩ : ∃ x : Int, x = (f : Int) := ⟨_, rfl⟩
        rw [← hFF] at ct k9 c9 hf0'
        simp [a1, a2, a3, k4, a4, k6, n1, n2, n3, k7, k8, ct, addL, k9, c9, hf0', hf0]
        exact kC'
    ·have hC' : y.s = tCut := hC.resolve_right hF
     have hd1 : decide (y.s ≠ tCut) = false := by simpa using hC'
     have hd3 : decide (y.s = tFade) = false := by simpa using hF
     rw [hd1] at n1
     rw [hd3] at n3
     have hR : namedR e (y :: ws') = nmT 0 1 (nmR 0 1 (y :: ws') e) := by
      unfold namedR
      rw [p1]
      dsimp only
      rw [if_neg hF]
     have xB : Sat w (blkA w.heap.size 51 ev0.cs * (blkA b6 76 (xcs 0 0) * (blkA b7 51 (evf [] 0).cs * (blkA b9 76 (xcs 0 0) * emp)))) w6 := x6.eq (by show _ = blkA w.heap.size 51 ev0.cs * (blkA b6 76 (xcs 0 0) * (blkA b7 51 ev0.cs * (blkA b9 76 (xcs 0 0) * emp))); ac_rfl)
     obtain ⟨v, wC, kC, hO, gC⟩ := nmB_ok (c := c) (e := e) hr hws hs hl 1 (by omega) xB
     have kC' : ((nmB C [.slice B (y :: ws').length c, .int .i64 e, .pointer (some ⟨w.heap.size, 0, none⟩), .pointer (some ⟨b6, 0, none⟩), .pointer (some ⟨b7, 0, none⟩), .pointer (some ⟨b9, 0, none⟩), .int .i64 1] w6).bind (Res.doneR Zp [.cell 4 51, .tmp 5, .cell 6 76])) = some (v, wC) := kC
     refine ⟨v, wC, f73.run rfl ?_, by rw [hR]; exact NmO_of hO, gC⟩
     rw [f73.parts]
     rw [← hn] at k4 kC' ⊢
     simp [a1, a2, a3, k4, a4, k6, n1, n3]
     exact kC'
   ·have hC1 : y.s ≠ tCut := fun h => hC (.inl h)
    have hC2 : y.s ≠ tFade := fun h => hC (.inr h)
    have hd1 : decide (y.s ≠ tCut) = true := by simpa using hC1
    have hd2 : decide (y.s ≠ tFade) = true := by simpa using hC2
    rw [hd1] at n1
    rw [hd2] at n2
    have hR : namedR e (y :: ws') = .error ((y.a : Int), 193) := by
     unfold namedR
     have : plainE isCutF (y :: ws') e = some ((y.a : Int), 193) := by unfold plainE; rw [hz]; simp [isCutF, hC1, hC2]
     rw [this]
    rw [hR]
    have l2 := ld_ev (x6.drew.eq (by ac_rfl : _ = blkA b7 51 ev0.cs * (blkA b9 76 (xcs 0 0) * (blkA b6 76 (xcs 0 0) * (blkA w.heap.size 51 ev0.cs * emp)))))
    have x7 : Sat w (blkA w.heap.size 51 ev0.cs * (blkA b6 76 (xcs 0 0) * (blkA b9 76 (xcs 0 0) * (blkA b7 51 ev0.cs * emp)))) w6 := x6.eq (by ac_rfl)
    obtain ⟨w8, w9, k8, x8, k9, x9, l5, l6⟩ := fin51 x7.drew ev0 (y.a : Int) 193
    obtain ⟨a, i0, c0, _, _, _⟩ := rw_at (hrw x7) (k := 0) (y := y) rfl
    obtain ⟨a', i0', c0', _, _, _⟩ := rw_at (hrw x8) (k := 0) (y := y) rfl
    have : a' = a := by have := (i0 0).symm.trans (i0' 0); simpa using this.symm
    subst this
    have b1 := build76 (y.a : Int) 193
    have i1 : Pq Zp (Zj 70 (.slice B n c) (.int .i64 0)) = some (.pointer (some a')) := by rw [hn]; exact i0 c
    refine ⟨.tuple #[ev0.v, .int .i64 0, xv (y.a : Int) 193], w9, f73.run rfl ?_, ⟨_, rfl⟩, grown_of x9⟩
    rw [← hn] at k4 ⊢
    simp [f73, a1, a2, a3, k4, a4, k6, n1, n2, l2, i1, c0, c0', b1, k8, k9, l5, l6]
theorem dayOf_xr {r : Int} (h1 : 1 ≤ r) (h7 : r ≤ 7) : dayOf r = perDay (xrOf r) := by
 unfold dayOf
 rw [xrOf_ok h1 h7]
theorem numP_in {x : Int × Int × Int × Int} (hx : x ∈ rates) (h0 : x.1 ≠ 0) {h mi se fr : Nat} (hp : partBad x h mi se fr = false) : 0 ≤ numP x.1 x.2.2.2 h mi se fr ∧ numP x.1 x.2.2.2 h mi se fr < perDay x := by
 unfold partBad at hp
 simp only [Bool.or_eq_false_iff, decide_eq_false_iff_not] at hp
 obtain ⟨⟨⟨⟨h1, h2⟩, h3⟩, h4⟩, _⟩ := hp
 unfold numP perDay
 simp only [rates, List.mem_cons, List.not_mem_nil, or_false] at hx
 rcases hx with rfl | rfl | rfl | rfl | rfl | rfl | rfl | rfl
 ·simp at h0
 all_goals (simp only at h4 ⊢; omega)
theorem numOf_in {x : Int × Int × Int × Int} (hx : x ∈ rates) (h0 : x.1 ≠ 0) {s : List UInt8} {n : Int} (h : numOf x s = some n) : 0 ≤ n ∧ n < perDay x := by
 unfold numOf at h
 split at h
 ·rename_i hc
  cases h
  exact numP_in hx h0 hc.2
 ·cases h
theorem ev3_law {t : List UInt8} {r : Int} {q : List Ev} (F : Fine t r q) (hq : q.length ≤ 199) {ev : Ev} (hn : isName ev.s = true) (hi : 0 ≤ ev.i) (ho : ev.o < dayOf r) (hl : ev.n.length ≤ 100) (hv : valid ev.n = true) (a1 a5 : Int) :
  ev3E t r q [] ev a1 a5 = if ev.o ≤ ev.i then some (a5, 194) else if fadeMay q ev = false then some (a1, 195) else none := by
 have h1 := F.tl
 have h2 := F.r1
 have h3 := F.r7
 have hck : ckCode t r (q ++ [ev]) = evBad (dayOf r) [] (q ++ [ev]) := by
  unfold ckCode
  rw [if_neg (by omega), if_neg (by rw [F.tv]; simp), if_neg (by omega), if_neg (by simp; omega)]
 have hcode : evCode q ev (dayOf r) = if ev.o ≤ ev.i then 194 else if fadeMay q ev = false then 195 else 0 := by
  unfold evCode
  rw [if_neg (by rw [hn]; simp)]
  by_cases h4 : ev.o ≤ ev.i
  ·rw [if_pos (.inr (.inl h4)), if_pos h4]
  ·rw [if_neg (by omega), if_neg h4]
   by_cases h5 : fadeMay q ev = false
   ·rw [if_pos h5, if_pos h5]
   ·rw [if_neg h5, if_neg h5, if_neg (by omega), if_neg (by rw [hv]; simp)]
 have hpre : ∀ i, i < q.length → ∀ x, (q ++ [ev])[i]? = some x → evCode ([] ++ (q ++ [ev]).take i) x (dayOf r) = 0 := by
  intro i hi x hx
  rw [Yf hi] at hx
  rw [List.nil_append, List.take_append_of_le_length (by omega)]
  exact F.ev i x hx
 have hlast : (q ++ [ev])[q.length]? = some ev := by simp
 have htk : (q ++ [ev]).take q.length = q := by simp
 unfold ev3E
 rw [hck]
 dsimp only
 by_cases h0 : evCode q ev (dayOf r) = 0
 ·have : evBad (dayOf r) [] (q ++ [ev]) = none := by
   rw [evBad_none]
   intro i x hx
   by_cases hi : i < q.length
   ·exact hpre i hi x hx
   ·have : i < (q ++ [ev]).length := (List.getElem?_eq_some_iff.mp hx).1
    obtain rfl : i = q.length := by simp at this; omega
    rw [hlast] at hx
    cases hx
    rw [List.nil_append, htk]
    exact h0
  rw [this]
  dsimp only
  rw [h0] at hcode
  split at hcode
  ·cases hcode
  ·rename_i h4
   rw [if_neg h4]
   split at hcode
   ·cases hcode
   ·rename_i h5
    rw [if_neg h5]
 ·have := evBad_at (day := dayOf r) (q ++ [ev]) [] q.length ev hlast hpre (by rw [List.nil_append, htk]; exact h0)
  rw [this, List.nil_append, htk, hcode]
  dsimp only
  rw [hcode] at h0
  by_cases h4 : ev.o ≤ ev.i
  ·rw [if_pos h4, if_pos h4, if_pos rfl]
  ·rw [if_neg h4] at h0 ⊢
   rw [if_neg h4]
   by_cases h5 : fadeMay q ev = false
   ·rw [if_pos h5, if_pos h5, if_neg (by decide)]
   ·rw [if_neg h5] at h0
    exact absurd rfl h0
section
variable {W : World} {X : Asn W.heap.size}
theorem own_empty (w : World) (e : TypeId) (sz : Nat) : (w.alloc (.cells #[] e)).ownsRow w.heap.size e sz (.slice (some ⟨w.heap.size, 0, none⟩) 0 0) 0 [] := by
 refine ⟨by simp, .inr ⟨w.heap.size, 0, #[], rfl, Nat.le_refl _, ?_, by omega, by simp [maxLen], by simp, by simp⟩⟩
 exact heap_alloc_new w _
theorem Sat.emptyRow {w : World} (x : Sat W X w) (e : TypeId) (sz : Nat) : Sat W (rowA e sz (.slice (some ⟨w.heap.size, 0, none⟩) 0 0) 0 [] * X) (w.alloc (.cells #[] e)) :=
 x.newRow (World.grownBy_alloc w _ none) (own_empty w e sz)
theorem rd_blk {w : World} {b : Nat} {e : TypeId} {cs : List Value} (x : Sat W (blkA b e cs * X) w) : Rd w (some ⟨b, 0, none⟩) cs := by
 intro j v hj
 rw [addL, Nat.zero_add]
 exact x.cell j hj
theorem app28 {w : World} {v : Value} {n : Nat} {xs : List Value} (x : Sat W (rowA 51 5 v n xs * X) w) {A : Option Addr} {m c : Nat} {q : List Ev} (hm : q.length = m) (hr : Rd w A (q.flatMap Ev.cs)) (hnil : A = none → c = 0) (hl : n + m ≤ 1000) :
  ∃ v' w', Eq_ Zp (Yb #[28, 28] 28 #[v, .slice A m c]) w = some (v', w') ∧ Sat W (rowA 51 5 v' (n + m) (xs ++ q.flatMap Ev.cs) * X) w' := by
 have hlen : (q.flatMap Ev.cs).length = m * 5 := by
  subst hm
  clear hr hl
  induction q with
  | nil => rfl
  | cons a l ih => rw [List.flatMap_cons, Ya, ih]; simp [Ev.cs]; omega
 have hone : ∀ u ∈ q.flatMap Ev.cs, u.oneCell' = true := by
  intro u hu
  obtain ⟨e, _, he⟩ := List.mem_flatMap.mp hu
  exact cs_one e u he
 obtain ⟨v', w', k1, k2, k3, k4⟩ := e_append2 (P := Zp) (ty := 28) Tryz.underlying28 inf51 zero51 size51 bytes51 rfl (by decide) x.row (c := c) hlen hr hnil hone (by simp [maxLen]; omega) (by omega) x.size
 exact ⟨v', w', k1, x.rowStep k3 k2 k4⟩
end
open Go Go.Proofs
def f32.wann : WAnn := (.s .r (.s .r (.s (.d [0, 1, 2, 3, 8, 9, 10, 11] (.s .z (.c (.s .z .z) .z))) (.s .r (.s (.d [0, 1, 3, 8, 9, 10, 11, 13] (.s .z (.b [0, 1, 3, 8, 9, 10, 11, 13] (.l [0, 1, 2, 3, 8, 9, 10, 11, 13, 14] (.s (.s .z (.c .z .z)) (.s (.b [0, 1, 2, 3, 8, 9, 10, 11, 13, 14] (.s .z (.s (.s .z (.c (.s .z .z) .z)) (.s .z (.s (.s .z (.c (.s .z .z) .z)) .z))))) .z)))))) (.s .r (.s .r (.s (.d [0, 3, 8, 9, 10, 11] (.s .z (.c (.s .z (.s (.s .z (.c (.s .z .z) .z)) .z)) .z))) (.s (.d [0, 3, 8, 9, 10, 11] (.s .z (.c (.s .z .z) .z))) (.s (.d [0, 3, 8, 9, 10] (.s .z (.c (.s .z .z) .z))) (.s (.t 4 [0, 2] [0, 8, 9, 10, 23]) (.d [] (.s (.s .z (.c (.s .z .z) .z)) (.s .z .z))))))))))))))
noncomputable def f32.l0 (call : CallF) (vs_6 : List Value) (W7 : World) : Option Res :=
 let t0_7 := nth vs_6 0
 let o1_3 := nth vs_6 1
 let A2_2 := nth vs_6 2
 let r3_6 := nth vs_6 3
 let v8_6 := nth vs_6 4
 let v9_6 := nth vs_6 5
 let v10_6 := nth vs_6 6
 let v11_4 := nth vs_6 7
 let v13_1 := nth vs_6 8
 let v14 := nth vs_6 9
 (bin .lss v14 (Vi Ki 2)).bind fun v38 =>
 (asB v38).bind fun c38 =>
 if c38 then
  ((bin .add v11_4 v14).bind fun v46 =>
  (call 71 #[t0_7, o1_3, v46] W7).bind fun r47 =>
  (Pq Zp (Zx r47.1 0)).bind fun v48 =>
  (Pq Zp (Zx r47.1 1)).bind fun v49 =>
  (Pq Zp (Zx r47.1 2)).bind fun v50 =>
  (Eq_ Zp (Za 76 true (.tuple #[])) r47.2).bind fun r16 =>
  (Eq_ Zp (Zs 76 r16.1 v49) r16.2).bind fun r_24 =>
  (Pq Zp (Op.unary .not v50)).bind fun v52 =>
  (asB v52).bind fun c52 =>
  if c52 then
   ((Rq Zp (Zl 51 v10_6) r_24.2.drew).bind fun v53 =>
   some (v53, r_24.2.drew)).bind fun r53 =>
   ((Rq Zp (Zl 76 r16.1) r53.2).bind fun v54 =>
   some (v54, r53.2)).bind fun r54 =>
   ((Eq_ Zp (Zs 51 v8_6 r53.1) r54.2).bind fun r_26 =>
   some (undef, r_26.2)).bind fun r_25 =>
   ((Eq_ Zp (Zs 76 v9_6 r54.1) r_25.2).bind fun r_28 =>
   some (undef, r_28.2)).bind fun r_27 =>
   chkThen ((((Rq Zp (Zl 76 r16.1) r54.2).bind fun v54_1 => some v54_1) = some r54.1 ∧ ((Rq Zp (Zl 76 r16.1) r_25.2).bind fun v54_2 => some v54_2) = some r54.1) ∧ True)
   (some (Xr [v8_6, v9_6] r_27.2))
  else
  (call 74 #[A2_2, v48] r_24.2).bind fun r58 =>
  (Pq Zp (Zx r58.1 0)).bind fun v59 =>
  (Pq Zp (Zx r58.1 1)).bind fun v60 =>
  (bin .neq v60 (Vi Ki 0)).bind fun v62 =>
  (asB v62).bind fun c62 =>
  if c62 then
   ((Rq Zp (Zl 51 v10_6) r58.2.drew).bind fun v63 =>
   some (v63, r58.2.drew)).bind fun r63 =>
   ((bin .add v11_4 v14).bind fun v67 =>
   some (v67, r63.2)).bind fun r67 =>
   ((Pq Zp (Zj 70 t0_7 r67.1)).bind fun v68 =>
   some (v68, r67.2)).bind fun r68 =>
   ((Pq Zp (Zf 74 r68.1 0)).bind fun v69 =>
   some (v69, r68.2)).bind fun r69 =>
   ((Rq Zp (Zl 3 r69.1) r69.2).bind fun v70 =>
   some (v70, r69.2)).bind fun r70 =>
   ((Pq Zp (Zb 76 #[(0, r70.1), (1, (Vi Ki 194))])).bind fun v71 =>
   some (v71, r70.2)).bind fun r71 =>
   ((Eq_ Zp (Zs 51 v8_6 r63.1) r71.2).bind fun r_30 =>
   some (undef, r_30.2)).bind fun r_29 =>
   ((Eq_ Zp (Zs 76 v9_6 r71.1) r_29.2).bind fun r_32 =>
   some (undef, r_32.2)).bind fun r_31 =>
   chkThen ((((Rq Zp (Zl 3 r69.1) r71.2).bind fun v70_1 => some v70_1) = some r70.1 ∧ ((Rq Zp (Zl 3 r69.1) r_29.2).bind fun v70_2 => some v70_2) = some r70.1) ∧ True)
   (some (Xr [v8_6, v9_6] r_31.2))
  else
  (Pq Zp (Zj 42 v13_1 v14)).bind fun v75 =>
  (Eq_ Zp (Zs 3 v75 v59) r58.2).bind fun r_33 =>
  some (Xn [t0_7, o1_3, A2_2, r3_6, v8_6, v9_6, v10_6, v11_4, v13_1, v14] r_33.2)).bind fun (r : Res) => (r.unblock 1).cont fun vs_7 W8 =>
  let t0_8 := nth vs_7 0
  let o1_4 := nth vs_7 1
  let A2_3 := nth vs_7 2
  let r3_7 := nth vs_7 3
  let v8_7 := nth vs_7 4
  let v9_7 := nth vs_7 5
  let v10_7 := nth vs_7 6
  let v11_5 := nth vs_7 7
  let v13_2 := nth vs_7 8
  let v14_1 := nth vs_7 9
  (bin .add v14_1 (Vi Ki 1)).bind fun v40 =>
  some (Xn [t0_8, o1_4, A2_3, r3_7, v8_7, v9_7, v10_7, v11_5, v13_2, v40] W8)
 else
 some (Xx 0 [t0_7, o1_3, r3_6, v8_6, v9_6, v10_6, v11_4, v13_1] W7)
noncomputable def f32.k5 (call : CallF) (Rt : List Value → World → Prop) (vs_5 : List Value) (W6 : World) : Prop :=
 let t0_6 := nth vs_5 0
 let v8_5 := nth vs_5 1
 let v9_5 := nth vs_5 2
 let v10_5 := nth vs_5 3
 let v23 := nth vs_5 4
 hold ((Pq Zp (Op.unary .not v23)).bind fun v138 =>
 (asB v138).bind fun c138 =>
 if c138 then
  ((Rq Zp (Zl 51 v10_5) W6.drew).bind fun v139 =>
  some (v139, W6.drew)).bind fun r139 =>
  ((Pq Zp (Zj 70 t0_6 (Vi Ki 0))).bind fun v141 =>
  some (v141, r139.2)).bind fun r141 =>
  ((Pq Zp (Zf 74 r141.1 0)).bind fun v142 =>
  some (v142, r141.2)).bind fun r142 =>
  ((Rq Zp (Zl 3 r142.1) r142.2).bind fun v143 =>
  some (v143, r142.2)).bind fun r143 =>
  ((Pq Zp (Zb 76 #[(0, r143.1), (1, (Vi Ki 195))])).bind fun v144 =>
  some (v144, r143.2)).bind fun r144 =>
  ((Eq_ Zp (Zs 51 v8_5 r139.1) r144.2).bind fun r_5 =>
  some (undef, r_5.2)).bind fun r_4 =>
  ((Eq_ Zp (Zs 76 v9_5 r144.1) r_4.2).bind fun r_7 =>
  some (undef, r_7.2)).bind fun r_6 =>
  chkThen ((((Rq Zp (Zl 3 r142.1) r144.2).bind fun v143_1 => some v143_1) = some r143.1 ∧ ((Rq Zp (Zl 3 r142.1) r_4.2).bind fun v143_2 => some v143_2) = some r143.1) ∧ True)
  (some (Xr [v8_5, v9_5] r_6.2))
 else
 (Rq Zp (Zl 51 v10_5) W6).bind fun v145 =>
 (Pq Zp (Zb 76 #[])).bind fun v146 =>
 (Eq_ Zp (Zs 51 v8_5 v145) W6).bind fun r_8 =>
 (Eq_ Zp (Zs 76 v9_5 v146) r_8.2).bind fun r_9 =>
 some (Xr [v8_5, v9_5] r_9.2)) (after Rt [] (fun _ _ => False))
noncomputable def f32.k4 (call : CallF) (Rt : List Value → World → Prop) (vs_4 : List Value) (W5 : World) : Prop :=
 let t0_5 := nth vs_4 0
 let r3_5 := nth vs_4 1
 let v8_4 := nth vs_4 2
 let v9_4 := nth vs_4 3
 let v10_4 := nth vs_4 4
 true = true ∧ ((((Rq Zp (Zl 51 v10_4) W5.drew).bind fun v133 =>
 some (v133, W5.drew)).bind fun r133 =>
 ((Eq_ Zp (Instr.buildSlice 28 1 #[(0, r133.1)]) r133.2).bind fun r134_1 =>
 some (r134_1.1, r134_1.2)).bind fun r134 =>
 ((Eq_ Zp (Instr.buildSlice 28 0 #[]) r134.2).bind fun r130_1 =>
 some (r130_1.1, r130_1.2)).bind fun r130 =>
 ((Eq_ Zp (Yb #[28, 28] 28 #[r130.1, r3_5]) r130.2).bind fun r132_1 =>
 some (r132_1.1, r132_1.2)).bind fun r132 =>
 ((Eq_ Zp (Yb #[28, 28] 28 #[r132.1, r134.1]) r132.2).bind fun r135_1 =>
 some (r135_1.1, r135_1.2)).bind fun r135 =>
 ((call 75 #[r135.1] r135.2).bind fun r136_1 =>
 some (r136_1.1, r136_1.2)).bind fun r136 =>
 chkThen (True)
 (okIf W5 ((f32.k5 call Rt) [t0_5, v8_4, v9_4, v10_4, r136.1] r136.2))) = some (.norm [] W5)) ∧
 ((((Eq_ Zp (Instr.buildSlice 28 0 #[]) W5.drew).bind fun r130_3 =>
 some (r130_3.1, r130_3.2)).bind fun r130_2 =>
 ((Rq Zp (Zl 51 v10_4) r130_2.2).bind fun v133_1 =>
 some (v133_1, r130_2.2)).bind fun r133_1 =>
 ((Eq_ Zp (Instr.buildSlice 28 1 #[(0, r133_1.1)]) r133_1.2).bind fun r134_3 =>
 some (r134_3.1, r134_3.2)).bind fun r134_2 =>
 ((Eq_ Zp (Yb #[28, 28] 28 #[r130_2.1, r3_5]) r134_2.2).bind fun r132_3 =>
 some (r132_3.1, r132_3.2)).bind fun r132_2 =>
 ((Eq_ Zp (Yb #[28, 28] 28 #[r132_2.1, r134_2.1]) r132_2.2).bind fun r135_3 =>
 some (r135_3.1, r135_3.2)).bind fun r135_2 =>
 ((call 75 #[r135_2.1] r135_2.2).bind fun r136_3 =>
 some (r136_3.1, r136_3.2)).bind fun r136_2 =>
 chkThen ((((Rq Zp (Zl 51 v10_4) W5.drew).bind fun v133_2 => some v133_2) = some r133_1.1 ∧ ((Rq Zp (Zl 51 v10_4) r130_2.2).bind fun v133_3 => some v133_3) = some r133_1.1) ∧ True)
 (okIf W5 ((f32.k5 call Rt) [t0_5, v8_4, v9_4, v10_4, r136_2.1] r136_2.2))) = some (.norm [] W5)) ∧
 ((((Eq_ Zp (Instr.buildSlice 28 0 #[]) W5.drew).bind fun r130_5 =>
 some (r130_5.1, r130_5.2)).bind fun r130_4 =>
 ((Eq_ Zp (Yb #[28, 28] 28 #[r130_4.1, r3_5]) r130_4.2).bind fun r132_5 =>
 some (r132_5.1, r132_5.2)).bind fun r132_4 =>
 ((Rq Zp (Zl 51 v10_4) r132_4.2).bind fun v133_4 =>
 some (v133_4, r132_4.2)).bind fun r133_2 =>
 ((Eq_ Zp (Instr.buildSlice 28 1 #[(0, r133_2.1)]) r133_2.2).bind fun r134_5 =>
 some (r134_5.1, r134_5.2)).bind fun r134_4 =>
 ((Eq_ Zp (Yb #[28, 28] 28 #[r132_4.1, r134_4.1]) r134_4.2).bind fun r135_5 =>
 some (r135_5.1, r135_5.2)).bind fun r135_4 =>
 ((call 75 #[r135_4.1] r135_4.2).bind fun r136_5 =>
 some (r136_5.1, r136_5.2)).bind fun r136_4 =>
 chkThen ((((Rq Zp (Zl 51 v10_4) W5.drew).bind fun v133_7 => some v133_7) = some r133_2.1 ∧ ((Rq Zp (Zl 51 v10_4) r130_4.2).bind fun v133_8 => some v133_8) = some r133_2.1) ∧ (((Rq Zp (Zl 51 v10_4) r130_4.2).bind fun v133_5 => some v133_5) = some r133_2.1 ∧ ((Rq Zp (Zl 51 v10_4) r132_4.2).bind fun v133_6 => some v133_6) = some r133_2.1) ∧ True)
 (okIf W5 ((f32.k5 call Rt) [t0_5, v8_4, v9_4, v10_4, r136_4.1] r136_4.2))) = some (.norm [] W5)) ∧ True
noncomputable def f32.k3 (call : CallF) (Rt : List Value → World → Prop) (vs_3 : List Value) (W4 : World) : Prop :=
 let t0_4 := nth vs_3 0
 let r3_4 := nth vs_3 1
 let v8_3 := nth vs_3 2
 let v9_3 := nth vs_3 3
 let v10_3 := nth vs_3 4
 let v11_3 := nth vs_3 5
 hold ((Pq Zp (Zf 51 v10_3 1)).bind fun v117 =>
 (Rq Zp (Zl 3 v117) W4).bind fun v118 =>
 (Pq Zp (Zf 51 v10_3 2)).bind fun v119 =>
 (Rq Zp (Zl 3 v119) W4).bind fun v120 =>
 (bin .geq v118 v120).bind fun v121 =>
 (asB v121).bind fun c121 =>
 if c121 then
  ((Rq Zp (Zl 51 v10_3) W4.drew).bind fun v122 =>
  some (v122, W4.drew)).bind fun r122 =>
  ((bin .add v11_3 (Vi Ki 1)).bind fun v125 =>
  some (v125, r122.2)).bind fun r125 =>
  ((Pq Zp (Zj 70 t0_4 r125.1)).bind fun v126 =>
  some (v126, r125.2)).bind fun r126 =>
  ((Pq Zp (Zf 74 r126.1 0)).bind fun v127 =>
  some (v127, r126.2)).bind fun r127 =>
  ((Rq Zp (Zl 3 r127.1) r127.2).bind fun v128 =>
  some (v128, r127.2)).bind fun r128 =>
  ((Pq Zp (Zb 76 #[(0, r128.1), (1, (Vi Ki 194))])).bind fun v129 =>
  some (v129, r128.2)).bind fun r129 =>
  ((Eq_ Zp (Zs 51 v8_3 r122.1) r129.2).bind fun r_11 =>
  some (undef, r_11.2)).bind fun r_10 =>
  ((Eq_ Zp (Zs 76 v9_3 r129.1) r_10.2).bind fun r_13 =>
  some (undef, r_13.2)).bind fun r_12 =>
  chkThen ((((Rq Zp (Zl 3 r127.1) r129.2).bind fun v128_1 => some v128_1) = some r128.1 ∧ ((Rq Zp (Zl 3 r127.1) r_10.2).bind fun v128_2 => some v128_2) = some r128.1) ∧ True)
  (some (Xr [v8_3, v9_3] r_12.2))
 else
 some (Xn [t0_4, r3_4, v8_3, v9_3, v10_3] W4)) (after Rt [] (f32.k4 call Rt))
noncomputable def f32.k2 (call : CallF) (Rt : List Value → World → Prop) (vs_2 : List Value) (W3 : World) : Prop :=
 let t0_3 := nth vs_2 0
 let r3_3 := nth vs_2 1
 let v8_2 := nth vs_2 2
 let v9_2 := nth vs_2 3
 let v10_2 := nth vs_2 4
 let v11_2 := nth vs_2 5
 hold ((Pq Zp (Yl #[70] 3 #[t0_3])).bind fun v105 =>
 (bin .add v11_2 (Vi Ki 3)).bind fun v107 =>
 (bin .gtr v105 v107).bind fun v108 =>
 (asB v108).bind fun c108 =>
 if c108 then
  ((Rq Zp (Zl 51 v10_2) W3.drew).bind fun v109 =>
  some (v109, W3.drew)).bind fun r109 =>
  ((bin .add v11_2 (Vi Ki 3)).bind fun v112 =>
  some (v112, r109.2)).bind fun r112 =>
  ((Pq Zp (Zj 70 t0_3 r112.1)).bind fun v113 =>
  some (v113, r112.2)).bind fun r113 =>
  ((Pq Zp (Zf 74 r113.1 0)).bind fun v114 =>
  some (v114, r113.2)).bind fun r114 =>
  ((Rq Zp (Zl 3 r114.1) r114.2).bind fun v115 =>
  some (v115, r114.2)).bind fun r115 =>
  ((Pq Zp (Zb 76 #[(0, r115.1), (1, (Vi Ki 193))])).bind fun v116 =>
  some (v116, r115.2)).bind fun r116 =>
  ((Eq_ Zp (Zs 51 v8_2 r109.1) r116.2).bind fun r_15 =>
  some (undef, r_15.2)).bind fun r_14 =>
  ((Eq_ Zp (Zs 76 v9_2 r116.1) r_14.2).bind fun r_17 =>
  some (undef, r_17.2)).bind fun r_16 =>
  chkThen ((((Rq Zp (Zl 3 r114.1) r116.2).bind fun v115_1 => some v115_1) = some r115.1 ∧ ((Rq Zp (Zl 3 r114.1) r_14.2).bind fun v115_2 => some v115_2) = some r115.1) ∧ True)
  (some (Xr [v8_2, v9_2] r_16.2))
 else
 some (Xn [t0_3, r3_3, v8_2, v9_2, v10_2, v11_2] W3)) (after Rt [] (f32.k3 call Rt))
noncomputable def f32.k1 (call : CallF) (Rt : List Value → World → Prop) (vs_1 : List Value) (W2 : World) : Prop :=
 let t0_2 := nth vs_1 0
 let o1_2 := nth vs_1 1
 let r3_2 := nth vs_1 2
 let v8_1 := nth vs_1 3
 let v9_1 := nth vs_1 4
 let v10_1 := nth vs_1 5
 let v11_1 := nth vs_1 6
 let v13 := nth vs_1 7
 ((Pq Zp (Zj 42 v13 (Vi Ki 0))).bind fun v77 =>
 (Rq Zp (Zl 3 v77) W2).bind fun v78 =>
 (Pq Zp (Zf 51 v10_1 1)).bind fun v79 =>
 (Eq_ Zp (Zs 3 v79 v78) W2).bind fun r_2 =>
 okIf W2 (((Pq Zp (Zj 42 v13 (Vi Ki 1))).bind fun v81 =>
 (Rq Zp (Zl 3 v81) r_2.2).bind fun v82 =>
 (Pq Zp (Zf 51 v10_1 2)).bind fun v83 =>
 (Eq_ Zp (Zs 3 v83 v82) r_2.2).bind fun r_3 =>
 okIf r_2.2 (hold ((Pq Zp (Yl #[70] 3 #[t0_2])).bind fun v85 =>
 (bin .add v11_1 (Vi Ki 2)).bind fun v87 =>
 (bin .gtr v85 v87).bind fun v88 =>
 (asB v88).bind fun c88 =>
 if c88 then
  (bin .add v11_1 (Vi Ki 2)).bind fun v93 =>
  (call 72 #[t0_2, o1_2, v93] r_3.2).bind fun r94 =>
  (Pq Zp (Zx r94.1 0)).bind fun v95 =>
  (Pq Zp (Zx r94.1 1)).bind fun v96 =>
  (Pq Zp (Zx r94.1 2)).bind fun v97 =>
  (Eq_ Zp (Za 76 true (.tuple #[])) r94.2).bind fun r21 =>
  (Eq_ Zp (Zs 76 r21.1 v96) r21.2).bind fun r_18 =>
  (Pq Zp (Op.unary .not v97)).bind fun v99 =>
  (asB v99).bind fun c99 =>
  if c99 then
   ((Rq Zp (Zl 51 v10_1) r_18.2.drew).bind fun v100 =>
   some (v100, r_18.2.drew)).bind fun r100 =>
   ((Rq Zp (Zl 76 r21.1) r100.2).bind fun v101 =>
   some (v101, r100.2)).bind fun r101 =>
   ((Eq_ Zp (Zs 51 v8_1 r100.1) r101.2).bind fun r_20 =>
   some (undef, r_20.2)).bind fun r_19 =>
   ((Eq_ Zp (Zs 76 v9_1 r101.1) r_19.2).bind fun r_22 =>
   some (undef, r_22.2)).bind fun r_21 =>
   chkThen ((((Rq Zp (Zl 76 r21.1) r101.2).bind fun v101_1 => some v101_1) = some r101.1 ∧ ((Rq Zp (Zl 76 r21.1) r_19.2).bind fun v101_2 => some v101_2) = some r101.1) ∧ True)
   (some (Xr [v8_1, v9_1] r_21.2))
  else
  (Pq Zp (Zf 51 v10_1 4)).bind fun v103 =>
  (Eq_ Zp (Zs 9 v103 v95) r_18.2).bind fun r_23 =>
  some (Xn [t0_2, r3_2, v8_1, v9_1, v10_1, v11_1] r_23.2)
 else
 some (Xn [t0_2, r3_2, v8_1, v9_1, v10_1, v11_1] r_3.2)) (after Rt [] (f32.k2 call Rt)))) = some (.norm [] r_2.2))) = some (.norm [] W2)
noncomputable def f32.k0 (call : CallF) (Rt : List Value → World → Prop) (vs : List Value) (W1 : World) : Prop :=
 let t0_1 := nth vs 0
 let o1_1 := nth vs 1
 let A2_1 := nth vs 2
 let r3_1 := nth vs 3
 let v8 := nth vs 4
 let v9 := nth vs 5
 let v10 := nth vs 6
 let v11 := nth vs 7
 ((Eq_ Zp (Instr.buildSlice 42 2 #[(0, (Vi Ki 0)), (1, (Vi Ki 0))]) W1).bind fun r36 =>
 okIf W1 (hold ((iter (f32.l0 call) [t0_1, o1_1, A2_1, r3_1, v8, v9, v10, v11, r36.1, (Vi Ki 0)] r36.2).bind fun (r : Res) => (r.unblock 0).cont fun vs_8 W9 =>
 let t0_9 := nth vs_8 0
 let o1_5 := nth vs_8 1
 let r3_8 := nth vs_8 2
 let v8_8 := nth vs_8 3
 let v9_8 := nth vs_8 4
 let v10_8 := nth vs_8 5
 let v11_6 := nth vs_8 6
 let v13_3 := nth vs_8 7
 some (Xn [t0_9, o1_5, r3_8, v8_8, v9_8, v10_8, v11_6, v13_3] W9)) (after Rt [] (f32.k1 call Rt)))) = some (.norm [] W1)
noncomputable def f32.w (call : CallF) (Rt : List Value → World → Prop) (t0 : Value) (o1 : Value) (A2 : Value) (r3 : Value) (W0 : World) : Prop :=
 ((Eq_ Zp (Za 51 true (.tuple #[])) W0).bind fun r8 =>
 (Eq_ Zp (Za 76 true (.tuple #[])) r8.2).bind fun r9 =>
 okIf W0 (((call 73 #[t0, o1] r9.2).bind fun r27 =>
 (Pq Zp (Zx r27.1 0)).bind fun v28 =>
 (Pq Zp (Zx r27.1 1)).bind fun v29 =>
 (Pq Zp (Zx r27.1 2)).bind fun v30 =>
 (Eq_ Zp (Za 51 true (.tuple #[])) r27.2).bind fun r10 =>
 (Eq_ Zp (Za 76 true (.tuple #[])) r10.2).bind fun r12 =>
 (Eq_ Zp (Zs 51 r10.1 v28) r12.2).bind fun r =>
 (Eq_ Zp (Zs 76 r12.1 v30) r.2).bind fun r_1 =>
 okIf r9.2 (hold ((Pq Zp (Zf 76 r12.1 1)).bind fun v31 =>
 (Rq Zp (Zl 35 v31) r_1.2).bind fun v32 =>
 (bin .neq v32 (Vi Ki 0)).bind fun v33 =>
 (asB v33).bind fun c33 =>
 if c33 then
  ((Rq Zp (Zl 51 r10.1) r_1.2.drew).bind fun v34 =>
  some (v34, r_1.2.drew)).bind fun r34 =>
  ((Rq Zp (Zl 76 r12.1) r34.2).bind fun v35 =>
  some (v35, r34.2)).bind fun r35 =>
  ((Eq_ Zp (Zs 51 r8.1 r34.1) r35.2).bind fun r_35 =>
  some (undef, r_35.2)).bind fun r_34 =>
  ((Eq_ Zp (Zs 76 r9.1 r35.1) r_34.2).bind fun r_37 =>
  some (undef, r_37.2)).bind fun r_36 =>
  chkThen ((((Rq Zp (Zl 76 r12.1) r35.2).bind fun v35_1 => some v35_1) = some r35.1 ∧ ((Rq Zp (Zl 76 r12.1) r_34.2).bind fun v35_2 => some v35_2) = some r35.1) ∧ True)
  (some (Xr [r8.1, r9.1] r_36.2))
 else
 some (Xn [t0, o1, A2, r3, r8.1, r9.1, r10.1, v29] r_1.2)) (after Rt [] (f32.k0 call Rt)))) = some (.norm [] r9.2))) = some (.norm [] W0)
theorem f32.weq (call : CallF) (Rt : List Value → World → Prop) (t0 : Value) (o1 : Value) (A2 : Value) (r3 : Value) (W0 : World) : wCode Zp call [8, 9] Tryz.f32.ntmps Rt (Tryz.f32.body.getD .skip) f32.wann [] (ofArgs #[t0, o1, A2, r3]) W0 (fun e w => hold (gets e [8, 9]) fun vs => Rt vs w) = f32.w call Rt t0 o1 A2 r3 W0 := by kernel_rfl
def f10.wann : WAnn := (.s .r (.s (.d [0, 2] (.s .z (.c (.s .z .z) .z))) (.s .r (.s (.d [0, 2] (.s .z (.c (.s .z .z) .z))) (.s .r (.s .r (.s .r (.s (.b [0, 2, 6, 7] (.l [0, 2, 6, 7, 8] (.s (.d [0, 2, 6, 7, 8] (.s .z (.c .z .z))) (.b [0, 2, 6, 7, 8] (.s .r (.s .r (.s (.d [0, 2, 6, 7, 8, 9, 10] (.s .z (.c .z .z))) (.s (.d [0, 2, 6, 7, 8, 9, 10] (.s .z (.c (.s .z .z) .z))) (.s (.d [0, 2, 6, 7, 8, 9, 10] (.s .z (.c (.s .z (.s (.s .z (.c (.s .z .z) .z)) (.s .z (.s .z .z)))) .z))) (.s (.q 6) (.d [0, 2, 6, 7, 8] (.s (.s .z (.c (.s .z .z) .z)) .z)))))))))))) (.d [] (.s (.s .z (.c (.s .z .z) .z)) (.s .z .z)))))))))))
noncomputable def f10.k2 (call : CallF) (Rt : List Value → World → Prop) (vs_2 : List Value) (W3 : World) : Prop :=
 let s0_3 := nth vs_2 0
 let v2_2 := nth vs_2 1
 let out6 := nth vs_2 2
 let begun7 := nth vs_2 3
 hold ((Pq Zp (Op.unary .not begun7)).bind fun v92 =>
 (asB v92).bind fun c92 =>
 if c92 then
  (Pq Zp (Zb 30 #[])).bind fun v93 =>
  (Pq Zp (Yl #[9] 3 #[s0_3])).bind fun v95 =>
  (Eq_ Zp (Zs 30 v2_2 v93) W3).bind fun r =>
  some (Xr [v2_2, (Vi Ki 193), v95] r.2)
 else
 (Rq Zp (Zl 30 out6) W3).bind fun v96 =>
 (Eq_ Zp (Zs 30 v2_2 v96) W3).bind fun r_1 =>
 some (Xr [v2_2, (Vi Ki 0), (Vi Ki 0)] r_1.2)) (after Rt [] (fun _ _ => False))
noncomputable def f10.k5 (call : CallF) (Rt : List Value → World → Prop) (rec3 : List Value → World → Prop) (vs_5 : List Value) (W6 : World) : Prop :=
 let s0_6 := nth vs_5 0
 let v2_5 := nth vs_5 1
 let out6_3 := nth vs_5 2
 let begun7_3 := nth vs_5 3
 let at8_2 := nth vs_5 4
 rec3 [s0_6, v2_5, out6_3, begun7_3, at8_2] W6
noncomputable def f10.k9 (call : CallF) (Rt : List Value → World → Prop) (rec3 : List Value → World → Prop) (vs_9 : List Value) (W11 : World) : Prop :=
 let s0_10 := nth vs_9 0
 let v2_9 := nth vs_9 1
 let out6_7 := nth vs_9 2
 let begun7_7 := nth vs_9 3
 let at8_6 := nth vs_9 4
 (f10.k5 call Rt rec3) [s0_10, v2_9, out6_7, begun7_7, at8_6] W11
noncomputable def f10.k8 (call : CallF) (Rt : List Value → World → Prop) (rec3 : List Value → World → Prop) (vs_8 : List Value) (W9 : World) : Prop :=
 let s0_9 := nth vs_8 0
 let v2_8 := nth vs_8 1
 let out6_6 := nth vs_8 2
 let begun7_6 := nth vs_8 3
 let at8_5 := nth vs_8 4
 let l9_2 := nth vs_8 5
 let end10_2 := nth vs_8 6
 true = true ∧ 6 < 14 ∧ ((Pq Zp (Zf 30 out6_6 1)).bind fun v70 =>
 (Rq Zp (Zl 27 v70) W9).bind fun v71 =>
 (Pq Zp (Zf 30 out6_6 2)).bind fun v72 =>
 (Rq Zp (Zl 28 v72) W9).bind fun v73 =>
 okIf W9 (relF Zp 32 [l9_2, end10_2, v71, v73].toArray W9 fun r74 W10 =>
 ((Pq Zp (Zx r74 0)).bind fun v75 =>
 (Pq Zp (Zx r74 1)).bind fun v76 =>
 (Eq_ Zp (Za 51 true (.tuple #[])) W10).bind fun r14 =>
 (Eq_ Zp (Za 76 true (.tuple #[])) r14.2).bind fun r15 =>
 (Eq_ Zp (Zs 51 r14.1 v75) r15.2).bind fun r_2 =>
 (Eq_ Zp (Zs 76 r15.1 v76) r_2.2).bind fun r_3 =>
 okIf W9 (hold ((Pq Zp (Zf 76 r15.1 1)).bind fun v77 =>
 (Rq Zp (Zl 35 v77) r_3.2).bind fun v78 =>
 (bin .neq v78 (Vi Ki 0)).bind fun v79 =>
 (asB v79).bind fun c79 =>
 if c79 then
  ((Pq Zp (Zb 30 #[])).bind fun v80 =>
  some (v80, r_3.2.drew)).bind fun r80 =>
  ((Pq Zp (Zf 76 r15.1 1)).bind fun v81 =>
  some (v81, r80.2)).bind fun r81 =>
  ((Rq Zp (Zl 35 r81.1) r81.2).bind fun v82 =>
  some (v82, r81.2)).bind fun r82 =>
  ((Pq Zp (Zf 76 r15.1 0)).bind fun v83 =>
  some (v83, r82.2)).bind fun r83 =>
  ((Rq Zp (Zl 3 r83.1) r83.2).bind fun v84 =>
  some (v84, r83.2)).bind fun r84 =>
  ((Eq_ Zp (Zs 30 v2_8 r80.1) r84.2).bind fun r_5 =>
  some (undef, r_5.2)).bind fun r_4 =>
  chkThen ((((Rq Zp (Zl 35 r81.1) r84.2).bind fun v82_1 => some v82_1) = some r82.1 ∧ ((Rq Zp (Zl 35 r81.1) r_4.2).bind fun v82_2 => some v82_2) = some r82.1) ∧ (((Rq Zp (Zl 3 r83.1) r84.2).bind fun v84_1 => some v84_1) = some r84.1 ∧ ((Rq Zp (Zl 3 r83.1) r_4.2).bind fun v84_2 => some v84_2) = some r84.1) ∧ True)
  (some (Xr [v2_8, r82.1, r84.1] r_4.2))
 else
 (Pq Zp (Zf 30 out6_6 2)).bind fun v85 =>
 (Rq Zp (Zl 28 v85) r_3.2).bind fun v86 =>
 (Rq Zp (Zl 51 r14.1) r_3.2).bind fun v87 =>
 (Eq_ Zp (Instr.buildSlice 28 1 #[(0, v87)]) r_3.2).bind fun r88 =>
 (Eq_ Zp (Yb #[28, 28] 28 #[v86, r88.1]) r88.2).bind fun r89 =>
 (Pq Zp (Zf 30 out6_6 2)).bind fun v90 =>
 (Eq_ Zp (Zs 28 v90 r89.1) r89.2).bind fun r_6 =>
 some (Xn [s0_9, v2_8, out6_6, begun7_6, at8_5] r_6.2)) (after Rt [⟨1, [0, 2, 6, 7, 8], (f10.k5 call Rt rec3)⟩, ⟨0, [0, 2, 6, 7], (f10.k2 call Rt)⟩] (f10.k9 call Rt rec3)))) = some (.norm [] W9))) = some (.norm [] W9)
noncomputable def f10.k7 (call : CallF) (Rt : List Value → World → Prop) (rec3 : List Value → World → Prop) (vs_7 : List Value) (W8 : World) : Prop :=
 let s0_8 := nth vs_7 0
 let v2_7 := nth vs_7 1
 let out6_5 := nth vs_7 2
 let begun7_5 := nth vs_7 3
 let at8_4 := nth vs_7 4
 let l9_1 := nth vs_7 5
 let end10_1 := nth vs_7 6
 hold ((Pq Zp (Op.unary .not begun7_5)).bind fun v51 =>
 (asB v51).bind fun c51 =>
 if c51 then
  (call 31 #[l9_1, end10_1] W8).bind fun r55 =>
  (Pq Zp (Zx r55.1 0)).bind fun v56 =>
  (Pq Zp (Zx r55.1 1)).bind fun v57 =>
  (Eq_ Zp (Za 30 true (.tuple #[])) r55.2).bind fun r12 =>
  (Eq_ Zp (Za 76 true (.tuple #[])) r12.2).bind fun r13 =>
  (Eq_ Zp (Zs 30 r12.1 v56) r13.2).bind fun r_7 =>
  (Eq_ Zp (Zs 76 r13.1 v57) r_7.2).bind fun r_8 =>
  (Pq Zp (Zf 76 r13.1 1)).bind fun v58 =>
  (Rq Zp (Zl 35 v58) r_8.2).bind fun v59 =>
  (bin .neq v59 (Vi Ki 0)).bind fun v60 =>
  (asB v60).bind fun c60 =>
  if c60 then
   ((Pq Zp (Zb 30 #[])).bind fun v61 =>
   some (v61, r_8.2.drew)).bind fun r61 =>
   ((Pq Zp (Zf 76 r13.1 1)).bind fun v62 =>
   some (v62, r61.2)).bind fun r62 =>
   ((Rq Zp (Zl 35 r62.1) r62.2).bind fun v63 =>
   some (v63, r62.2)).bind fun r63 =>
   ((Pq Zp (Zf 76 r13.1 0)).bind fun v64 =>
   some (v64, r63.2)).bind fun r64 =>
   ((Rq Zp (Zl 3 r64.1) r64.2).bind fun v65 =>
   some (v65, r64.2)).bind fun r65 =>
   ((Eq_ Zp (Zs 30 v2_7 r61.1) r65.2).bind fun r_10 =>
   some (undef, r_10.2)).bind fun r_9 =>
   chkThen ((((Rq Zp (Zl 35 r62.1) r65.2).bind fun v63_1 => some v63_1) = some r63.1 ∧ ((Rq Zp (Zl 35 r62.1) r_9.2).bind fun v63_2 => some v63_2) = some r63.1) ∧ (((Rq Zp (Zl 3 r64.1) r65.2).bind fun v65_1 => some v65_1) = some r65.1 ∧ ((Rq Zp (Zl 3 r64.1) r_9.2).bind fun v65_2 => some v65_2) = some r65.1) ∧ True)
   (some (Xr [v2_7, r63.1, r65.1] r_9.2))
  else
  (Rq Zp (Zl 30 r12.1) r_8.2).bind fun v66 =>
  (Eq_ Zp (Zs 30 out6_5 v66) r_8.2).bind fun r_11 =>
  some (Xx 1 [s0_8, v2_7, out6_5, (Vb true), at8_4] r_11.2)
 else
 some (Xn [s0_8, v2_7, out6_5, begun7_5, at8_4, l9_1, end10_1] W8)) (after Rt [⟨1, [0, 2, 6, 7, 8], (f10.k5 call Rt rec3)⟩, ⟨0, [0, 2, 6, 7], (f10.k2 call Rt)⟩] (f10.k8 call Rt rec3))
noncomputable def f10.k6 (call : CallF) (Rt : List Value → World → Prop) (rec3 : List Value → World → Prop) (vs_6 : List Value) (W7 : World) : Prop :=
 let s0_7 := nth vs_6 0
 let v2_6 := nth vs_6 1
 let out6_4 := nth vs_6 2
 let begun7_4 := nth vs_6 3
 let at8_3 := nth vs_6 4
 let l9 := nth vs_6 5
 let end10 := nth vs_6 6
 hold ((Pq Zp (Zf 30 out6_4 2)).bind fun v41 =>
 (Rq Zp (Zl 28 v41) W7).bind fun v42 =>
 (Pq Zp (Yl #[28] 3 #[v42])).bind fun v43 =>
 (bin .eql v43 (Vi Ki 200)).bind fun v44 =>
 (asB v44).bind fun c44 =>
 if c44 then
  ((Pq Zp (Zb 30 #[])).bind fun v45 =>
  some (v45, W7.drew)).bind fun r45 =>
  ((Pq Zp (Zj 70 l9 (Vi Ki 0))).bind fun v47 =>
  some (v47, r45.2)).bind fun r47 =>
  ((Pq Zp (Zf 74 r47.1 0)).bind fun v48 =>
  some (v48, r47.2)).bind fun r48 =>
  ((Rq Zp (Zl 3 r48.1) r48.2).bind fun v49 =>
  some (v49, r48.2)).bind fun r49 =>
  ((Eq_ Zp (Zs 30 v2_6 r45.1) r49.2).bind fun r_13 =>
  some (undef, r_13.2)).bind fun r_12 =>
  chkThen ((((Rq Zp (Zl 3 r48.1) r49.2).bind fun v49_1 => some v49_1) = some r49.1 ∧ ((Rq Zp (Zl 3 r48.1) r_12.2).bind fun v49_2 => some v49_2) = some r49.1) ∧ True)
  (some (Xr [v2_6, (Vi Ki 196), r49.1] r_12.2))
 else
 some (Xn [s0_7, v2_6, out6_4, begun7_4, at8_3, l9, end10] W7)) (after Rt [⟨1, [0, 2, 6, 7, 8], (f10.k5 call Rt rec3)⟩, ⟨0, [0, 2, 6, 7], (f10.k2 call Rt)⟩] (f10.k7 call Rt rec3))
noncomputable def f10.k4 (call : CallF) (Rt : List Value → World → Prop) (rec3 : List Value → World → Prop) (vs_4 : List Value) (W5 : World) : Prop :=
 let s0_5 := nth vs_4 0
 let v2_4 := nth vs_4 1
 let out6_2 := nth vs_4 2
 let begun7_2 := nth vs_4 3
 let at8_1 := nth vs_4 4
 ((call 30 #[s0_5, at8_1] W5).bind fun r33 =>
 (Pq Zp (Zx r33.1 0)).bind fun v34 =>
 (Pq Zp (Zx r33.1 1)).bind fun v35 =>
 (Pq Zp (Zx r33.1 2)).bind fun v36 =>
 okIf W5 ((okIf r33.2 (hold ((Pq Zp (Yl #[70] 3 #[v34])).bind fun v39 =>
 (bin .eql v39 (Vi Ki 0)).bind fun v40 =>
 (asB v40).bind fun c40 =>
 if c40 then
  some (Xx 1 [s0_5, v2_4, out6_2, begun7_2, v36] r33.2)
 else
 some (Xn [s0_5, v2_4, out6_2, begun7_2, v36, v34, v35] r33.2)) (after Rt [⟨1, [0, 2, 6, 7, 8], (f10.k5 call Rt rec3)⟩, ⟨0, [0, 2, 6, 7], (f10.k2 call Rt)⟩] (f10.k6 call Rt rec3)))) = some (.norm [] r33.2))) = some (.norm [] W5)
noncomputable def f10.w3 (call : CallF) (Rt : List Value → World → Prop) (rec3 : List Value → World → Prop) (vs_3 : List Value) (W4 : World) : Prop :=
 let s0_4 := nth vs_3 0
 let v2_3 := nth vs_3 1
 let out6_1 := nth vs_3 2
 let begun7_1 := nth vs_3 3
 let at8 := nth vs_3 4
 hold ((Pq Zp (Yl #[9] 3 #[s0_4])).bind fun v28 =>
 (bin .leq at8 v28).bind fun v29 =>
 (asB v29).bind fun c29 =>
 if c29 then
  some (Xn [s0_4, v2_3, out6_1, begun7_1, at8] W4)
 else
 some (Xx 0 [s0_4, v2_3, out6_1, begun7_1] W4)) (after Rt [⟨0, [0, 2, 6, 7], (f10.k2 call Rt)⟩] (f10.k4 call Rt rec3))
noncomputable def f10.k1 (call : CallF) (Rt : List Value → World → Prop) (vs_1 : List Value) (W2 : World) : Prop :=
 let s0_2 := nth vs_1 0
 let v2_1 := nth vs_1 1
 ((Eq_ Zp (Za 30 true (.tuple #[])) W2).bind fun r6 =>
 okIf W2 ((okIf r6.2 ((okIf r6.2 (∃ n, itN (f10.w3 call Rt) n [s0_2, v2_1, r6.1, (Vb false), (Vi Ki 0)] r6.2)) = some (.norm [] r6.2))) = some (.norm [] r6.2))) = some (.norm [] W2)
noncomputable def f10.k0 (call : CallF) (Rt : List Value → World → Prop) (vs : List Value) (W1 : World) : Prop :=
 let s0_1 := nth vs 0
 let v2 := nth vs 1
 ((call 29 #[s0_1] W1).bind fun r21 =>
 okIf W1 (hold ((bin .geq r21.1 (Vi Ki 0)).bind fun v23 =>
 (asB v23).bind fun c23 =>
 if c23 then
  (Pq Zp (Zb 30 #[])).bind fun v24 =>
  (Eq_ Zp (Zs 30 v2 v24) r21.2).bind fun r_14 =>
  some (Xr [v2, (Vi Ki 192), r21.1] r_14.2)
 else
 some (Xn [s0_1, v2] r21.2)) (after Rt [] (f10.k1 call Rt)))) = some (.norm [] W1)
noncomputable def f10.w (call : CallF) (Rt : List Value → World → Prop) (s0 : Value) (W0 : World) : Prop :=
 ((Eq_ Zp (Za 30 true (.tuple #[])) W0).bind fun r2 =>
 okIf W0 (hold ((Pq Zp (Yl #[9] 3 #[s0])).bind fun v17 =>
 (bin .gtr v17 (Vi Ki 20000)).bind fun v18 =>
 (asB v18).bind fun c18 =>
 if c18 then
  (Pq Zp (Zb 30 #[])).bind fun v19 =>
  (Eq_ Zp (Zs 30 r2.1 v19) r2.2).bind fun r_15 =>
  some (Xr [r2.1, (Vi Ki 191), (Vi Ki 0)] r_15.2)
 else
 some (Xn [s0, r2.1] r2.2)) (after Rt [] (f10.k0 call Rt)))) = some (.norm [] W0)
theorem f10.weq (call : CallF) (Rt : List Value → World → Prop) (s0 : Value) (W0 : World) : wCode Zp call [2, 3, 4] Tryz.f10.ntmps Rt (Tryz.f10.body.getD .skip) f10.wann [] (ofArgs #[s0]) W0 (fun e w => hold (gets e [2, 3, 4]) fun vs => Rt vs w) = f10.w call Rt s0 W0 := by kernel_rfl
@[simp] theorem fa76_0 (a : Addr) : Pq Zp (Zf 76 (.pointer (some a)) 0) = some (.pointer (some (a.add 0))) := id (by kernel_rfl)
@[simp] theorem fa76_1 (a : Addr) : Pq Zp (Zf 76 (.pointer (some a)) 1) = some (.pointer (some (a.add 1))) := id (by kernel_rfl)
@[simp] theorem bs42_0 (w : World) : Eq_ Zp (Instr.buildSlice 42 0 #[]) w = some (.slice (some ⟨w.heap.size, 0, none⟩) 0 0, w.alloc (.cells #[] 3)) := id (by kernel_rfl)
def FinP (W : World) (Rt : List Value → World → Prop) (b8 b9 : Nat) (P : Ev → Int → Int → Prop) : Prop :=
 ∀ (Y : Asn W.heap.size) (ev : Ev) (a z : Int) (w' : World), Sat W (blkA b8 51 ev.cs * (blkA b9 76 (xcs a z) * Y)) w' → P ev a z → Rt [.pointer (some ⟨b8, 0, none⟩), .pointer (some ⟨b9, 0, none⟩)] w'
section
variable {W : World} {Rt : List Value → World → Prop} {b8 b9 : Nat} {P : Ev → Int → Int → Prop}
theorem k5_ok {w : World} {Y : Asn W.heap.size} {B : Option Addr} {c b10 : Nat} {ws : List Wd} {y : Wd} {ev : Ev} (hF : FinP W Rt b8 b9 P) (hr : Rd W B (rwcs ws)) (hne : ws[0]? = some y)
  (x : Sat W (blkA b8 51 ev0.cs * (blkA b9 76 (xcs 0 0) * (blkA b10 51 ev.cs * Y))) w) (b : Bool) (h0 : b = false → P ev (y.a : Int) 195) (h1 : b = true → P ev 0 0) :
  f32.k5 C Rt [.slice B ws.length c, .pointer (some ⟨b8, 0, none⟩), .pointer (some ⟨b9, 0, none⟩), .pointer (some ⟨b10, 0, none⟩), .bool b] w := by
 have hrw : ∀ {w'} {Y : Asn W.heap.size}, Sat W Y w' → Rd w' B (rwcs ws) := fun y => hr.grown (grown_of y)
 cases b with
 | true =>
  have l1 := ld_ev (x.eq (by ac_rfl : _ = blkA b10 51 ev.cs * (blkA b8 51 ev0.cs * (blkA b9 76 (xcs 0 0) * Y))))
  obtain ⟨w1, w2, k1, _, k2, x2, _, _⟩ := fin51 x ev 0 0
  have := hF _ ev 0 0 w2 x2 (h1 rfl)
  simp [f32.k5, l1, build76z, k1, k2, after, this]
 | false =>
  have l1 := ld_ev (x.drew.eq (by ac_rfl : _ = blkA b10 51 ev.cs * (blkA b8 51 ev0.cs * (blkA b9 76 (xcs 0 0) * Y))))
  obtain ⟨w1, w2, k1, x1, k2, x2, _, _⟩ := fin51 x.drew ev (y.a : Int) 195
  obtain ⟨a, i0, c0, _, _, _⟩ := rw_at (hrw x) hne
  obtain ⟨a', i0', c0', _, _, _⟩ := rw_at (hrw x1) hne
  have : a' = a := by have := (i0 0).symm.trans (i0' 0); simpa using this.symm
  subst this
  have i1 : Pq Zp (Zj 70 (.slice B ws.length c) (.int .i64 0)) = some (.pointer (some a')) := i0 c
  have b1 := build76 (y.a : Int) 195
  have := hF _ ev (y.a : Int) 195 w2 x2 (h0 rfl)
  simp [f32.k5, l1, i1, c0, c0', b1, k1, k2, after, this]
theorem k4_ok {w : World} {Y : Asn W.heap.size} {B A : Option Addr} {c cq b10 : Nat} {ws : List Wd} {y : Wd} {ev : Ev} {q : List Ev} (hF : FinP W Rt b8 b9 P) (hr : Rd W B (rwcs ws)) (hq : Rd W A (q.flatMap Ev.cs)) (hnil : A = none → cq = 0) (hql : q.length ≤ 200) (hne : ws[0]? = some y)
  (he : 0 ≤ ev.i ∧ ev.i ≤ 1000000000 ∧ 0 ≤ ev.o ∧ ev.o ≤ 1000000000) (ha : ∀ x ∈ q, x.mid ∧ 0 ≤ x.f ∧ x.f ≤ 100)
  (x : Sat W (blkA b8 51 ev0.cs * (blkA b9 76 (xcs 0 0) * (blkA b10 51 ev.cs * Y))) w) (h0 : fadeMay q ev = false → P ev (y.a : Int) 195) (h1 : fadeMay q ev = true → P ev 0 0) :
  f32.k4 C Rt [.slice B ws.length c, .slice A q.length cq, .pointer (some ⟨b8, 0, none⟩), .pointer (some ⟨b9, 0, none⟩), .pointer (some ⟨b10, 0, none⟩)] w := by
 have hfm : q.flatMap Ev.cs ++ [ev].flatMap Ev.cs = (q ++ [ev]).flatMap Ev.cs := by simp
 have hfl : (q ++ [ev]).length = q.length + 1 := by simp
 have h1e : [ev].flatMap Ev.cs = ev.cs := by simp
 -- behind both
 have fin : ∀ {w1 : World} {Z : Asn W.heap.size} {v : Value} {bE : Nat}, Sat W (rowA 51 5 v q.length (q.flatMap Ev.cs) * (blkA bE 51 ev.cs * (blkA b8 51 ev0.cs * (blkA b9 76 (xcs 0 0) * (blkA b10 51 ev.cs * Z))))) w1 →
   ∃ v' w2 w3, Eq_ Zp (Yb #[28, 28] 28 #[v, .slice (some ⟨bE, 0, none⟩) 1 1]) w1 = some (v', w2) ∧ C 75 #[v'] w2 = some (.bool (fadeMay q ev), w3) ∧ f32.k5 C Rt [.slice B ws.length c, .pointer (some ⟨b8, 0, none⟩), .pointer (some ⟨b9, 0, none⟩), .pointer (some ⟨b10, 0, none⟩), .bool (fadeMay q ev)] w3 := by
  intro w1 Z v bE z
  have rE : Rd w1 (some ⟨bE, 0, none⟩) ([ev].flatMap Ev.cs) := by rw [h1e]; exact rd_blk (z.eq (by ac_rfl : _ = blkA bE 51 ev.cs * (rowA 51 5 v q.length (q.flatMap Ev.cs) * (blkA b8 51 ev0.cs * (blkA b9 76 (xcs 0 0) * (blkA b10 51 ev.cs * Z))))))
  obtain ⟨v', w2, k2, z2⟩ := app28 z (q := [ev]) (m := 1) (c := 1) rfl rE (fun h => by cases h) (by omega)
  rw [hfm, ← hfl] at z2
  obtain ⟨A', c', rfl, hc', _⟩ := own_form z2.row
  obtain ⟨w3, k3, g3⟩ := rfade_ok (c := c') (Rd.own z2.row) (by omega) he ha
  refine ⟨_, w2, w3, k2, k3, k5_ok hF hr hne (((z2.grown g3).eq (by ac_rfl : _ = (rowA 51 5 (.slice A' (q ++ [ev]).length c') (q ++ [ev]).length ((q ++ [ev]).flatMap Ev.cs) * blkA bE 51 ev.cs) * (blkA b8 51 ev0.cs * (blkA b9 76 (xcs 0 0) * (blkA b10 51 ev.cs * Z))))).right) _ h0 h1⟩
 unfold f32.k4
 refine ⟨rfl, ?_, ?_, ?_, trivial⟩
 ·have l1 := ld_ev (x.drew.eq (by ac_rfl : _ = blkA b10 51 ev.cs * (blkA b8 51 ev0.cs * (blkA b9 76 (xcs 0 0) * Y))))
  have bs := bs28 ev w.drew
  have x1 := x.drew.newBlk 51 ev.cs
  obtain ⟨w1, hw1⟩ : ∃ w1, w1 = w.drew.alloc (.cells ev.cs.toArray 51) := ⟨_, rfl⟩
  rw [← hw1] at bs x1
  have x2 := Sat.emptyRow x1 51 5
  obtain ⟨v3, w3, k3, x3⟩ := app28 x2 (m := q.length) (c := cq) rfl (hq.grown (grown_of x2)) hnil (by omega)
  rw [Nat.zero_add, List.nil_append] at x3
  obtain ⟨v4, w4, w5, k4, k5, z⟩ := fin x3
  rw [show w.drew.heap.size = w.heap.size from rfl] at k4
  simp [l1, bs, k3, k4, k5, z]
 ·have x1 := Sat.emptyRow x.drew 51 5
  obtain ⟨w1, hw1⟩ : ∃ w1, w1 = w.drew.alloc (.cells #[] 51) := ⟨_, rfl⟩
  rw [← hw1] at x1
  have l0 := ld_ev (x.drew.eq (by ac_rfl : _ = blkA b10 51 ev.cs * (blkA b8 51 ev0.cs * (blkA b9 76 (xcs 0 0) * Y))))
  obtain ⟨E, hE⟩ : ∃ E : Value, E = .slice (some ⟨w.drew.heap.size, 0, none⟩) 0 0 := ⟨_, rfl⟩
  have be : Eq_ Zp (Instr.buildSlice 28 0 #[]) w.drew = some (E, w1) := by rw [hw1, hE]; exact bs28_0 w.drew
  rw [← hE] at x1
  have l1 := ld_ev (x1.eq (by ac_rfl : _ = blkA b10 51 ev.cs * (rowA 51 5 E 0 [] * (blkA b8 51 ev0.cs * (blkA b9 76 (xcs 0 0) * Y)))))
  have bs := bs28 ev w1
  have x2 := (x1.newBlk 51 ev.cs).eq (by ac_rfl : _ = rowA 51 5 E 0 [] * (blkA w1.heap.size 51 ev.cs * (blkA b8 51 ev0.cs * (blkA b9 76 (xcs 0 0) * (blkA b10 51 ev.cs * Y)))))
  obtain ⟨v3, w3, k3, x3⟩ := app28 x2 (m := q.length) (c := cq) rfl (hq.grown (grown_of x2)) hnil (by omega)
  rw [Nat.zero_add, List.nil_append] at x3
  obtain ⟨v4, w4, w5, k4, k5, z⟩ := fin x3
  simp only [be, Option.bind_some]
  simp [l0, l1, bs, k3, k4, k5, z]
 ·have x1 := Sat.emptyRow x.drew 51 5
  obtain ⟨w1, hw1⟩ : ∃ w1, w1 = w.drew.alloc (.cells #[] 51) := ⟨_, rfl⟩
  rw [← hw1] at x1
  have l0 := ld_ev (x.drew.eq (by ac_rfl : _ = blkA b10 51 ev.cs * (blkA b8 51 ev0.cs * (blkA b9 76 (xcs 0 0) * Y))))
  obtain ⟨E, hE⟩ : ∃ E : Value, E = .slice (some ⟨w.drew.heap.size, 0, none⟩) 0 0 := ⟨_, rfl⟩
  have be : Eq_ Zp (Instr.buildSlice 28 0 #[]) w.drew = some (E, w1) := by rw [hw1, hE]; exact bs28_0 w.drew
  rw [← hE] at x1
  have l1 := ld_ev (x1.eq (by ac_rfl : _ = blkA b10 51 ev.cs * (rowA 51 5 E 0 [] * (blkA b8 51 ev0.cs * (blkA b9 76 (xcs 0 0) * Y)))))
  obtain ⟨v3, w3, k3, x3⟩ := app28 x1 (m := q.length) (c := cq) rfl (hq.grown (grown_of x1)) hnil (by omega)
  rw [Nat.zero_add, List.nil_append] at x3
  have l2 := ld_ev (x3.eq (by ac_rfl : _ = blkA b10 51 ev.cs * (rowA 51 5 v3 q.length (q.flatMap Ev.cs) * (blkA b8 51 ev0.cs * (blkA b9 76 (xcs 0 0) * Y)))))
  have bs := bs28 ev w3
  have x4 := (x3.newBlk 51 ev.cs).eq (by ac_rfl : _ = rowA 51 5 v3 q.length (q.flatMap Ev.cs) * (blkA w3.heap.size 51 ev.cs * (blkA b8 51 ev0.cs * (blkA b9 76 (xcs 0 0) * (blkA b10 51 ev.cs * Y)))))
  obtain ⟨v4, w4, w5, k4, k5, z⟩ := fin x4
  simp only [be, Option.bind_some]
  simp [l0, l1, l2, bs, k3, k4, k5, z]
end
def PR (res : Except (Int × Int) Ev) (ev : Ev) (a z : Int) : Prop := (res = .ok ev ∧ a = 0 ∧ z = 0) ∨ (res = .error (a, z) ∧ z ≠ 0)
structure EvIn (r : Int) (ev : Ev) : Prop where
 nm : isName ev.s = true
 i0 : 0 ≤ ev.i
 i1 : ev.i < dayOf r
 o0 : 0 ≤ ev.o
 o1 : ev.o < dayOf r
 nl : ev.n.length ≤ 100
 nv : valid ev.n = true
section
variable {W : World} {Rt : List Value → World → Prop} {b8 b9 : Nat} {res : Except (Int × Int) Ev}
theorem k3_ok {w : World} {Y : Asn W.heap.size} {B A : Option Addr} {c cq b10 k : Nat} {ws : List Wd} {y z2 : Wd} {ev : Ev} {t : List UInt8} {r : Int} {q : List Ev} (hF : FinP W Rt b8 b9 (PR res)) (hr : Rd W B (rwcs ws)) (hq : Rd W A (q.flatMap Ev.cs)) (hnil : A = none → cq = 0) (F : Fine t r q) (hql : q.length ≤ 199) (hne : ws[0]? = some y) (h2 : ws[k + 1]? = some z2) (hk : k ≤ 3) (E : EvIn r ev)
  (hres : res = ev3R t r q [] ev (y.a : Int) (z2.a : Int))
  (x : Sat W (blkA b8 51 ev0.cs * (blkA b9 76 (xcs 0 0) * (blkA b10 51 ev.cs * Y))) w) :
  f32.k3 C Rt [.slice B ws.length c, .slice A q.length cq, .pointer (some ⟨b8, 0, none⟩), .pointer (some ⟨b9, 0, none⟩), .pointer (some ⟨b10, 0, none⟩), .int .i64 (k : Int)] w := by
 have hrw : ∀ {w'} {Y : Asn W.heap.size}, Sat W Y w' → Rd w' B (rwcs ws) := fun y => hr.grown (grown_of y)
 have hday := dayOf_le r
 unfold ev3R at hres
 rw [ev3_law F hql E.nm E.i0 E.o1 E.nl E.nv] at hres
 have x1 : Sat W (blkA b10 51 ev.cs * (blkA b8 51 ev0.cs * (blkA b9 76 (xcs 0 0) * Y))) w := x.eq (by ac_rfl)
 have c1 : w.cell? ⟨b10, 1, none⟩ = some (.int .i64 ev.i) := x1.cell 1 rfl
 have c2 : w.cell? ⟨b10, 2, none⟩ = some (.int .i64 ev.o) := x1.cell 2 rfl
 by_cases hio : ev.o ≤ ev.i
 ·rw [if_pos hio] at hres
  have l1 := ld_ev x1.drew
  obtain ⟨w1, w2, k1, x2, k2, x3, _, _⟩ := fin51 x.drew ev (z2.a : Int) 194
  obtain ⟨a, i0, c0, _, _, _⟩ := rw_at (hrw x) h2
  obtain ⟨a', i0', c0', _, _, _⟩ := rw_at (hrw x2) h2
  have : a' = a := by have := (i0 0).symm.trans (i0' 0); simpa using this.symm
  subst this
  have e1 : IntKind.i64.wrap ((k : Int) + 1) = ((k + 1 : Nat) : Int) := (wrap_i64 (by omega) (by omega)).trans (by omega)
  have i1 := i0 c
  obtain ⟨K1, hK1⟩ : ∃ K : Int, K = ((k + 1 : Nat) : Int) := ⟨_, rfl⟩
  rw [← hK1] at e1 i1
  have b1 := build76 (z2.a : Int) 194
  have := hF _ ev (z2.a : Int) 194 w2 x3 (.inr ⟨hres, by decide⟩)
  simp [f32.k3, addL, c1, c2, hio, l1, e1, i1, c0, c0', b1, k1, k2, after, this]
 ·rw [if_neg hio] at hres
  have := k4_ok (c := c) (cq := cq) hF hr hq hnil (by omega) hne ⟨E.i0, by have := E.i1; omega, E.o0, by have := E.o1; omega⟩ (fun e he => by obtain ⟨i, hi⟩ := List.getElem?_of_mem he; exact F.mid hi) x
   (fun h => .inr ⟨by rw [hres, if_pos h], by decide⟩) (fun h => .inl ⟨by rw [hres, if_neg (by rw [h]; decide)], rfl, rfl⟩)
  simp [f32.k3, addL, c1, c2, hio, after, this]
theorem k2_ok {w : World} {Y : Asn W.heap.size} {B A : Option Addr} {c cq b10 k : Nat} {ws : List Wd} {y z2 : Wd} {ev : Ev} {t : List UInt8} {r : Int} {q : List Ev} (hF : FinP W Rt b8 b9 (PR res)) (hr : Rd W B (rwcs ws)) (hq : Rd W A (q.flatMap Ev.cs)) (hnil : A = none → cq = 0) (F : Fine t r q) (hql : q.length ≤ 199) (hne : ws[0]? = some y) (h2 : ws[k + 1]? = some z2) (hk : k ≤ 3) (hl : ws.length ≤ 1000000) (E : EvIn r ev)
  (hres : res = ev3R t r q (ws.drop (k + 3)) ev (y.a : Int) (z2.a : Int))
  (x : Sat W (blkA b8 51 ev0.cs * (blkA b9 76 (xcs 0 0) * (blkA b10 51 ev.cs * Y))) w) :
  f32.k2 C Rt [.slice B ws.length c, .slice A q.length cq, .pointer (some ⟨b8, 0, none⟩), .pointer (some ⟨b9, 0, none⟩), .pointer (some ⟨b10, 0, none⟩), .int .i64 (k : Int)] w := by
 have hrw : ∀ {w'} {Y : Asn W.heap.size}, Sat W Y w' → Rd w' B (rwcs ws) := fun y => hr.grown (grown_of y)
 have e1 : IntKind.i64.wrap ((k : Int) + 3) = ((k + 3 : Nat) : Int) := (wrap_i64 (by omega) (by omega)).trans (by omega)
 obtain ⟨K1, hK1⟩ : ∃ K : Int, K = ((k + 3 : Nat) : Int) := ⟨_, rfl⟩
 rw [← hK1] at e1
 cases h4 : ws[k + 3]? with
 | none =>
  have hle : ws.length ≤ k + 3 := by simpa using h4
  have hle' : ¬ K1 < (ws.length : Int) := by omega
  rw [List.drop_eq_nil_of_le hle] at hres
  have := k3_ok (c := c) (cq := cq) hF hr hq hnil F hql hne h2 hk E hres x
  simp [f32.k2, e1, hle', after, this]
 | some y4 =>
  have hlt : k + 3 < ws.length := (List.getElem?_eq_some_iff.mp h4).1
  have hlt' : K1 < (ws.length : Int) := by omega
  have hd : ws.drop (k + 3) = y4 :: ws.drop (k + 4) := by
   rw [List.drop_eq_getElem_cons hlt]
   congr 1
   rw [Yg hlt] at h4
   exact Option.some.inj h4
  rw [hd] at hres
  have hres : res = .error ((y4.a : Int), 193) := hres
  have l1 := ld_ev (x.drew.eq (by ac_rfl : _ = blkA b10 51 ev.cs * (blkA b8 51 ev0.cs * (blkA b9 76 (xcs 0 0) * Y))))
  obtain ⟨w1, w2, k1, x2, k2, x3, _, _⟩ := fin51 x.drew ev (y4.a : Int) 193
  obtain ⟨a, i0, c0, _, _, _⟩ := rw_at (hrw x) h4
  obtain ⟨a', i0', c0', _, _, _⟩ := rw_at (hrw x2) h4
  have : a' = a := by have := (i0 0).symm.trans (i0' 0); simpa using this.symm
  subst this
  have i1 := i0 c
  rw [← hK1] at i1
  have b1 := build76 (y4.a : Int) 193
  have := hF _ ev (y4.a : Int) 193 w2 x3 (.inr ⟨hres, by decide⟩)
  simp [f32.k2, e1, hlt', l1, i1, c0, c0', b1, k1, k2, after, this]
theorem nextE_z {t : Bool} {ws : List Wd} {e a z : Int} (h : nextE t ws e = some (a, z)) : z ≠ 0 := by
 unfold nextE at h
 split at h
 ·cases h; decide
 ·split at h
  ·cases h; decide
  ·split at h
   ·cases h; decide
   ·cases h
theorem k1_ok {w : World} {Y : Asn W.heap.size} {B A : Option Addr} {c cq b10 bT k : Nat} {ws : List Wd} {y z2 : Wd} {s t : List UInt8} {e f i o r : Int} {q : List Ev} (hF : FinP W Rt b8 b9 (PR res)) (hr : Rd W B (rwcs ws)) (hq : Rd W A (q.flatMap Ev.cs)) (hnil : A = none → cq = 0) (F : Fine t r q) (hql : q.length ≤ 199) (hne : ws[0]? = some y) (h2 : ws[k + 1]? = some z2) (hk : k ≤ 3) (hl : ws.length ≤ 1000000)
  (hval : ∀ y ∈ ws, y.t = true → y.b = false → valid y.s = true) (hn : isName s = true) (hi : 0 ≤ i) (hi1 : i < dayOf r) (ho : 0 ≤ o) (ho1 : o < dayOf r)
  (hres : res = ev2D t r q f (y.a : Int) s i o (z2.a : Int) e (ws.drop (k + 2)))
  (x : Sat W (blkA b8 51 ev0.cs * (blkA b9 76 (xcs 0 0) * (blkA b10 51 (evf s f).cs * (blkA bT 3 [.int .i64 i, .int .i64 o] * Y)))) w) :
  f32.k1 C Rt [.slice B ws.length c, .int .i64 e, .slice A q.length cq, .pointer (some ⟨b8, 0, none⟩), .pointer (some ⟨b9, 0, none⟩), .pointer (some ⟨b10, 0, none⟩), .int .i64 (k : Int), .slice (some ⟨bT, 0, none⟩) 2 2] w := by
 have hrw : ∀ {w'} {Y : Asn W.heap.size}, Sat W Y w' → Rd w' B (rwcs ws) := fun y => hr.grown (grown_of y)
 have t0 := ix42 ⟨bT, 0, none⟩ 2 2 .i64 0 (by omega) (by omega)
 have t1 := ix42 ⟨bT, 0, none⟩ 2 2 .i64 1 (by omega) (by omega)
 have t0 : Pq Zp (Zj 42 (.slice (some ⟨bT, 0, none⟩) 2 2) (.int .i64 0)) = some (.pointer (some ⟨bT, 0, none⟩)) := t0
 have t1 : Pq Zp (Zj 42 (.slice (some ⟨bT, 0, none⟩) 2 2) (.int .i64 1)) = some (.pointer (some ⟨bT, 1, none⟩)) := t1
 have y1 : Sat W (blkA bT 3 [.int .i64 i, .int .i64 o] * (blkA b8 51 ev0.cs * (blkA b9 76 (xcs 0 0) * (blkA b10 51 (evf s f).cs * Y)))) w := x.eq (by ac_rfl)
 have d0 := y1.cell 0 rfl
 have y2 : Sat W (blkA b10 51 (evf s f).cs * (blkA b8 51 ev0.cs * (blkA b9 76 (xcs 0 0) * (blkA bT 3 [.int .i64 i, .int .i64 o] * Y)))) w := x.eq (by ac_rfl)
 have s1 := y2.blk.store (P := Zp) (t := 3) (j := 1) (v := .int .i64 i) inf3 size3 (by simp [Ev.cs]) rfl rfl
 have y3 := y2.store 1 (.int .i64 i) (cs' := (⟨s, i, 0, f, []⟩ : Ev).cs) rfl
 obtain ⟨w1, hw1⟩ : ∃ w1, w1 = w.setCell ⟨b10, 1, none⟩ (.int .i64 i) := ⟨_, rfl⟩
 rw [← hw1] at s1 y3
 have d1 := (y3.eq (by ac_rfl : _ = blkA bT 3 [.int .i64 i, .int .i64 o] * (blkA b10 51 (⟨s, i, 0, f, []⟩ : Ev).cs * (blkA b8 51 ev0.cs * (blkA b9 76 (xcs 0 0) * Y))))).cell 1 rfl
 have s2 := y3.blk.store (P := Zp) (t := 3) (j := 2) (v := .int .i64 o) inf3 size3 (by simp [Ev.cs]) rfl rfl
 have y4 := y3.store 2 (.int .i64 o) (cs' := (⟨s, i, o, f, []⟩ : Ev).cs) rfl
 obtain ⟨w2, hw2⟩ : ∃ w2, w2 = w1.setCell ⟨b10, 2, none⟩ (.int .i64 o) := ⟨_, rfl⟩
 rw [← hw2] at s2 y4
 have e2 : IntKind.i64.wrap ((k : Int) + 2) = ((k + 2 : Nat) : Int) := (wrap_i64 (by omega) (by omega)).trans (by omega)
 obtain ⟨K2, hK2⟩ : ∃ K : Int, K = ((k + 2 : Nat) : Int) := ⟨_, rfl⟩
 rw [← hK2] at e2
 cases h3 : ws[k + 2]? with
 | none =>
  have hle : ws.length ≤ k + 2 := by simpa using h3
  have hle' : ¬ K2 < (ws.length : Int) := by omega
  rw [List.drop_eq_nil_of_le hle] at hres
  have hres : res = ev3R t r q (ws.drop (k + 3)) ⟨s, i, o, f, []⟩ (y.a : Int) (z2.a : Int) := by rw [List.drop_eq_nil_of_le (by omega)]; exact hres
  have := k2_ok (c := c) (cq := cq) hF hr hq hnil F hql hne h2 hk hl (ev := ⟨s, i, o, f, []⟩) ⟨hn, hi, hi1, ho, ho1, by simp, rfl⟩ hres (y4.eq (by ac_rfl : _ = blkA b8 51 ev0.cs * (blkA b9 76 (xcs 0 0) * (blkA b10 51 (⟨s, i, o, f, []⟩ : Ev).cs * (blkA bT 3 [.int .i64 i, .int .i64 o] * Y)))))
  simp [f32.k1, t0, t1, addL, d0, s1, d1, s2, e2, hle', after, this]
 | some y5 =>
  have hlt : k + 2 < ws.length := (List.getElem?_eq_some_iff.mp h3).1
  have hlt' : K2 < (ws.length : Int) := by omega
  have hd : ws.drop (k + 2) = y5 :: ws.drop (k + 3) := by
   rw [List.drop_eq_getElem_cons hlt]
   congr 1
   rw [Yg hlt] at h3
   exact Option.some.inj h3
  obtain ⟨w3, k3, g3⟩ := rtexted_ok (c := c) (hrw y4) e (k + 2) hl
  rw [hd] at hres k3
  rw [← hK2] at k3
  have y5' := (y4.grown g3).newBlk 76 (xcs 0 0)
  have a3 := alloc76 w3
  obtain ⟨w4, hw4⟩ : ∃ w4, w4 = w3.alloc (.cells (xcs 0 0).toArray 76) := ⟨_, rfl⟩
  rw [← hw4] at y5' a3
  cases hz : nextE true (y5 :: ws.drop (k + 3)) e with
  | some pz =>
   obtain ⟨a, z⟩ := pz
   rw [nextV_bad hz] at k3
   have hres : res = .error (a, z) := by rw [hres]; unfold ev2D; dsimp only; rw [hz]
   obtain ⟨w5, k5, y6⟩ := put_x y5' rfl a z
   have l1 := ld_x y6
   have l1' := ld_x y6.drew
   have l2 := ld_ev (y6.drew.eq (by ac_rfl : _ = blkA b10 51 (⟨s, i, o, f, []⟩ : Ev).cs * (blkA w3.heap.size 76 (xcs a z) * (blkA b8 51 ev0.cs * (blkA b9 76 (xcs 0 0) * (blkA bT 3 [.int .i64 i, .int .i64 o] * Y))))))
   have y7 : Sat W (blkA b8 51 ev0.cs * (blkA b9 76 (xcs 0 0) * (blkA w3.heap.size 76 (xcs a z) * (blkA b10 51 (⟨s, i, o, f, []⟩ : Ev).cs * (blkA bT 3 [.int .i64 i, .int .i64 o] * Y))))) w5 := y6.eq (by ac_rfl)
   obtain ⟨w6, w7, k6, y8, k7, y9, _, _⟩ := fin51 y7.drew ⟨s, i, o, f, []⟩ a z
   have l3 := ld_x (y8.eq (by ac_rfl : _ = blkA w3.heap.size 76 (xcs a z) * (blkA b8 51 (⟨s, i, o, f, []⟩ : Ev).cs * (blkA b9 76 (xcs 0 0) * (blkA b10 51 (⟨s, i, o, f, []⟩ : Ev).cs * (blkA bT 3 [.int .i64 i, .int .i64 o] * Y))))))
   have := hF _ _ a z w7 y9 (.inr ⟨hres, nextE_z hz⟩)
   simp [f32.k1, t0, t1, addL, d0, s1, d1, s2, e2, hlt', k3, a3, k5, l1, l1', l2, l3, k6, k7, after, this]
  | none =>
   rw [nextV_good hz] at k3
   have hyb : y5.t = true ∧ y5.b = false ∧ y5.s.length ≤ 100 := by
    unfold nextE at hz
    dsimp only at hz
    split at hz
    ·cases hz
    ·rename_i hb
     simp only [not_or, ne_eq, Decidable.not_not, Bool.not_eq_true] at hb
     split at hz
     ·cases hz
     ·rename_i hl5
      exact ⟨by simpa using hb.2, hb.1, by simp at hl5; omega⟩
   have hres : res = ev3R t r q (ws.drop (k + 3)) ⟨s, i, o, f, y5.s⟩ (y.a : Int) (z2.a : Int) := by rw [hres]; unfold ev2D; dsimp only; rw [hz]
   obtain ⟨w5, k5, y6⟩ := put_x y5' rfl 0 0
   have y7 : Sat W (blkA b10 51 (⟨s, i, o, f, []⟩ : Ev).cs * (blkA w3.heap.size 76 (xcs 0 0) * (blkA b8 51 ev0.cs * (blkA b9 76 (xcs 0 0) * (blkA bT 3 [.int .i64 i, .int .i64 o] * Y))))) w5 := y6.eq (by ac_rfl)
   have s3 := y7.blk.store (P := Zp) (t := 9) (j := 4) (v := st y5.s) inf9 size9 (by simp [Ev.cs]) rfl rfl
   have y8 := y7.store 4 (st y5.s) (cs' := (⟨s, i, o, f, y5.s⟩ : Ev).cs) rfl
   obtain ⟨w6, hw6⟩ : ∃ w6, w6 = w5.setCell ⟨b10, 4, none⟩ (st y5.s) := ⟨_, rfl⟩
   rw [← hw6] at s3 y8
   have := k2_ok (c := c) (cq := cq) hF hr hq hnil F hql hne h2 hk hl (ev := ⟨s, i, o, f, y5.s⟩) ⟨hn, hi, hi1, ho, ho1, hyb.2.2, hval y5 (List.mem_of_getElem? h3) hyb.1 hyb.2.1⟩ hres (y8.eq (by ac_rfl : _ = blkA b8 51 ev0.cs * (blkA b9 76 (xcs 0 0) * (blkA b10 51 (⟨s, i, o, f, y5.s⟩ : Ev).cs * (blkA w3.heap.size 76 (xcs 0 0) * (blkA bT 3 [.int .i64 i, .int .i64 o] * Y))))))
   simp [f32.k1, t0, t1, addL, d0, s1, d1, s2, e2, hlt', k3, a3, k5, s3, after, this]
end
theorem bs42 (w : World) : Eq_ Zp (Instr.buildSlice 42 2 #[(0, .int .i64 0), (1, .int .i64 0)]) w = some (.slice (some ⟨w.heap.size, 0, none⟩) 2 2, w.alloc (.cells #[.int .i64 0, .int .i64 0] 3)) := id (by kernel_rfl)
section
variable {W : World} {b8 b9 : Nat}
theorem l0_round {w : World} {Y : Asn W.heap.size} {B : Option Addr} {c b10 bT k j : Nat} {ws : List Wd} {s : List UInt8} {ah : Value} {e f t0 t1 r : Int} (h1 : 1 ≤ r) (h7 : r ≤ 7) (hr : Rd W B (rwcs ws)) (hws : ∀ y ∈ ws, y.t = false → y.b = false) (hs : ∀ y ∈ ws, y.s.length ≤ 1000000) (hl : ws.length ≤ 1000000) (hk : k ≤ 3) (hj : j < 2)
  (x : Sat W (blkA b8 51 ev0.cs * (blkA b9 76 (xcs 0 0) * (blkA b10 51 (evf s f).cs * (blkA bT 3 [.int .i64 t0, .int .i64 t1] * Y)))) w) :
  (∃ (ev : Ev) (a z : Int) (w' : World) (Z : Asn W.heap.size), z ≠ 0 ∧ (nextE false (ws.drop (k + j)) e = some (a, z) ∨ ∃ y l, ws.drop (k + j) = y :: l ∧ nextE false (ws.drop (k + j)) e = none ∧ numOf (xrOf r) y.s = none ∧ a = (y.a : Int) ∧ z = 194) ∧
   f32.l0 C [.slice B ws.length c, .int .i64 e, .int .i64 r, ah, .pointer (some ⟨b8, 0, none⟩), .pointer (some ⟨b9, 0, none⟩), .pointer (some ⟨b10, 0, none⟩), .int .i64 (k : Int), .slice (some ⟨bT, 0, none⟩) 2 2, .int .i64 (j : Int)] w = some (.ret [.pointer (some ⟨b8, 0, none⟩), .pointer (some ⟨b9, 0, none⟩)] w') ∧ Sat W (blkA b8 51 ev.cs * (blkA b9 76 (xcs a z) * Z)) w') ∨
  (∃ (y : Wd) (l : List Wd) (n : Int) (w' : World) (Z : Asn W.heap.size), ws.drop (k + j) = y :: l ∧ nextE false (ws.drop (k + j)) e = none ∧ numOf (xrOf r) y.s = some n ∧
   f32.l0 C [.slice B ws.length c, .int .i64 e, .int .i64 r, ah, .pointer (some ⟨b8, 0, none⟩), .pointer (some ⟨b9, 0, none⟩), .pointer (some ⟨b10, 0, none⟩), .int .i64 (k : Int), .slice (some ⟨bT, 0, none⟩) 2 2, .int .i64 (j : Int)] w = some (.norm [.slice B ws.length c, .int .i64 e, .int .i64 r, ah, .pointer (some ⟨b8, 0, none⟩), .pointer (some ⟨b9, 0, none⟩), .pointer (some ⟨b10, 0, none⟩), .int .i64 (k : Int), .slice (some ⟨bT, 0, none⟩) 2 2, .int .i64 ((j + 1 : Nat) : Int)] w') ∧
   Sat W (blkA b8 51 ev0.cs * (blkA b9 76 (xcs 0 0) * (blkA b10 51 (evf s f).cs * (blkA bT 3 (if j = 0 then [.int .i64 n, .int .i64 t1] else [.int .i64 t0, .int .i64 n]) * Z)))) w') := by
 have hrw : ∀ {w'} {Y : Asn W.heap.size}, Sat W Y w' → Rd w' B (rwcs ws) := fun y => hr.grown (grown_of y)
 obtain ⟨J, hJ⟩ : ∃ J : Int, J = (j : Int) := ⟨_, rfl⟩
 obtain ⟨J1, hJ1⟩ : ∃ J : Int, J = ((j + 1 : Nat) : Int) := ⟨_, rfl⟩
 obtain ⟨KJ, hKJ⟩ : ∃ J : Int, J = ((k + j : Nat) : Int) := ⟨_, rfl⟩
 have hlt : J < 2 := by omega
 have e1 : IntKind.i64.wrap ((k : Int) + J) = KJ := (wrap_i64 (by omega) (by omega)).trans (by omega)
 have e2 : IntKind.i64.wrap (J + 1) = J1 := (wrap_i64 (by omega) (by omega)).trans (by omega)
 obtain ⟨w1, k1, g1⟩ := rplain_ok (c := c) (hrw x) hws e (k + j) hl
 rw [← hKJ] at k1
 have x1 := (x.grown g1).newBlk 76 (xcs 0 0)
 have a1 := alloc76 w1
 obtain ⟨w2, hw2⟩ : ∃ w2, w2 = w1.alloc (.cells (xcs 0 0).toArray 76) := ⟨_, rfl⟩
 rw [← hw2] at x1 a1
 rw [← hJ, ← hJ1]
 cases hz : nextE false (ws.drop (k + j)) e with
 | some pz =>
  obtain ⟨a, z⟩ := pz
  left
  rw [nextV_bad hz] at k1
  obtain ⟨w3, k3, x3⟩ := put_x x1 rfl a z
  have l1 := ld_x x3
  have l1' := ld_x x3.drew
  have l2 := ld_ev (x3.drew.eq (by ac_rfl : _ = blkA b10 51 (evf s f).cs * (blkA w1.heap.size 76 (xcs a z) * (blkA b8 51 ev0.cs * (blkA b9 76 (xcs 0 0) * (blkA bT 3 [.int .i64 t0, .int .i64 t1] * Y))))))
  have x4 : Sat W (blkA b8 51 ev0.cs * (blkA b9 76 (xcs 0 0) * (blkA w1.heap.size 76 (xcs a z) * (blkA b10 51 (evf s f).cs * (blkA bT 3 [.int .i64 t0, .int .i64 t1] * Y))))) w3 := x3.eq (by ac_rfl)
  obtain ⟨w5, w6, k5, x5, k6, x6, _, _⟩ := fin51 x4.drew (evf s f) a z
  have l3 := ld_x (x5.eq (by ac_rfl : _ = blkA w1.heap.size 76 (xcs a z) * (blkA b8 51 (evf s f).cs * (blkA b9 76 (xcs 0 0) * (blkA b10 51 (evf s f).cs * (blkA bT 3 [.int .i64 t0, .int .i64 t1] * Y))))))
  refine ⟨evf s f, a, z, w6, _, nextE_z hz, .inl rfl, ?_, x6⟩
  simp [f32.l0, hlt, e1, k1, a1, k3, l1, l1', l2, l3, k5, k6]
 | none =>
  obtain ⟨y, l, hd⟩ : ∃ y l, ws.drop (k + j) = y :: l := by
   cases h : ws.drop (k + j) with
   | nil => rw [h] at hz; simp [nextE] at hz
   | cons y l => exact ⟨y, l, rfl⟩
  have hy : ws[k + j]? = some y := by
   have := congrArg (fun l => l[0]?) hd
   simpa using this
  have hin : y ∈ ws := List.mem_of_getElem? hy
  have hz' := hz
  rw [hd] at k1 hz'
  rw [nextV_good hz'] at k1
  obtain ⟨w3, k3, x3⟩ := put_x x1 rfl 0 0
  obtain ⟨n, z, w4, k4, g4, hn⟩ := rnumber_ok h1 h7 y.s (hs y hin) w3
  have x4 := x3.grown g4
  have x5 : Sat W (blkA b8 51 ev0.cs * (blkA b9 76 (xcs 0 0) * (blkA b10 51 (evf s f).cs * (blkA bT 3 [.int .i64 t0, .int .i64 t1] * (blkA w1.heap.size 76 (xcs 0 0) * Y))))) w4 := x4.eq (by ac_rfl)
  rcases hn with ⟨hn, rfl⟩ | ⟨hn, hz0⟩
  ·right
   have ixt : Pq Zp (Zj 42 (.slice (some ⟨bT, 0, none⟩) 2 2) (.int .i64 J)) = some (.pointer (some ⟨bT, j, none⟩)) := by
    have := ix42 ⟨bT, 0, none⟩ 2 2 .i64 J (by omega) (by omega)
    rw [this, hJ, Int.toNat_natCast, Nat.mul_one, addL, Nat.zero_add]
   have x6 : Sat W (blkA bT 3 [.int .i64 t0, .int .i64 t1] * (blkA b8 51 ev0.cs * (blkA b9 76 (xcs 0 0) * (blkA b10 51 (evf s f).cs * (blkA w1.heap.size 76 (xcs 0 0) * Y))))) w4 := x4.eq (by ac_rfl)
   have s1 := x6.blk.store (P := Zp) (t := 3) (j := j) (v := .int .i64 n) inf3 size3 (by simpa using hj) rfl rfl
   have x7 := x6.store j (.int .i64 n) (cs' := if j = 0 then [.int .i64 n, .int .i64 t1] else [.int .i64 t0, .int .i64 n]) (by
    rcases (show j = 0 ∨ j = 1 by omega) with rfl | rfl <;> rfl)
   obtain ⟨w5, hw5⟩ : ∃ w5, w5 = w4.setCell ⟨bT, j, none⟩ (.int .i64 n) := ⟨_, rfl⟩
   rw [← hw5] at s1 x7
   refine ⟨y, l, n, w5, blkA w1.heap.size 76 (xcs 0 0) * Y, hd, rfl, hn, ?_, x7.eq (by ac_rfl)⟩
   simp [f32.l0, hlt, e1, k1, a1, k3, k4, ixt, s1, e2]
  ·left
   have l2 := ld_ev (x5.drew.eq (by ac_rfl : _ = blkA b10 51 (evf s f).cs * (blkA b8 51 ev0.cs * (blkA b9 76 (xcs 0 0) * (blkA bT 3 [.int .i64 t0, .int .i64 t1] * (blkA w1.heap.size 76 (xcs 0 0) * Y))))))
   obtain ⟨w5, w6, k5, x6, k6, x7, _, _⟩ := fin51 x5.drew (evf s f) (y.a : Int) 194
   obtain ⟨a, i0, c0, _, _, _⟩ := rw_at (hrw x5) hy
   obtain ⟨a', i0', c0', _, _, _⟩ := rw_at (hrw x6) hy
   have : a' = a := by have := (i0 0).symm.trans (i0' 0); simpa using this.symm
   subst this
   have i1 := i0 c
   rw [← hKJ] at i1
   have b1 := build76 (y.a : Int) 194
   refine ⟨evf s f, (y.a : Int), 194, w6, _, by decide, .inr ⟨y, l, hd, rfl, hn, rfl, rfl⟩, ?_, x7⟩
   simp [f32.l0, hlt, e1, k1, a1, k3, k4, hz0, l2, i1, c0, c0', b1, k5, k6]
end
section
variable {W : World} {Rt : List Value → World → Prop} {b8 b9 : Nat} {res : Except (Int × Int) Ev}
theorem k0_ok {w : World} {Y : Asn W.heap.size} {B A : Option Addr} {c cq b10 k : Nat} {ws : List Wd} {y : Wd} {s t : List UInt8} {e f r : Int} {q : List Ev} (hF : FinP W Rt b8 b9 (PR res)) (hr : Rd W B (rwcs ws)) (hws : ∀ y ∈ ws, y.t = false → y.b = false) (hs : ∀ y ∈ ws, y.s.length ≤ 1000000) (hq : Rd W A (q.flatMap Ev.cs)) (hnil : A = none → cq = 0) (F : Fine t r q) (hql : q.length ≤ 199) (hne : ws[0]? = some y) (hk : k ≤ 3) (hl : ws.length ≤ 1000000)
  (hval : ∀ y ∈ ws, y.t = true → y.b = false → valid y.s = true) (hn : isName s = true)
  (hres : res = ev2A (xrOf r) t r q f (y.a : Int) s e (ws.drop k))
  (x : Sat W (blkA b8 51 ev0.cs * (blkA b9 76 (xcs 0 0) * (blkA b10 51 (evf s f).cs * Y))) w) :
  f32.k0 C Rt [.slice B ws.length c, .int .i64 e, .int .i64 r, .slice A q.length cq, .pointer (some ⟨b8, 0, none⟩), .pointer (some ⟨b9, 0, none⟩), .pointer (some ⟨b10, 0, none⟩), .int .i64 (k : Int)] w := by
 have h1 := F.r1
 have h7 := F.r7
 obtain ⟨xi, x0⟩ := xr_in h1 h7
 have x1 := x.newBlk 3 [.int .i64 0, .int .i64 0]
 have b1 := bs42 w
 obtain ⟨w1, hw1⟩ : ∃ w1, w1 = w.alloc (.cells #[.int .i64 0, .int .i64 0] 3) := ⟨_, rfl⟩
 have x1 : Sat W (blkA w.heap.size 3 [.int .i64 0, .int .i64 0] * (blkA b8 51 ev0.cs * (blkA b9 76 (xcs 0 0) * (blkA b10 51 (evf s f).cs * Y)))) w1 := hw1 ▸ x1
 rw [← hw1] at b1
 obtain ⟨bT, hbT⟩ : ∃ b, b = w.heap.size := ⟨_, rfl⟩
 rw [← hbT] at b1 x1
 rcases l0_round (c := c) (e := e) (ah := .slice A q.length cq) (k := k) (j := 0) h1 h7 hr hws hs hl hk (by omega) (x1.eq (by ac_rfl : _ = blkA b8 51 ev0.cs * (blkA b9 76 (xcs 0 0) * (blkA b10 51 (evf s f).cs * (blkA bT 3 [.int .i64 0, .int .i64 0] * Y))))) with ⟨ev, a, z, w2, Z, hz, hc, k2, x2⟩ | ⟨y1, l1, n1, w2, Z, hd1, hz1, hn1, k2, x2⟩
 ·have hR : res = .error (a, z) := by
   rw [hres]
   unfold ev2A
   rw [Nat.add_zero] at hc
   rcases hc with hc | ⟨y1, l, hd, hc, hno, rfl, rfl⟩
   ·rw [hc]
   ·rw [hc, hd]; dsimp only; rw [hno]
  have it := iter_of_rounds (.ret k2)
  have := hF _ ev a z w2 x2 (.inr ⟨hR, hz⟩)
  have it : iter (f32.l0 C) [.slice B ws.length c, .int .i64 e, .int .i64 r, .slice A q.length cq, .pointer (some ⟨b8, 0, none⟩), .pointer (some ⟨b9, 0, none⟩), .pointer (some ⟨b10, 0, none⟩), .int .i64 (k : Int), .slice (some ⟨bT, 0, none⟩) 2 2, .int .i64 0] w1 = some (.ret [.pointer (some ⟨b8, 0, none⟩), .pointer (some ⟨b9, 0, none⟩)] w2) := it
  simp [f32.k0, b1, it, after, this]
 ·rw [Nat.add_zero] at hd1 hz1
  have hdl : ws.drop (k + 1) = l1 := by rw [← Yd, hd1]; rfl
  rw [if_pos rfl] at x2
  rcases l0_round (c := c) (e := e) (ah := .slice A q.length cq) (k := k) (j := 1) h1 h7 hr hws hs hl hk (by omega) x2 with ⟨ev, a, z, w3, Z, hz, hc, k3, x3⟩ | ⟨y2, l2, n2, w3, Z, hd2, hz2, hn2, k3, x3⟩
  ·have hR : res = .error (a, z) := by
    rw [hres]
    unfold ev2A
    rw [hz1, hd1]
    dsimp only
    rw [hn1]
    dsimp only
    unfold ev2B
    rw [hdl] at hc
    rcases hc with hc | ⟨y2, l, hd, hc, hno, rfl, rfl⟩
    ·rw [hc]
    ·rw [hc, hd]; dsimp only; rw [hno]
   have it := iter_of_rounds (.more k2 (.ret k3))
   have := hF _ ev a z w3 x3 (.inr ⟨hR, hz⟩)
   have it : iter (f32.l0 C) [.slice B ws.length c, .int .i64 e, .int .i64 r, .slice A q.length cq, .pointer (some ⟨b8, 0, none⟩), .pointer (some ⟨b9, 0, none⟩), .pointer (some ⟨b10, 0, none⟩), .int .i64 (k : Int), .slice (some ⟨bT, 0, none⟩) 2 2, .int .i64 0] w1 = some (.ret [.pointer (some ⟨b8, 0, none⟩), .pointer (some ⟨b9, 0, none⟩)] w3) := it
   simp [f32.k0, b1, it, after, this]
  ·rw [if_neg (by decide)] at x3
   have hdl2 : ws.drop (k + 2) = l2 := by rw [show k + 2 = k + 1 + 1 by omega, ← Yd, hd2]; rfl
   have h2 : ws[k + 1]? = some y2 := by
    have := congrArg (fun l => l[0]?) hd2
    simpa using this
   have k4 : f32.l0 C [.slice B ws.length c, .int .i64 e, .int .i64 r, .slice A q.length cq, .pointer (some ⟨b8, 0, none⟩), .pointer (some ⟨b9, 0, none⟩), .pointer (some ⟨b10, 0, none⟩), .int .i64 (k : Int), .slice (some ⟨bT, 0, none⟩) 2 2, .int .i64 ((1 + 1 : Nat) : Int)] w3 = some (.exit 0 [.slice B ws.length c, .int .i64 e, .slice A q.length cq, .pointer (some ⟨b8, 0, none⟩), .pointer (some ⟨b9, 0, none⟩), .pointer (some ⟨b10, 0, none⟩), .int .i64 (k : Int), .slice (some ⟨bT, 0, none⟩) 2 2] w3) := by
    rw [show ((1 + 1 : Nat) : Int) = 2 from rfl]
    simp [f32.l0]
   have it := iter_of_rounds (.more k2 (.more k3 (.exit k4)))
   have it : iter (f32.l0 C) [.slice B ws.length c, .int .i64 e, .int .i64 r, .slice A q.length cq, .pointer (some ⟨b8, 0, none⟩), .pointer (some ⟨b9, 0, none⟩), .pointer (some ⟨b10, 0, none⟩), .int .i64 (k : Int), .slice (some ⟨bT, 0, none⟩) 2 2, .int .i64 0] w1 = some (.exit 0 [.slice B ws.length c, .int .i64 e, .slice A q.length cq, .pointer (some ⟨b8, 0, none⟩), .pointer (some ⟨b9, 0, none⟩), .pointer (some ⟨b10, 0, none⟩), .int .i64 (k : Int), .slice (some ⟨bT, 0, none⟩) 2 2] w3) := it
   have hres2 : res = ev2D t r q f (y.a : Int) s n1 n2 (y2.a : Int) e (ws.drop (k + 2)) := by
    rw [hres]
    unfold ev2A
    rw [hz1, hd1]
    dsimp only
    rw [hn1]
    dsimp only
    unfold ev2B
    rw [← hdl, hz2, hd2]
    dsimp only
    rw [hn2, hdl2]
   have in1 := numOf_in xi x0 hn1
   have in2 := numOf_in xi x0 hn2
   rw [← dayOf_xr h1 h7] at in1 in2
   have := k1_ok (c := c) (cq := cq) hF hr hq hnil F hql hne h2 hk hl hval hn in1.1 in1.2 in2.1 in2.2 hres2 x3
   simp [f32.k0, b1, it, after, this]
end
theorem plainE_z {g : List UInt8 → Bool} {ws : List Wd} {e a z : Int} (h : plainE g ws e = some (a, z)) : z ≠ 0 := by
 unfold plainE at h
 split at h
 ·rename_i p hp
  cases h
  exact nextE_z hp
 ·split at h
  ·cases h
  ·split at h
   ·cases h; decide
   ·cases h
theorem nmR_z {f e a z : Int} {k : Nat} {ws : List Wd} (h : nmR f k ws e = .error (a, z)) : z ≠ 0 := by
 unfold nmR at h
 split at h
 ·rename_i p hp
  cases h
  exact plainE_z hp
 ·rename_i hp
  split at h
  ·rename_i hd
   rw [hd] at hp
   simp [plainE, nextE] at hp
  ·cases h
theorem nmR_name {f e : Int} {k : Nat} {ws : List Wd} {s : List UInt8} (h : nmR f k ws e = .ok s) : isName s = true ∧ ∃ y l, ws.drop k = y :: l ∧ s = y.s ∧ plainE isName (y :: l) e = none := by
 unfold nmR at h
 split at h
 ·cases h
 ·rename_i hp
  split at h
  ·cases h
  ·rename_i y l hd
   cases h
   rw [hd] at hp
   refine ⟨?_, y, l, hd, rfl, hp⟩
   unfold plainE at hp
   split at hp
   ·cases hp
   ·split at hp
    ·rename_i hq; cases hq
    ·rename_i y' l' hq
     obtain ⟨rfl, rfl⟩ := List.cons.inj hq
     split at hp
     ·cases hp
     ·rename_i hf
      simpa using hf
theorem namedR_z {e a z : Int} {ws : List Wd} (h : namedR e ws = .error (a, z)) : z ≠ 0 := by
 unfold namedR at h
 split at h
 ·rename_i p hp
  cases h
  exact plainE_z hp
 ·rename_i hp
  split at h
  ·simp [plainE, nextE] at hp
  ·split at h
   ·split at h
    ·rename_i p hp2
     cases h
     exact plainE_z hp2
    ·rename_i hp2
     split at h
     ·simp [plainE, nextE] at hp2
     ·unfold nmT at h
      split at h
      ·rename_i p hp3
       cases h
       exact nmR_z hp3
      ·cases h
   ·unfold nmT at h
    split at h
    ·rename_i p hp3
     cases h
     exact nmR_z hp3
    ·cases h
def evN (x : Int × Int × Int × Int) (t : List UInt8) (r : Int) (q : List Ev) (e : Int) (ws : List Wd) : Except (Int × Int) Ev := match namedR e ws with
 | .error p => .error p
 | .ok (f, k, s) => ev2A x t r q f (headA ws) s e (ws.drop (k + 1))
theorem evR_evN {x : Int × Int × Int × Int} {t : List UInt8} {r : Int} {q : List Ev} {e : Int} {ws : List Wd} (hq : q.length ≠ 200) : evR x t r q e ws = evN x t r q e ws := by
 unfold evR evN namedR
 rw [if_neg hq]
 cases h1 : plainE isCutF ws e with
 | some p => rfl
 | none =>
  dsimp only
  cases ws with
  | nil => simp [plainE, nextE] at h1
  | cons y ws' =>
   dsimp only
   by_cases hF : y.s = tFade
   ·rw [if_pos hF, if_pos hF]
    unfold evF
    cases h2 : plainE isFadeB ws' e with
    | some p => rfl
    | none =>
     dsimp only
     cases ws' with
     | nil => simp [plainE, nextE] at h2
     | cons y2 ws2 =>
      dsimp only
      unfold nmR ev2R nmT
      simp only [List.drop_succ_cons, List.drop_zero]
      cases h3 : plainE isName ws2 e with
      | some p => rfl
      | none =>
       dsimp only
       cases ws2 with
       | nil => simp [plainE, nextE] at h3
       | cons y3 ws3 => rfl
   ·rw [if_neg hF, if_neg hF]
    unfold nmR ev2R nmT
    simp only [List.drop_succ_cons, List.drop_zero]
    cases h3 : plainE isName ws' e with
    | some p => rfl
    | none =>
     dsimp only
     cases ws' with
     | nil => simp [plainE, nextE] at h3
     | cons y3 ws3 => rfl
theorem event_w {w : World} {Rt : List Value → World → Prop} {B A : Option Addr} {c cq : Nat} {ws : List Wd} {t : List UInt8} {e r : Int} {q : List Ev} (hF : ∀ b8 b9, FinP w Rt b8 b9 (PR (evN (xrOf r) t r q e ws))) (hr : Rd w B (rwcs ws)) (hws : ∀ y ∈ ws, y.t = false → y.b = false) (hs : ∀ y ∈ ws, y.s.length ≤ 1000000) (hq : Rd w A (q.flatMap Ev.cs)) (hnil : A = none → cq = 0) (F : Fine t r q) (hql : q.length ≤ 199) (hne : ws ≠ []) (hl : ws.length ≤ 1000000)
  (hval : ∀ y ∈ ws, y.t = true → y.b = false → valid y.s = true) :
  f32.w C Rt (.slice B ws.length c) (.int .i64 e) (.int .i64 r) (.slice A q.length cq) w := by
 obtain ⟨y, ws', hyw⟩ : ∃ y l, ws = y :: l := by
  cases ws with
  | nil => exact absurd rfl hne
  | cons y l => exact ⟨y, l, rfl⟩
 have h0 : ws[0]? = some y := by rw [hyw]; rfl
 have x1 := (emp_sat w).newBlk 51 ev0.cs
 have a1 := alloc51e w
 obtain ⟨w1, hw1⟩ : ∃ w1, w1 = w.alloc (.cells (ev0.cs).toArray 51) := ⟨_, rfl⟩
 rw [← hw1] at x1 a1
 have x2 := x1.newBlk 76 (xcs 0 0)
 have a2 := alloc76 w1
 obtain ⟨w2, hw2⟩ : ∃ w2, w2 = w1.alloc (.cells (xcs 0 0).toArray 76) := ⟨_, rfl⟩
 rw [← hw2] at x2 a2
 obtain ⟨b9, hb9⟩ : ∃ b, b = w1.heap.size := ⟨_, rfl⟩
 rw [← hb9] at a2 x2
 obtain ⟨v, w3, k3, hO, g3⟩ := named_ok (c := c) (hr.grown (grown_of x2)) hws hs e hl
 have x3 := (x2.grown g3).newBlk 51 ev0.cs
 have a3 := alloc51e w3
 obtain ⟨w4, hw4⟩ : ∃ w4, w4 = w3.alloc (.cells (ev0.cs).toArray 51) := ⟨_, rfl⟩
 rw [← hw4] at x3 a3
 obtain ⟨b10, hb10⟩ : ∃ b, b = w3.heap.size := ⟨_, rfl⟩
 rw [← hb10] at a3 x3
 have x4 := x3.newBlk 76 (xcs 0 0)
 have a4 := alloc76 w4
 obtain ⟨w5, hw5⟩ : ∃ w5, w5 = w4.alloc (.cells (xcs 0 0).toArray 76) := ⟨_, rfl⟩
 rw [← hw5] at x4 a4
 obtain ⟨b12, hb12⟩ : ∃ b, b = w4.heap.size := ⟨_, rfl⟩
 rw [← hb12] at a4 x4
 have hF' := hF w.heap.size b9
 obtain ⟨res, hres⟩ : ∃ res, res = evN (xrOf r) t r q e ws := ⟨_, rfl⟩
 rw [← hres] at hF'
 unfold evN at hres
 have step : ∀ (ev : Ev) (a z : Int), ∃ w6 w7, Eq_ Zp (Zs 51 (.pointer (some ⟨b10, 0, none⟩)) ev.v) w5 = some ((), w6) ∧ Eq_ Zp (Zs 76 (.pointer (some ⟨b12, 0, none⟩)) (xv a z)) w6 = some ((), w7) ∧ Sat w (blkA b12 76 (xcs a z) * (blkA b10 51 ev.cs * (blkA b9 76 (xcs 0 0) * (blkA w.heap.size 51 ev0.cs * emp)))) w7 := by
  intro ev a z
  obtain ⟨w6, k6, x6⟩ := put_ev (x4.eq (by ac_rfl : _ = blkA b10 51 ev0.cs * (blkA b12 76 (xcs 0 0) * (blkA b9 76 (xcs 0 0) * (blkA w.heap.size 51 ev0.cs * emp))))) rfl ev
  obtain ⟨w7, k7, x7⟩ := put_x (x6.eq (by ac_rfl : _ = blkA b12 76 (xcs 0 0) * (blkA b10 51 ev.cs * (blkA b9 76 (xcs 0 0) * (blkA w.heap.size 51 ev0.cs * emp))))) rfl a z
  exact ⟨w6, w7, k6, k7, x7⟩
 cases hN : namedR e ws with
 | error p =>
  obtain ⟨a, z⟩ := p
  rw [hN] at hO hres
  obtain ⟨ev, rfl⟩ := hO
  have hz := namedR_z hN
  obtain ⟨w6, w7, k6, k7, x7⟩ := step ev a z
  have c1 : w7.cell? ⟨b12, 1, none⟩ = some (.int .i64 z) := x7.cell 1 rfl
  have l1 := ld_x x7
  have l1' := ld_x x7.drew
  have l2 := ld_ev (x7.drew.eq (by ac_rfl : _ = blkA b10 51 ev.cs * (blkA b12 76 (xcs a z) * (blkA b9 76 (xcs 0 0) * (blkA w.heap.size 51 ev0.cs * emp)))))
  have x8 : Sat w (blkA w.heap.size 51 ev0.cs * (blkA b9 76 (xcs 0 0) * (blkA b12 76 (xcs a z) * (blkA b10 51 ev.cs * emp)))) w7 := x7.eq (by ac_rfl)
  obtain ⟨w9, wA, k9, x9, kA, xA, _, _⟩ := fin51 x8.drew ev a z
  have l3 := ld_x (x9.eq (by ac_rfl : _ = blkA b12 76 (xcs a z) * (blkA w.heap.size 51 ev.cs * (blkA b9 76 (xcs 0 0) * (blkA b10 51 ev.cs * emp)))))
  have := hF' _ ev a z wA xA (.inr ⟨hres, hz⟩)
  simp [f32.w, a1, a2, k3, a3, a4, k6, k7, addL, c1, hz, l1, l1', l2, l3, k9, kA, after, this]
 | ok p =>
  obtain ⟨f, k, s⟩ := p
  rw [hN] at hO hres
  have hO : v = .tuple #[(evf s f).v, .int .i64 ((k + 1 : Nat) : Int), xv 0 0] := hO
  subst hO
  have hk : k ≤ 2 ∧ isName s = true := by
   unfold namedR at hN
   split at hN
   ·cases hN
   ·split at hN
    ·cases hN
    ·split at hN
     ·split at hN
      ·cases hN
      ·split at hN
       ·cases hN
       ·unfold nmT at hN
        split at hN
        ·cases hN
        ·rename_i hs'
         cases hN
         exact ⟨by omega, (nmR_name hs').1⟩
     ·unfold nmT at hN
      split at hN
      ·cases hN
      ·rename_i hs'
       cases hN
       exact ⟨by omega, (nmR_name hs').1⟩
  obtain ⟨w6, w7, k6, k7, x7⟩ := step (evf s f) 0 0
  have c1 : w7.cell? ⟨b12, 1, none⟩ = some (.int .i64 0) := x7.cell 1 rfl
  have hA : headA ws = (y.a : Int) := by rw [hyw]; rfl
  dsimp only at hres
  rw [hA] at hres
  have := k0_ok (c := c) (cq := cq) (k := k + 1) hF' hr hws hs hq hnil F hql h0 (by omega) hl hval hk.2 hres (x7.eq (by ac_rfl : _ = blkA w.heap.size 51 ev0.cs * (blkA b9 76 (xcs 0 0) * (blkA b10 51 (evf s f).cs * (blkA b12 76 (xcs 0 0) * emp)))))
  obtain ⟨K, hK⟩ : ∃ K : Int, K = ((k + 1 : Nat) : Int) := ⟨_, rfl⟩
  rw [← hK] at this k3
  simp [f32.w, a1, a2, k3, a3, a4, k6, k7, addL, c1, after, this]
theorem revent_ok {w : World} {B A : Option Addr} {c cq : Nat} {ws : List Wd} {t : List UInt8} {e r : Int} {q : List Ev} (hr : Rd w B (rwcs ws)) (hws : ∀ y ∈ ws, y.t = false → y.b = false) (hs : ∀ y ∈ ws, y.s.length ≤ 1000000) (hq : Rd w A (q.flatMap Ev.cs)) (hnil : A = none → cq = 0) (F : Fine t r q) (hql : q.length ≤ 199) (hne : ws ≠ []) (hl : ws.length ≤ 1000000)
  (hval : ∀ y ∈ ws, y.t = true → y.b = false → valid y.s = true) :
  Calls Zp 32 #[.slice B ws.length c, .int .i64 e, .int .i64 r, .slice A q.length cq] w fun o w' => ∃ v, o = .returned v ∧ (w.grownBy w' none ∧ ∃ ev a z, v = .tuple #[ev.v, xv a z] ∧ PR (evN (xrOf r) t r q e ws) ev a z) := by
 obtain ⟨Q, hQ⟩ : ∃ Q : Value → World → Prop, Q = fun v w' => w.grownBy w' none ∧ ∃ ev a z, v = .tuple #[ev.v, xv a z] ∧ PR (evN (xrOf r) t r q e ws) ev a z := ⟨_, rfl⟩
 have key : f32.w C (fun vs w' => hold (Res.doneR Zp [.cell 8 51, .cell 9 76] (.ret vs w')) fun r => Q r.1 r.2) (.slice B ws.length c) (.int .i64 e) (.int .i64 r) (.slice A q.length cq) w := by
  refine event_w (fun b8 b9 Y ev a z w' x hP => ?_) hr hws hs hq hnil F hql hne hl hval
  have l1 := ld_ev x
  have l2 := ld_x (x.eq (by ac_rfl : _ = blkA b9 76 (xcs a z) * (blkA b8 51 ev.cs * Y)))
  have : Res.doneR Zp [.cell 8 51, .cell 9 76] (.ret [.pointer (some ⟨b8, 0, none⟩), .pointer (some ⟨b9, 0, none⟩)] w') = some (.tuple #[ev.v, xv a z], w') := by
   simp [Res.doneR, loadsOf, l1, l2, outcome]
  rw [this, hQ]
  exact ⟨grown_of x, ev, a, z, rfl, hP⟩
 rw [← f32.weq] at key
 have := calls_of_wR' (ann := anns) (prim := er) (by kernel_rfl) er_ok (fn := Tryz.f32) (c := Tryz.f32.body.getD .skip) Tryz.func32 (by kernel_rfl) (vars := [.cell 8 51, .cell 9 76]) (rs := [8, 9]) (by kernel_rfl) rfl (x := f32.wann) (Q := Q) key
 rw [hQ] at this
 exact this
end Go.Sh.YtkghbcadnbojgaaGreatDoor
