/- medium: the law's book: own: all spans that were taken are marked (MPD0.txt and mpcgen.py print this). Conditions: those of each statement. -/
import Derived.Test.YtokpgallfmpmkaaMPC
namespace Go.Sh.Ytokpgallfmpmkaa
open Go Go.Proofs Go.RowKit
set_option linter.unusedVariables false
set_option linter.unusedSimpArgs false
set_option maxRecDepth 100000
theorem sc_cons (p : Int × Int) (g : List (Int × Int)) : sc (p :: g) = .int .i64 p.1 :: .int .i64 p.2 :: sc g := rfl
section
variable {W w : World} {X : Asn W.heap.size} {K : Nat} {l s out told k3 k4 k5 k6 : Value} {hs : List Hold}
theorem mark_s0 {no : Nat} {xs ys : List Value} {v r3 r4 : Value} {N i : Nat} (m : Int) (y : Sat W (blkA K 59 [l, s, out, told, k3, k4, k5, k6] * (rowA 41 1 told no xs * (clipA 40 2 v N ys * X))) w) (hi : i < no) (hv : xs[i]? = some v) (hn : no ≤ 4000000000) (hN : N ≤ 4000000000) :
    ∃ w', iter (f25.l2 C) [.pointer (some ⟨K, 0, none⟩), r3, r4, .int .i64 i, .int .i64 m, .int .i64 0] w = some (.exit 6 [.pointer (some ⟨K, 0, none⟩), r3, r4, .int .i64 i, .int .i64 m] w') ∧
      Sat W (blkA K 59 [l, s, out, told, k3, k4, k5, k6] * (rowA 41 1 told no xs * (clipA 40 2 v N (sc (List.replicate N (m, 0))) * X))) w' := by
  obtain ⟨A, c, rfl, _⟩ := own_form y.swap.row
  have hys : ys.length = N * 2 := by obtain ⟨_, _, _, _, o⟩ := y.swap3.clip; exact o.1
  have key := iter_down (f := f25.l2 C) (fun d vs w1 => ∃ j : Nat, vs = [.pointer (some ⟨K, 0, none⟩), r3, r4, .int .i64 i, .int .i64 m, .int .i64 j] ∧ j + d = N ∧ Sat W (blkA K 59 [l, s, out, .slice A no c, k3, k4, k5, k6] * (rowA 41 1 (.slice A no c) no xs * (clipA 40 2 v N (sc (List.replicate j (m, 0)) ++ ys.drop (j * 2)) * X))) w1)
    (fun r => ∃ w1, r = .exit 6 [.pointer (some ⟨K, 0, none⟩), r3, r4, .int .i64 i, .int .i64 m] w1 ∧ Sat W (blkA K 59 [l, s, out, .slice A no c, k3, k4, k5, k6] * (rowA 41 1 (.slice A no c) no xs * (clipA 40 2 v N (sc (List.replicate N (m, 0))) * X))) w1) (by
      rintro d vs w1 ⟨j, rfl, hj, y⟩
      have c0 := y.cell 3 rfl
      have rl := Rd.owned y.swap.row
      cases A with
      | none =>
        have : xs = [] := rl
        subst this
        simp at hv
      | some a =>
        have q0 : w1.cell? (a.add i) = some v := rl _ _ hv
        have i1 := ix57 a no c .i64 (i : Int) (by omega) (by omega)
        simp only [Int.toNat_natCast, Nat.mul_one] at i1
        obtain ⟨Av, cv, rfl, _, _⟩ := y.swap3.clip
        cases d with
        | zero =>
          obtain rfl : j = N := by omega
          have hd0 : ys.drop (j * 2) = [] := List.drop_eq_nil_of_le (by omega)
          rw [hd0, List.append_nil] at y
          refine .inr ⟨_, ?_, ⟨w1, rfl, y⟩, by simp⟩
          simp (disch := omega) [f25.l2, addL, c0, lt_f, i1, q0]
        | succ d =>
          have hjN : (j : Int) < (N : Int) := by omega
          have e2 : IntKind.i64.wrap ((j : Int) + 1) = ((j + 1 : Nat) : Int) := (wrap_i64 (by omega) (by omega)).trans (by omega)
          obtain ⟨a1, w2, ha, h2, y2⟩ := y.swap3.clipPutAll (P := Try.prog) (t := 40) (j := j * 2) (u := .agg #[.int .i64 m, .int .i64 0]) (vs := [.int .i64 m, .int .i64 0]) inf40 rfl (by rw [size40]; rfl) (by simp; omega) (by omega) (by simp [Value.oneCell'])
          cases ha
          have i2 := ix41 a1 N N .i64 (j : Int) (by omega) (by omega)
          simp only [Int.toNat_natCast] at i2
          have hsl : (sc (List.replicate j (m, (0 : Int)))).length = j * 2 := by rw [sc_length, List.length_replicate]
          have es : (sc (List.replicate j (m, (0 : Int))) ++ ys.drop (j * 2)).take (j * 2) ++ [.int .i64 m, .int .i64 0] ++ (sc (List.replicate j (m, (0 : Int))) ++ ys.drop (j * 2)).drop (j * 2 + [Value.int .i64 m, Value.int .i64 0].length) = sc (List.replicate (j + 1) (m, 0)) ++ ys.drop ((j + 1) * 2) := by
            rw [List.take_append_of_le_length (by omega), List.take_of_length_le (by omega), List.drop_append, List.drop_eq_nil_of_le (by omega), List.nil_append, hsl, List.drop_drop, List.replicate_succ', sc_append]
            congr 2
            simp; omega
          rw [es] at y2
          refine .inl ⟨d, _, w2, by omega, ?_, ⟨j + 1, rfl, by omega, y2.back3⟩⟩
          simp [f25.l2, addL, c0, i1, q0, hjN, i2, h2, e2, build40a]) N _ w ⟨0, rfl, by omega, by simpa [sc] using y⟩
  obtain ⟨r, h3, w3, rfl, y3⟩ := key
  exact ⟨w3, by simpa using h3, y3⟩
theorem mark_s1 {tolds : List (Value × List (Int × Int))} {r3 r4 : Value} (y : Sat W (blkA K 59 [l, s, out, told, k3, k4, k5, k6] * (rowA 101 2 s hs.length (scs hs) * (rowA 41 1 told tolds.length (tolds.map (·.1)) * (all spanA hs * (all toldA tolds * X))))) w)
    (hn : hs.length + tolds.length ≤ 2000000000) (hb : ∀ o ∈ tolds, o.2.length ≤ 4000000000) :
    ∃ s' H w', iter (f25.l3 C) [.pointer (some ⟨K, 0, none⟩), r3, r4, .int .i64 0] w = some (.exit 4 [.pointer (some ⟨K, 0, none⟩), r3, r4] w') ∧ H.length = tolds.length ∧ (∀ h ∈ H, h.done = false ∧ ∃ o ∈ tolds, h.n = o.2.length) ∧
      Sat W (blkA K 59 [l, s', out, told, k3, k4, k5, k6] * (rowA 101 2 s' (hs ++ H).length (scs (hs ++ H)) * (rowA 41 1 told tolds.length (tolds.map (·.1)) * (all spanA (hs ++ H) * X)))) w' := by
  obtain ⟨A, c, rfl, _⟩ := own_form y.swap3.row
  have key := iter_down (f := f25.l3 C) (fun d vs w1 => ∃ (i : Nat) (s' : Value) (H : List Hold), vs = [.pointer (some ⟨K, 0, none⟩), r3, r4, .int .i64 i] ∧ i + d = tolds.length ∧ H.length = i ∧ (∀ h ∈ H, h.done = false ∧ ∃ o ∈ tolds, h.n = o.2.length) ∧
        Sat W (blkA K 59 [l, s', out, .slice A tolds.length c, k3, k4, k5, k6] * (rowA 101 2 s' (hs ++ H).length (scs (hs ++ H)) * (rowA 41 1 (.slice A tolds.length c) tolds.length (tolds.map (·.1)) * (all spanA (hs ++ H) * (all toldA (tolds.drop i) * X))))) w1)
    (fun r => ∃ (s' : Value) (H : List Hold) (w1 : World), r = .exit 4 [.pointer (some ⟨K, 0, none⟩), r3, r4] w1 ∧ H.length = tolds.length ∧ (∀ h ∈ H, h.done = false ∧ ∃ o ∈ tolds, h.n = o.2.length) ∧
        Sat W (blkA K 59 [l, s', out, .slice A tolds.length c, k3, k4, k5, k6] * (rowA 101 2 s' (hs ++ H).length (scs (hs ++ H)) * (rowA 41 1 (.slice A tolds.length c) tolds.length (tolds.map (·.1)) * (all spanA (hs ++ H) * X)))) w1) (by
      rintro d vs w1 ⟨i, s', H, rfl, hi, hH, hHd, y⟩
      have c2 := y.cell 3 rfl
      have c0 := y.cell 1 rfl
      obtain ⟨Al, cl, rfl, _⟩ := own_form y.swap.row
      have hlen : (hs ++ H).length = hs.length + i := by rw [List.length_append, hH]
      generalize hL : (hs ++ H).length = L at *
      cases d with
      | zero =>
        obtain rfl : i = tolds.length := by omega
        rw [List.drop_length] at y
        refine .inr ⟨_, ?_, ⟨.slice Al L cl, H, w1, rfl, hH, hHd, y.eq (by simp only [all, emp_star, hL])⟩, by simp⟩
        simp (disch := omega) [f25.l3, addL, c2, lt_f]
      | succ d =>
        have hil : i < tolds.length := by omega
        obtain ⟨o, ho⟩ : ∃ o, tolds[i]? = some o := ⟨_, List.getElem?_eq_getElem hil⟩
        have hmem := List.mem_of_getElem? ho
        have hbo := hb o hmem
        have hov : (tolds.map (·.1))[i]? = some o.1 := by simp [ho]
        have e1 : IntKind.i64.wrap ((i : Int) + 1) = ((i + 1 : Nat) : Int) := (wrap_i64 (by omega) (by omega)).trans (by omega)
        obtain ⟨m, hm⟩ : ∃ m, m = IntKind.i64.wrap (-1 - (L : Int)) := ⟨_, rfl⟩
        obtain ⟨w2, h2, y2⟩ := mark_s0 (l := l) (s := .slice Al L cl) (out := out) (k3 := k3) (k4 := k4) (k5 := k5) (k6 := k6) (r3 := r3) (r4 := r4) (v := o.1) (N := o.2.length) (ys := sc o.2) (i := i) m
          (y.eq (by rw [all_drop toldA ho]; unfold toldA; ac_rfl : _ = blkA K 59 [l, .slice Al L cl, out, .slice A tolds.length c, k3, k4, k5, k6] * (rowA 41 1 (.slice A tolds.length c) tolds.length (tolds.map (·.1)) * (clipA 40 2 o.1 o.2.length (sc o.2) * (rowA 101 2 (.slice Al L cl) L (scs (hs ++ H)) * (all spanA (hs ++ H) * (all toldA (tolds.drop (i + 1)) * X))))))) hil hov (by omega) hbo
        have y3 := y2.drew
        have rl := Rd.owned y2.swap.row
        obtain ⟨Av, cv, hv, _, _⟩ := y2.swap3.clip
        cases A with
        | none =>
          have : tolds.map (·.1) = [] := rl
          simp at this
          subst this
          simp at hil
        | some a =>
          have q0 : w2.cell? (a.add i) = some o.1 := rl _ _ hov
          rw [hv] at q0
          have i1 := ix57 a tolds.length c .i64 (i : Int) (by omega) (by omega)
          simp only [Int.toNat_natCast, Nat.mul_one] at i1
          have z := y3.eq (by ac_rfl : _ = rowA 101 2 (.slice Al L cl) L (scs (hs ++ H)) * (blkA K 59 [l, .slice Al L cl, out, .slice (some a) tolds.length c, k3, k4, k5, k6] * (rowA 41 1 (.slice (some a) tolds.length c) tolds.length (tolds.map (·.1)) * (clipA 40 2 o.1 o.2.length (sc (List.replicate o.2.length (m, 0))) * (all spanA (hs ++ H) * (all toldA (tolds.drop (i + 1)) * X))))))
          obtain ⟨l2, w4, h4, z4⟩ := z.push (t := 56) (ty := 56) Try.underlying56 inf101 zero101 size101 bytes101 rfl (by decide) (news := [.slice Av o.2.length o.2.length, .int .i64 m]) rfl (by simp [Value.oneCell']) (by simp [maxLen]; omega) (by omega)
          obtain ⟨A4, c4, rfl, _⟩ := own_form z4.row
          have y4 := z4.swap
          have s1 := st56 (v := .slice A4 (L + 1) c4) rfl rfl (y4.cell 1 rfl) (y4.frozen 1)
          have y5 := y4.store 1 (.slice A4 (L + 1) c4) rfl
          obtain ⟨w5, hw5⟩ : ∃ w5, w5 = w4.setCell ⟨K, 1, none⟩ (.slice A4 (L + 1) c4) := ⟨_, rfl⟩
          rw [← hw5] at s1 y5
          have k1 := y2.cell 1 rfl
          have k2 := y2.cell 3 rfl
          have k5' := (y3.alloc_ge (.cells #[.slice Av o.2.length o.2.length, .int .i64 m] 101)).cell 1 rfl
          have h4' : erun Try.prog (Builtin.append_ #[56, 56] 56 #[.slice Al L cl, .slice (some ⟨w2.heap.size, 0, none⟩) 1 1]) (w2.drew.alloc (.cells #[.slice Av o.2.length o.2.length, .int .i64 m] 101)) = some (.slice A4 (L + 1) c4, w4) := h4
          refine .inl ⟨d, _, w5, by omega, ?_, ⟨i + 1, .slice A4 (L + 1) c4, H ++ [⟨o.1, m, o.2.length, false⟩], rfl, by omega, by simp [hH], fun h hh => ?_, y5.eq ?_⟩⟩
          · have hlt : (i : Int) < (tolds.length : Int) := by omega
            simp (disch := omega) [f25.l3, addL, c0, c2, hlt, ← hm, h2, k1, k2, k5', i1, q0, hv, build101, bs56_1, h4', s1, e1, chkThen]
          · simp only [List.mem_append, List.mem_singleton] at hh
            rcases hh with hh | rfl
            · exact hHd h hh
            · exact ⟨rfl, o, hmem, rfl⟩
          · rw [← List.append_assoc, all_snoc]
            have e5 : scs (hs ++ H ++ [⟨o.1, m, o.2.length, false⟩]) = scs (hs ++ H) ++ [.slice Av o.2.length o.2.length, .int .i64 m] := by simp [scs, hv]
            rw [e5, show (hs ++ H ++ [(⟨o.1, m, o.2.length, false⟩ : Hold)]).length = L + 1 by rw [List.length_append, hL]; rfl]
            simp only [spanA, sxs, Bool.false_eq_true, if_false]
            ac_rfl) tolds.length _ w ⟨0, s, [], rfl, by omega, rfl, by simp, by simpa using y⟩
  obtain ⟨r, h3, s', H, w3, rfl, h4, h5, y3⟩ := key
  exact ⟨s', H, w3, by simpa using h3, h4, h5, y3⟩
end
end Go.Sh.Ytokpgallfmpmkaa
