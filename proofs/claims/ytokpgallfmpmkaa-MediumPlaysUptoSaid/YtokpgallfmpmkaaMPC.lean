/- medium: the law's book: own: all that was taken is marked. Conditions: those of each statement. -/
import Derived.Test.YtokpgallfmpmkaaMPB
namespace Go.Sh.Ytokpgallfmpmkaa
open Go Go.Proofs Go.RowKit
set_option linter.unusedVariables false
set_option linter.unusedSimpArgs false
set_option maxRecDepth 100000
theorem cv3_5 (x : Int) : prun Try.prog (convert 3 5 (.int .i64 x)) = some (.int .u8 (IntKind.u8.wrap x)) := id (by kernel_rfl)
theorem build99 (A : Option Addr) (n c : Nat) (m : Int) : prun Try.prog (Instr.build 99 #[(0, .slice A n c), (1, .int .u8 m)]) = some (.agg #[.slice A n c, .int .u8 m]) := id (by kernel_rfl)
theorem build101 (A : Option Addr) (n c : Nat) (m : Int) : prun Try.prog (Instr.build 101 #[(0, .slice A n c), (1, .int .i64 m)]) = some (.agg #[.slice A n c, .int .i64 m]) := id (by kernel_rfl)
theorem bs55_1 (A : Option Addr) (n c : Nat) (m : Int) (w : World) : erun Try.prog (Instr.buildSlice 55 1 #[(0, .agg #[.slice A n c, .int .u8 m])]) w = some (.slice (some ⟨w.heap.size, 0, none⟩) 1 1, w.alloc (.cells #[.slice A n c, .int .u8 m] 99)) := id (by kernel_rfl)
theorem bs56_1 (A : Option Addr) (n c : Nat) (m : Int) (w : World) : erun Try.prog (Instr.buildSlice 56 1 #[(0, .agg #[.slice A n c, .int .i64 m])]) w = some (.slice (some ⟨w.heap.size, 0, none⟩) 1 1, w.alloc (.cells #[.slice A n c, .int .i64 m] 101)) := id (by kernel_rfl)
theorem all_snoc {base : Nat} {α : Type} (f : α → Asn base) (l : List α) (a : α) : all f (l ++ [a]) = f a * all f l := by rw [all_append]; simp only [all, star_emp]; ac_rfl
theorem all_drop {base : Nat} {α : Type} (f : α → Asn base) {l : List α} {i : Nat} {a : α} (h : l[i]? = some a) : all f (l.drop i) = f a * all f (l.drop (i + 1)) := by
  obtain ⟨hi, rfl⟩ := List.getElem?_eq_some_iff.mp h
  rw [List.drop_eq_getElem_cons hi]; rfl
section
variable {W w : World} {X : Asn W.heap.size} {K : Nat} {l s out told k3 k4 k5 k6 : Value} {hs : List Hold}
theorem mark_l0 {no : Nat} {xs ys : List Value} {v r3 r4 : Value} {N i : Nat} (m : Int) (y : Sat W (blkA K 59 [l, s, out, told, k3, k4, k5, k6] * (rowA 22 1 out no xs * (clipA 5 1 v N ys * X))) w) (hi : i < no) (hv : xs[i]? = some v) (hn : no ≤ 4000000000) (hN : N ≤ 4000000000) :
    ∃ w', iter (f25.l0 C) [.pointer (some ⟨K, 0, none⟩), r3, r4, .int .i64 i, .int .u8 m, .int .i64 0] w = some (.exit 2 [.pointer (some ⟨K, 0, none⟩), r3, r4, .int .i64 i, .int .u8 m] w') ∧
      Sat W (blkA K 59 [l, s, out, told, k3, k4, k5, k6] * (rowA 22 1 out no xs * (clipA 5 1 v N (List.replicate N (.int .u8 m)) * X))) w' := by
  obtain ⟨A, c, rfl, _⟩ := own_form y.swap.row
  have hys : ys.length = N := by obtain ⟨_, _, _, _, o⟩ := y.swap3.clip; simpa using o.1
  have key := iter_down (f := f25.l0 C) (fun d vs w1 => ∃ j : Nat, vs = [.pointer (some ⟨K, 0, none⟩), r3, r4, .int .i64 i, .int .u8 m, .int .i64 j] ∧ j + d = N ∧ Sat W (blkA K 59 [l, s, .slice A no c, told, k3, k4, k5, k6] * (rowA 22 1 (.slice A no c) no xs * (clipA 5 1 v N (List.replicate j (.int .u8 m) ++ ys.drop j) * X))) w1)
    (fun r => ∃ w1, r = .exit 2 [.pointer (some ⟨K, 0, none⟩), r3, r4, .int .i64 i, .int .u8 m] w1 ∧ Sat W (blkA K 59 [l, s, .slice A no c, told, k3, k4, k5, k6] * (rowA 22 1 (.slice A no c) no xs * (clipA 5 1 v N (List.replicate N (.int .u8 m)) * X))) w1) (by
      rintro d vs w1 ⟨j, rfl, hj, y⟩
      have c0 := y.cell 2 rfl
      have rl := Rd.owned y.swap.row
      cases A with
      | none =>
        have : xs = [] := rl
        subst this
        simp at hv
      | some a =>
        have q0 : w1.cell? (a.add i) = some v := rl _ _ hv
        have i1 := ix50 a no c .i64 (i : Int) (by omega) (by omega)
        simp only [Int.toNat_natCast, Nat.mul_one] at i1
        obtain ⟨Av, cv, rfl, _, _⟩ := y.swap3.clip
        cases d with
        | zero =>
          obtain rfl : j = N := by omega
          have hd0 : ys.drop j = [] := List.drop_eq_nil_of_le (by omega)
          rw [hd0, List.append_nil] at y
          refine .inr ⟨_, ?_, ⟨w1, rfl, y⟩, by simp⟩
          simp (disch := omega) [f25.l0, addL, c0, lt_f, i1, q0]
        | succ d =>
          have hjN : (j : Int) < (N : Int) := by omega
          have e2 : IntKind.i64.wrap ((j : Int) + 1) = ((j + 1 : Nat) : Int) := (wrap_i64 (by omega) (by omega)).trans (by omega)
          obtain ⟨a1, w2, ha, h2, y2⟩ := y.swap3.clipPut (P := Try.prog) (t := 5) (j := j) (u := .int .u8 m) inf5 size5 (by omega) rfl rfl
          cases ha
          have i2 := ix22 a1 N N .i64 (j : Int) (by omega) (by omega)
          simp only [Int.toNat_natCast, Nat.mul_one] at i2
          have es : (List.replicate j (Value.int .u8 m) ++ ys.drop j).set j (.int .u8 m) = List.replicate (j + 1) (Value.int .u8 m) ++ ys.drop (j + 1) := by
            rw [List.drop_eq_getElem_cons (show j < ys.length by omega), set_next _ _ _ _ (by simp), List.replicate_succ' (n := j)]
            simp
          rw [es] at y2
          refine .inl ⟨d, _, w2, by omega, ?_, ⟨j + 1, rfl, by omega, y2.back3⟩⟩
          simp [f25.l0, addL, c0, i1, q0, hjN, i2, h2, e2]) N _ w ⟨0, rfl, by omega, by simpa using y⟩
  obtain ⟨r, h3, w3, rfl, y3⟩ := key
  exact ⟨w3, by simpa using h3, y3⟩
def outA {base : Nat} (o : Value × List UInt8) : Asn base := clipA 5 1 o.1 o.2.length (bv o.2)
def toldA {base : Nat} (o : Value × List (Int × Int)) : Asn base := clipA 40 2 o.1 o.2.length (sc o.2)
theorem mark_l1 {outs : List (Value × List UInt8)} {r3 r4 : Value} (y : Sat W (blkA K 59 [l, s, out, told, k3, k4, k5, k6] * (rowA 99 2 l hs.length (hcs hs) * (rowA 22 1 out outs.length (outs.map (·.1)) * (all holdA hs * (all outA outs * X))))) w)
    (hn : hs.length + outs.length ≤ 2000000000) (hb : ∀ o ∈ outs, o.2.length ≤ 4000000000) :
    ∃ l' H w', iter (f25.l1 C) [.pointer (some ⟨K, 0, none⟩), r3, r4, .int .i64 0] w = some (.exit 0 [.pointer (some ⟨K, 0, none⟩), r3, r4] w') ∧ H.length = outs.length ∧ (∀ h ∈ H, h.done = false ∧ ∃ o ∈ outs, h.n = o.2.length) ∧
      Sat W (blkA K 59 [l', s, out, told, k3, k4, k5, k6] * (rowA 99 2 l' (hs ++ H).length (hcs (hs ++ H)) * (rowA 22 1 out outs.length (outs.map (·.1)) * (all holdA (hs ++ H) * X)))) w' := by
  obtain ⟨A, c, rfl, _⟩ := own_form y.swap3.row
  have key := iter_down (f := f25.l1 C) (fun d vs w1 => ∃ (i : Nat) (l' : Value) (H : List Hold), vs = [.pointer (some ⟨K, 0, none⟩), r3, r4, .int .i64 i] ∧ i + d = outs.length ∧ H.length = i ∧ (∀ h ∈ H, h.done = false ∧ ∃ o ∈ outs, h.n = o.2.length) ∧
        Sat W (blkA K 59 [l', s, .slice A outs.length c, told, k3, k4, k5, k6] * (rowA 99 2 l' (hs ++ H).length (hcs (hs ++ H)) * (rowA 22 1 (.slice A outs.length c) outs.length (outs.map (·.1)) * (all holdA (hs ++ H) * (all outA (outs.drop i) * X))))) w1)
    (fun r => ∃ (l' : Value) (H : List Hold) (w1 : World), r = .exit 0 [.pointer (some ⟨K, 0, none⟩), r3, r4] w1 ∧ H.length = outs.length ∧ (∀ h ∈ H, h.done = false ∧ ∃ o ∈ outs, h.n = o.2.length) ∧
        Sat W (blkA K 59 [l', s, .slice A outs.length c, told, k3, k4, k5, k6] * (rowA 99 2 l' (hs ++ H).length (hcs (hs ++ H)) * (rowA 22 1 (.slice A outs.length c) outs.length (outs.map (·.1)) * (all holdA (hs ++ H) * X)))) w1) (by
      rintro d vs w1 ⟨i, l', H, rfl, hi, hH, hHd, y⟩
      have c2 := y.cell 2 rfl
      have c0 := y.cell 0 rfl
      obtain ⟨Al, cl, rfl, _⟩ := own_form y.swap.row
      have hlen : (hs ++ H).length = hs.length + i := by rw [List.length_append, hH]
      generalize hL : (hs ++ H).length = L at *
      cases d with
      | zero =>
        obtain rfl : i = outs.length := by omega
        rw [List.drop_length] at y
        refine .inr ⟨_, ?_, ⟨.slice Al L cl, H, w1, rfl, hH, hHd, y.eq (by simp only [all, emp_star, hL])⟩, by simp⟩
        simp (disch := omega) [f25.l1, addL, c2, lt_f]
      | succ d =>
        have hil : i < outs.length := by omega
        obtain ⟨o, ho⟩ : ∃ o, outs[i]? = some o := ⟨_, List.getElem?_eq_getElem hil⟩
        have hmem := List.mem_of_getElem? ho
        have hbo := hb o hmem
        have hov : (outs.map (·.1))[i]? = some o.1 := by simp [ho]
        have e1 : IntKind.i64.wrap ((i : Int) + 1) = ((i + 1 : Nat) : Int) := (wrap_i64 (by omega) (by omega)).trans (by omega)
        obtain ⟨m, hm⟩ : ∃ m, m = IntKind.u8.wrap (IntKind.i64.wrap (1 + (L : Int).tmod 250)) := ⟨_, rfl⟩
        obtain ⟨w2, h2, y2⟩ := mark_l0 (l := .slice Al L cl) (s := s) (told := told) (k3 := k3) (k4 := k4) (k5 := k5) (k6 := k6) (r3 := r3) (r4 := r4) (v := o.1) (N := o.2.length) (ys := bv o.2) (i := i) m
          (y.eq (by rw [all_drop outA ho]; unfold outA; ac_rfl : _ = blkA K 59 [.slice Al L cl, s, .slice A outs.length c, told, k3, k4, k5, k6] * (rowA 22 1 (.slice A outs.length c) outs.length (outs.map (·.1)) * (clipA 5 1 o.1 o.2.length (bv o.2) * (rowA 99 2 (.slice Al L cl) L (hcs (hs ++ H)) * (all holdA (hs ++ H) * (all outA (outs.drop (i + 1)) * X))))))) hil hov (by omega) hbo
        have y3 := y2.drew
        have rl := Rd.owned y2.swap.row
        obtain ⟨Av, cv, hv, _, _⟩ := y2.swap3.clip
        cases A with
        | none =>
          have : outs.map (·.1) = [] := rl
          simp at this
          subst this
          simp at hil
        | some a =>
          have q0 : w2.cell? (a.add i) = some o.1 := rl _ _ hov
          rw [hv] at q0
          have i1 := ix50 a outs.length c .i64 (i : Int) (by omega) (by omega)
          simp only [Int.toNat_natCast, Nat.mul_one] at i1
          have z := y3.eq (by ac_rfl : _ = rowA 99 2 (.slice Al L cl) L (hcs (hs ++ H)) * (blkA K 59 [.slice Al L cl, s, .slice (some a) outs.length c, told, k3, k4, k5, k6] * (rowA 22 1 (.slice (some a) outs.length c) outs.length (outs.map (·.1)) * (clipA 5 1 o.1 o.2.length (List.replicate o.2.length (.int .u8 m)) * (all holdA (hs ++ H) * (all outA (outs.drop (i + 1)) * X))))))
          obtain ⟨l2, w4, h4, z4⟩ := z.push (t := 55) (ty := 55) Try.underlying55 inf99 zero99 size99 bytes99 rfl (by decide) (news := [.slice Av o.2.length o.2.length, .int .u8 m]) rfl (by simp [Value.oneCell']) (by simp [maxLen]; omega) (by omega)
          obtain ⟨A4, c4, rfl, _⟩ := own_form z4.row
          have y4 := z4.swap
          have s1 := st55 (v := .slice A4 (L + 1) c4) rfl rfl (y4.cell 0 rfl) (y4.frozen 0)
          have y5 := y4.store 0 (.slice A4 (L + 1) c4) rfl
          obtain ⟨w5, hw5⟩ : ∃ w5, w5 = w4.setCell ⟨K, 0, none⟩ (.slice A4 (L + 1) c4) := ⟨_, rfl⟩
          rw [← hw5] at s1 y5
          have k1 := y2.cell 0 rfl
          have k2 := y2.cell 2 rfl
          have k5' := (y3.alloc_ge (.cells #[.slice Av o.2.length o.2.length, .int .u8 m] 99)).cell 0 rfl
          have h4' : erun Try.prog (Builtin.append_ #[55, 55] 55 #[.slice Al L cl, .slice (some ⟨w2.heap.size, 0, none⟩) 1 1]) (w2.drew.alloc (.cells #[.slice Av o.2.length o.2.length, .int .u8 m] 99)) = some (.slice A4 (L + 1) c4, w4) := h4
          refine .inl ⟨d, _, w5, by omega, ?_, ⟨i + 1, .slice A4 (L + 1) c4, H ++ [⟨o.1, m, o.2.length, false⟩], rfl, by omega, by simp [hH], fun h hh => ?_, y5.eq ?_⟩⟩
          · have hlt : (i : Int) < (outs.length : Int) := by omega
            have b1 : bin .rem (.int .i64 (L : Int)) (.int .i64 250) = some (.int .i64 ((L : Int).tmod 250)) := bin_rem _ _ _ (by decide)
            simp (disch := omega) [f25.l1, addL, c0, c2, hlt, b1, cv3_5, ← hm, h2, k1, k2, k5', i1, q0, hv, build99, bs55_1, h4', s1, e1, chkThen]
          · simp only [List.mem_append, List.mem_singleton] at hh
            rcases hh with hh | rfl
            · exact hHd h hh
            · exact ⟨rfl, o, hmem, rfl⟩
          · rw [← List.append_assoc, all_snoc]
            have e5 : hcs (hs ++ H ++ [⟨o.1, m, o.2.length, false⟩]) = hcs (hs ++ H) ++ [.slice Av o.2.length o.2.length, .int .u8 m] := by simp [hcs, hv]
            rw [e5, show (hs ++ H ++ [(⟨o.1, m, o.2.length, false⟩ : Hold)]).length = L + 1 by rw [List.length_append, hL]; rfl]
            simp only [holdA, hxs, Bool.false_eq_true, if_false]
            ac_rfl) outs.length _ w ⟨0, l, [], rfl, by omega, rfl, by simp, by simpa using y⟩
  obtain ⟨r, h3, l', H, w3, rfl, h4, h5, y3⟩ := key
  exact ⟨l', H, w3, by simpa using h3, h4, h5, y3⟩
end
end Go.Sh.Ytokpgallfmpmkaa
