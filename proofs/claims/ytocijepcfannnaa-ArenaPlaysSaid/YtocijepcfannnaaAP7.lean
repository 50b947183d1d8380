/- ArenaPlays, seventh part: at the end, what lies behind each list is its owner's, too. Conditions: those of each statement. -/
import Derived.Test.YtocijepcfannnaaAP6
namespace Go.Sh.Ytocijepcfannnaa
open Go Go.Proofs Go.RowKit
set_option linter.unusedVariables false
set_option linter.unusedSimpArgs false
section
variable {w w' : World} {base Wb : Nat} {VA VR VM VB VS : Value} {la lr lm : List Value} {bs ss : List (Value × List Value)} {n : Int}

theorem ends_l6 (VMo : Value) (i : Nat) {A : Option Addr} {m : Nat} {xs : List Value} (ho : w.ownsRow base 5 1 (.slice A m m) m xs) (hm : m ≤ 1073741824) (hb : base ≤ w.heap.size) :
    ∃ v' w', iter (f21.l6 C) [.pointer (some ⟨Wb, 0, none⟩), VMo, .int .i64 i, .slice A m m, .int .i64 0] w = some (.exit 14 [.pointer (some ⟨Wb, 0, none⟩), VMo, .int .i64 i, v'] w') ∧ w'.ownsRow w.heap.size 5 1 v' (m + 20) (xs ++ List.replicate 20 (vb i)) ∧ w.grownBy w' none := by
  obtain ⟨v1, w1, h1, o1, g1⟩ := own_push_full (P := Try.prog) (ty := 23) Try.underlying23 inf5 zero5 size5 bytes5 rfl ho (x := vb i) rfl (by unfold maxLen; omega) (by omega) hb
  obtain ⟨v2, w2, h2, o2, g2, _⟩ := more_own (P := Try.prog) (f := f21.l6 C) (ty := 23) (m := 19) Try.underlying23 inf5 zero5 size5 bytes5 rfl (x := vb i) rfl
    (fun j v => [.pointer (some ⟨Wb, 0, none⟩), VMo, .int .i64 i, v, .int .i64 ((j + 1 : Nat) : Int)]) (fun v w => .exit 14 [.pointer (some ⟨Wb, 0, none⟩), VMo, .int .i64 i, v] w) (by simp)
    (fun j v v' w w' hj h => by
      have e1 : IntKind.i64.wrap (((j + 1 : Nat) : Int) + 1) = ((j + 1 + 1 : Nat) : Int) := (wrap_i64 (by omega) (by omega)).trans (by omega)
      have hlt : (((j + 1 : Nat) : Int) < 20) = True := eq_true (by omega)
      unfold vb at h
      simp only [f21.l6, nth_zero, nth_succ, bin_lss, hlt, decide_true, Option.bind_some, asB_bool, if_true, bin_rem _ _ _ (show (250 : Int) ≠ 0 by decide), bin_add, kb_eq, cvB, bs23_1, h, unblock_norm, cont_norm, e1])
    (fun v w => by simp [f21.l6]) (by unfold maxLen; omega) (by omega) g1.size o1
  have first : f21.l6 C [.pointer (some ⟨Wb, 0, none⟩), VMo, .int .i64 i, .slice A m m, .int .i64 0] w = some (.norm [.pointer (some ⟨Wb, 0, none⟩), VMo, .int .i64 i, v1, .int .i64 ((0 + 1 : Nat) : Int)] w1) := by
    have hlt : ((0 : Int) < 20) = True := eq_true (by omega)
    have e1 : IntKind.i64.wrap ((0 : Int) + 1) = ((0 + 1 : Nat) : Int) := rfl
    unfold vb at h1
    simp only [f21.l6, nth_zero, nth_succ, bin_lss, hlt, decide_true, Option.bind_some, asB_bool, if_true, bin_rem _ _ _ (show (250 : Int) ≠ 0 by decide), bin_add, kb_eq, cvB, bs23_1, h1, unblock_norm, cont_norm, e1]
  refine ⟨v2, w2, iter_once first h2, ?_, grown_trans g1 g2 fun k hk => (o1.lt k hk).1⟩
  have : xs ++ [vb i] ++ List.replicate 19 (vb i) = xs ++ List.replicate 20 (vb i) := by rw [List.append_assoc]; rfl
  rw [this] at o2
  exact o2
theorem ends_l7 (h : En w base Wb VA VR VM VB VS la lr lm bs ss n) (hb : base ≤ w.heap.size) (hc : Caps bs) (ha : All vb bs bs.length) (hl : bs.length * 24 ≤ 140737488355328) :
    ∃ w' VMo mq, iter (f21.l7 C) [.pointer (some ⟨Wb, 0, none⟩), .slice none 0 0, .int .i64 0] w = some (.exit 12 [.pointer (some ⟨Wb, 0, none⟩), VMo] w') ∧ w'.ownsRow w.heap.size 23 1 VMo mq.length (mq.map (·.1)) ∧ Rows w' w.heap.size 5 mq ∧ mq.length = bs.length ∧ All vb mq mq.length ∧ (∀ p ∈ mq, p.2.length ≤ 1073741844) ∧ w.grownBy w' none := by
  have key := iter_down (f := f21.l7 C) (fun d st w1 => ∃ (i : Nat) (VMo : Value) (mq : List (Value × List Value)), st = [.pointer (some ⟨Wb, 0, none⟩), VMo, .int .i64 i] ∧ i + d = bs.length ∧ mq.length = i ∧ w1.ownsRow w.heap.size 23 1 VMo mq.length (mq.map (·.1)) ∧ Rows w1 w.heap.size 5 mq ∧ All vb mq mq.length ∧ (∀ p ∈ mq, p.2.length ≤ 1073741844) ∧ w.grownBy w1 none)
    (fun r => ∃ w1 VMo mq, r = .exit 12 [.pointer (some ⟨Wb, 0, none⟩), VMo] w1 ∧ w1.ownsRow w.heap.size 23 1 VMo mq.length (mq.map (·.1)) ∧ Rows w1 w.heap.size 5 mq ∧ mq.length = bs.length ∧ All vb mq mq.length ∧ (∀ p ∈ mq, p.2.length ≤ 1073741844) ∧ w.grownBy w1 none) (by
      rintro d st w1 ⟨i, VMo, mq, rfl, hi, hq, om, rm, am, lm1, G⟩
      have E := h.new G
      cases d with
      | zero =>
        obtain rfl : i = bs.length := by omega
        obtain ⟨A, c, hV⟩ := E.form_b
        subst hV
        exact .inr ⟨_, by simp [f21.l7, addL, E.hd.blk.cell_eq 3 rfl], ⟨w1, VMo, mq, rfl, om, rm, hq, am, lm1, G⟩, by simp⟩
      | succ d =>
        have hib : i < bs.length := by omega
        obtain ⟨p, hp⟩ : ∃ p, p = bs[i] := ⟨_, rfl⟩
        have hip : bs[i]? = some p := by rw [hp]; exact List.getElem?_eq_getElem hib
        obtain ⟨aV, cV, hV, cell⟩ := E.cell_b hip
        subst hV
        have ix := ix51 aV bs.length cV .i64 i (by omega) (by omega)
        simp only [Int.toNat_natCast, Nat.mul_one] at ix
        obtain ⟨hpl, A, hA⟩ := hc p (List.mem_of_getElem? hip)
        have o := E.rb.part hip
        rw [hA] at o cell
        obtain ⟨v2, w2, h2, o2, g2⟩ := ends_l6 (Wb := Wb) VMo i o hpl (Nat.le_trans hb G.size)
        obtain ⟨A2, c2, rfl, _⟩ := own_form o2
        have om2 := own_new om g2
        obtain ⟨VMo', w3, h3, o3, g3, k3⟩ := own_push (P := Try.prog) (ty := 51) Try.underlying51 inf23 zero23 size23 bytes23 rfl om2 (x := .slice A2 (p.2.length + 20) c2) rfl (by unfold maxLen; omega) (by omega) (Nat.le_trans G.size g2.size)
        have hxl : (p.2 ++ List.replicate 20 (vb i)).length = p.2.length + 20 := by simp
        have rm2 := (rm.new g2).push (p := (.slice A2 (p.2.length + 20) c2, p.2 ++ List.replicate 20 (vb i))) (by rw [hxl]; exact own_base o2 G.size) fun k hk hf => by
          have h1 := (o2.lt k hk).1
          have h2 := (rm.ge hf).2
          omega
        have rm3 := rm2.grew (grew_of (S := fun k => VMo.ownBlock = some k) g3 fun k hk => .inl hk) fun k hk hv => rm2.ne_own om2 (by decide) hv hk
        have e1 : IntKind.i64.wrap ((i : Int) + 1) = ((i + 1 : Nat) : Int) := (wrap_i64 (by omega) (by omega)).trans (by omega)
        refine .inl ⟨d, _, w3, by omega, ?_, ⟨i + 1, VMo', mq ++ [(.slice A2 (p.2.length + 20) c2, p.2 ++ List.replicate 20 (vb i))], rfl, by omega, by simp [hq], by simpa using o3, rm3, ?_, ?_, grown_trans (grown_trans G g2 (by simp)) g3 fun k hk => (om2.lt k hk).1⟩⟩
        · simp (disch := omega) [f21.l7, addL, lt_t, E.hd.blk.cell_eq 3 rfl, ix, cell, h2, bs51_1, h3, e1]
        · intro j y hj hy
          by_cases hjq : j < mq.length
          · rw [List.getElem?_append_left hjq] at hy
            exact am j y hjq hy
          · have hji : j = i := by simp at hj; omega
            subst hji
            rw [List.getElem?_append_right (by omega), show j - mq.length = 0 by omega] at hy
            simp at hy
            subst hy
            have := ha j p hib hip
            show p.2 ++ List.replicate 20 (vb j) = List.replicate (p.2 ++ List.replicate 20 (vb j)).length (vb j)
            rw [List.length_append, List.length_replicate, ← List.replicate_append_replicate, ← this]
        · intro y hy
          simp only [List.mem_append, List.mem_singleton] at hy
          rcases hy with hy | rfl
          · exact lm1 y hy
          · simp; omega) bs.length _ w ⟨0, .slice none 0 0, [], rfl, by omega, rfl, World.ownsRow_nil _ _ _ _, Rows.nil, fun j p hj => by simp at hj, by simp, grown_refl _ _⟩
  obtain ⟨r, h1, w1, VMo, mq, rfl, om, rm, hq, am, lm1, G⟩ := key
  exact ⟨w1, VMo, mq, by simpa using h1, om, rm, hq, am, lm1, G⟩
/-- the first list and the longer one both read so -/
theorem ends_l10 (h : En w base Wb VA VR VM VB VS la lr lm bs ss n) (hc : Caps bs) (ha : All vb bs bs.length) (hl : bs.length ≤ 8000000000000) (X : Value) {base' : Nat} {VMo : Value} {mq : List (Value × List Value)} (om : w.ownsRow base' 23 1 VMo mq.length (mq.map (·.1))) (rm : Rows w base' 5 mq) (hq : mq.length = bs.length) (am : All vb mq mq.length) (lm1 : ∀ p ∈ mq, p.2.length ≤ 1073741844) :
    iter (f21.l10 C) [.pointer (some ⟨Wb, 0, none⟩), VMo, X, .int .i64 0] w = some (.exit 20 [.pointer (some ⟨Wb, 0, none⟩), X] w) := by
  obtain ⟨AM, cM, hVM, _⟩ := own_form om
  subst hVM
  refine iter_up bs.length (fun i => [.pointer (some ⟨Wb, 0, none⟩), .slice AM mq.length cM, X, .int .i64 i]) (by simp) (fun i hi => ?_) ?_
  · obtain ⟨p, hp⟩ : ∃ p, p = bs[i] := ⟨_, rfl⟩
    have hip : bs[i]? = some p := by rw [hp]; exact List.getElem?_eq_getElem hi
    obtain ⟨a, c, hV, hcell⟩ := h.cell_b hip
    subst hV
    have hm := List.mem_of_getElem? hip
    obtain ⟨hb, A, hA⟩ := hc p hm
    have o := h.rb.part hip
    rw [hA] at o hcell
    have r := Rd.owned o
    rw [ha i p hi hip] at r
    have a1 := full_ok (w := w) (A := A) (n := p.2.length) (cp := p.2.length) (c := IntKind.u8.wrap (kb i)) (by unfold maxLen; omega) r
    have him : i < mq.length := by omega
    obtain ⟨p', hp'⟩ : ∃ p', p' = mq[i] := ⟨_, rfl⟩
    have hip' : mq[i]? = some p' := by rw [hp']; exact List.getElem?_eq_getElem him
    obtain ⟨aM, hAM, cellM⟩ := own_cell om (j := i) (v := p'.1) (by simp [hip'])
    subst hAM
    have o' := rm.part hip'
    obtain ⟨A', c', hA', _⟩ := own_form o'
    rw [hA'] at o' cellM
    have r' := Rd.owned o'
    rw [am i p' him hip'] at r'
    have hb' := lm1 p' (List.mem_of_getElem? hip')
    have a2 := full_ok (w := w) (A := A') (n := p'.2.length) (cp := c') (c := IntKind.u8.wrap (kb i)) (by unfold maxLen; omega) r'
    have ix := ix51 a bs.length c .i64 i (by omega) (by omega)
    have ix' := ix51 aM mq.length cM .i64 i (by omega) (by omega)
    simp only [Int.toNat_natCast, Nat.mul_one] at ix ix'
    have e1 : IntKind.i64.wrap ((i : Int) + 1) = ((i + 1 : Nat) : Int) := (wrap_i64 (by omega) (by omega)).trans (by omega)
    simp (disch := omega) [f21.l10, addL, lt_t, h.hd.blk.cell_eq 3 rfl, ix, hcell, bin_rem, kb_eq, cvB, a1, ix', cellM, a2, bool_not, e1]
  · obtain ⟨A, c, hV⟩ := h.form_b
    subst hV
    simp [f21.l10, addL, h.hd.blk.cell_eq 3 rfl]

theorem ends_l8 (X VMo : Value) (i : Nat) {A : Option Addr} {m : Nat} {xs : List Value} (ho : w.ownsRow base 43 1 (.slice A m m) m xs) (hm : m ≤ 1073741824) (hb : base ≤ w.heap.size) :
    ∃ v' w', iter (f21.l8 C) [.pointer (some ⟨Wb, 0, none⟩), X, VMo, .int .i64 i, .slice A m m, .int .i64 0] w = some (.exit 18 [.pointer (some ⟨Wb, 0, none⟩), X, VMo, .int .i64 i, v'] w') ∧ w'.ownsRow w.heap.size 43 1 v' (m + 20) (xs ++ List.replicate 20 (vs i)) ∧ w.grownBy w' none := by
  obtain ⟨v1, w1, h1, o1, g1⟩ := own_push_full (P := Try.prog) (ty := 37) Try.underlying37 inf43 zero43 size43 bytes43 rfl ho (x := vs i) rfl (by unfold maxLen; omega) (by omega) hb
  obtain ⟨v2, w2, h2, o2, g2, _⟩ := more_own (P := Try.prog) (f := f21.l8 C) (ty := 37) (m := 19) Try.underlying37 inf43 zero43 size43 bytes43 rfl (x := vs i) rfl
    (fun j v => [.pointer (some ⟨Wb, 0, none⟩), X, VMo, .int .i64 i, v, .int .i64 ((j + 1 : Nat) : Int)]) (fun v w => .exit 18 [.pointer (some ⟨Wb, 0, none⟩), X, VMo, .int .i64 i, v] w) (by simp)
    (fun j v v' w w' hj h => by
      have e1 : IntKind.i64.wrap (((j + 1 : Nat) : Int) + 1) = ((j + 1 + 1 : Nat) : Int) := (wrap_i64 (by omega) (by omega)).trans (by omega)
      have hlt : (((j + 1 : Nat) : Int) < 20) = True := eq_true (by omega)
      unfold vs at h
      simp only [f21.l8, nth_zero, nth_succ, bin_lss, hlt, decide_true, Option.bind_some, asB_bool, if_true, bin_add, bin_add, ks_eq, cvS, bs37_1, h, unblock_norm, cont_norm, e1])
    (fun v w => by simp [f21.l8]) (by unfold maxLen; omega) (by omega) g1.size o1
  have first : f21.l8 C [.pointer (some ⟨Wb, 0, none⟩), X, VMo, .int .i64 i, .slice A m m, .int .i64 0] w = some (.norm [.pointer (some ⟨Wb, 0, none⟩), X, VMo, .int .i64 i, v1, .int .i64 ((0 + 1 : Nat) : Int)] w1) := by
    have hlt : ((0 : Int) < 20) = True := eq_true (by omega)
    have e1 : IntKind.i64.wrap ((0 : Int) + 1) = ((0 + 1 : Nat) : Int) := rfl
    unfold vs at h1
    simp only [f21.l8, nth_zero, nth_succ, bin_lss, hlt, decide_true, Option.bind_some, asB_bool, if_true, bin_add, bin_add, ks_eq, cvS, bs37_1, h1, unblock_norm, cont_norm, e1]
  refine ⟨v2, w2, iter_once first h2, ?_, grown_trans g1 g2 fun k hk => (o1.lt k hk).1⟩
  have : xs ++ [vs i] ++ List.replicate 19 (vs i) = xs ++ List.replicate 20 (vs i) := by rw [List.append_assoc]; rfl
  rw [this] at o2
  exact o2
theorem ends_l9 (h : En w base Wb VA VR VM VB VS la lr lm bs ss n) (hb : base ≤ w.heap.size) (hc : Caps ss) (ha : All vs ss ss.length) (hl : ss.length * 24 ≤ 140737488355328) (X : Value) :
    ∃ w' VMo mq, iter (f21.l9 C) [.pointer (some ⟨Wb, 0, none⟩), X, .slice none 0 0, .int .i64 0] w = some (.exit 16 [.pointer (some ⟨Wb, 0, none⟩), X, VMo] w') ∧ w'.ownsRow w.heap.size 37 1 VMo mq.length (mq.map (·.1)) ∧ Rows w' w.heap.size 43 mq ∧ mq.length = ss.length ∧ All vs mq mq.length ∧ (∀ p ∈ mq, p.2.length ≤ 1073741844) ∧ w.grownBy w' none := by
  have key := iter_down (f := f21.l9 C) (fun d st w1 => ∃ (i : Nat) (VMo : Value) (mq : List (Value × List Value)), st = [.pointer (some ⟨Wb, 0, none⟩), X, VMo, .int .i64 i] ∧ i + d = ss.length ∧ mq.length = i ∧ w1.ownsRow w.heap.size 37 1 VMo mq.length (mq.map (·.1)) ∧ Rows w1 w.heap.size 43 mq ∧ All vs mq mq.length ∧ (∀ p ∈ mq, p.2.length ≤ 1073741844) ∧ w.grownBy w1 none)
    (fun r => ∃ w1 VMo mq, r = .exit 16 [.pointer (some ⟨Wb, 0, none⟩), X, VMo] w1 ∧ w1.ownsRow w.heap.size 37 1 VMo mq.length (mq.map (·.1)) ∧ Rows w1 w.heap.size 43 mq ∧ mq.length = ss.length ∧ All vs mq mq.length ∧ (∀ p ∈ mq, p.2.length ≤ 1073741844) ∧ w.grownBy w1 none) (by
      rintro d st w1 ⟨i, VMo, mq, rfl, hi, hq, om, rm, am, lm1, G⟩
      have E := h.new G
      cases d with
      | zero =>
        obtain rfl : i = ss.length := by omega
        obtain ⟨A, c, hV⟩ := E.form_s
        subst hV
        exact .inr ⟨_, by simp [f21.l9, addL, E.hd.blk.cell_eq 4 rfl], ⟨w1, VMo, mq, rfl, om, rm, hq, am, lm1, G⟩, by simp⟩
      | succ d =>
        have hib : i < ss.length := by omega
        obtain ⟨p, hp⟩ : ∃ p, p = ss[i] := ⟨_, rfl⟩
        have hip : ss[i]? = some p := by rw [hp]; exact List.getElem?_eq_getElem hib
        obtain ⟨aV, cV, hV, cell⟩ := E.cell_s hip
        subst hV
        have ix := ix52 aV ss.length cV .i64 i (by omega) (by omega)
        simp only [Int.toNat_natCast, Nat.mul_one] at ix
        obtain ⟨hpl, A, hA⟩ := hc p (List.mem_of_getElem? hip)
        have o := E.rs.part hip
        rw [hA] at o cell
        obtain ⟨v2, w2, h2, o2, g2⟩ := ends_l8 (Wb := Wb) X VMo i o hpl (Nat.le_trans hb G.size)
        obtain ⟨A2, c2, rfl, _⟩ := own_form o2
        have om2 := own_new om g2
        obtain ⟨VMo', w3, h3, o3, g3, k3⟩ := own_push (P := Try.prog) (ty := 52) Try.underlying52 inf37 zero37 size37 bytes37 rfl om2 (x := .slice A2 (p.2.length + 20) c2) rfl (by unfold maxLen; omega) (by omega) (Nat.le_trans G.size g2.size)
        have hxl : (p.2 ++ List.replicate 20 (vs i)).length = p.2.length + 20 := by simp
        have rm2 := (rm.new g2).push (p := (.slice A2 (p.2.length + 20) c2, p.2 ++ List.replicate 20 (vs i))) (by rw [hxl]; exact own_base o2 G.size) fun k hk hf => by
          have h1 := (o2.lt k hk).1
          have h2 := (rm.ge hf).2
          omega
        have rm3 := rm2.grew (grew_of (S := fun k => VMo.ownBlock = some k) g3 fun k hk => .inl hk) fun k hk hv => rm2.ne_own om2 (by decide) hv hk
        have e1 : IntKind.i64.wrap ((i : Int) + 1) = ((i + 1 : Nat) : Int) := (wrap_i64 (by omega) (by omega)).trans (by omega)
        refine .inl ⟨d, _, w3, by omega, ?_, ⟨i + 1, VMo', mq ++ [(.slice A2 (p.2.length + 20) c2, p.2 ++ List.replicate 20 (vs i))], rfl, by omega, by simp [hq], by simpa using o3, rm3, ?_, ?_, grown_trans (grown_trans G g2 (by simp)) g3 fun k hk => (om2.lt k hk).1⟩⟩
        · simp (disch := omega) [f21.l9, addL, lt_t, E.hd.blk.cell_eq 4 rfl, ix, cell, h2, bs52_1, h3, e1]
        · intro j y hj hy
          by_cases hjq : j < mq.length
          · rw [List.getElem?_append_left hjq] at hy
            exact am j y hjq hy
          · have hji : j = i := by simp at hj; omega
            subst hji
            rw [List.getElem?_append_right (by omega), show j - mq.length = 0 by omega] at hy
            simp at hy
            subst hy
            have := ha j p hib hip
            show p.2 ++ List.replicate 20 (vs j) = List.replicate (p.2 ++ List.replicate 20 (vs j)).length (vs j)
            rw [List.length_append, List.length_replicate, ← List.replicate_append_replicate, ← this]
        · intro y hy
          simp only [List.mem_append, List.mem_singleton] at hy
          rcases hy with hy | rfl
          · exact lm1 y hy
          · simp; omega) ss.length _ w ⟨0, .slice none 0 0, [], rfl, by omega, rfl, World.ownsRow_nil _ _ _ _, Rows.nil, fun j p hj => by simp at hj, by simp, grown_refl _ _⟩
  obtain ⟨r, h1, w1, VMo, mq, rfl, om, rm, hq, am, lm1, G⟩ := key
  exact ⟨w1, VMo, mq, by simpa using h1, om, rm, hq, am, lm1, G⟩
/-- the first list and the longer one both read so -/
theorem ends_l11 (h : En w base Wb VA VR VM VB VS la lr lm bs ss n) (hc : Caps ss) (ha : All vs ss ss.length) (hl : ss.length ≤ 8000000000000) {base' : Nat} {VMo : Value} {mq : List (Value × List Value)} (om : w.ownsRow base' 37 1 VMo mq.length (mq.map (·.1))) (rm : Rows w base' 43 mq) (hq : mq.length = ss.length) (am : All vs mq mq.length) (lm1 : ∀ p ∈ mq, p.2.length ≤ 1073741844) :
    iter (f21.l11 C) [.pointer (some ⟨Wb, 0, none⟩), VMo, .int .i64 0] w = some (.exit 22 [] w) := by
  obtain ⟨AM, cM, hVM, _⟩ := own_form om
  subst hVM
  refine iter_up ss.length (fun i => [.pointer (some ⟨Wb, 0, none⟩), .slice AM mq.length cM, .int .i64 i]) (by simp) (fun i hi => ?_) ?_
  · obtain ⟨p, hp⟩ : ∃ p, p = ss[i] := ⟨_, rfl⟩
    have hip : ss[i]? = some p := by rw [hp]; exact List.getElem?_eq_getElem hi
    obtain ⟨a, c, hV, hcell⟩ := h.cell_s hip
    subst hV
    have hm := List.mem_of_getElem? hip
    obtain ⟨hb, A, hA⟩ := hc p hm
    have o := h.rs.part hip
    rw [hA] at o hcell
    have r := Rd.owned o
    rw [ha i p hi hip] at r
    have a1 := fulls_ok (w := w) (A := A) (n := p.2.length) (cp := p.2.length) (c := IntKind.u16.wrap (ks i)) (by unfold maxLen; omega) r
    have him : i < mq.length := by omega
    obtain ⟨p', hp'⟩ : ∃ p', p' = mq[i] := ⟨_, rfl⟩
    have hip' : mq[i]? = some p' := by rw [hp']; exact List.getElem?_eq_getElem him
    obtain ⟨aM, hAM, cellM⟩ := own_cell om (j := i) (v := p'.1) (by simp [hip'])
    subst hAM
    have o' := rm.part hip'
    obtain ⟨A', c', hA', _⟩ := own_form o'
    rw [hA'] at o' cellM
    have r' := Rd.owned o'
    rw [am i p' him hip'] at r'
    have hb' := lm1 p' (List.mem_of_getElem? hip')
    have a2 := fulls_ok (w := w) (A := A') (n := p'.2.length) (cp := c') (c := IntKind.u16.wrap (ks i)) (by unfold maxLen; omega) r'
    have ix := ix52 a ss.length c .i64 i (by omega) (by omega)
    have ix' := ix52 aM mq.length cM .i64 i (by omega) (by omega)
    simp only [Int.toNat_natCast, Nat.mul_one] at ix ix'
    have e1 : IntKind.i64.wrap ((i : Int) + 1) = ((i + 1 : Nat) : Int) := (wrap_i64 (by omega) (by omega)).trans (by omega)
    simp (disch := omega) [f21.l11, addL, lt_t, h.hd.blk.cell_eq 4 rfl, ix, hcell, ks_eq, cvS, a1, ix', cellM, a2, bool_not, e1]
  · obtain ⟨A, c, hV⟩ := h.form_s
    subst hV
    simp [f21.l11, addL, h.hd.blk.cell_eq 4 rfl]
end
end Go.Sh.Ytocijepcfannnaa
