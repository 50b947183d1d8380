/- medium: the law's book: own: each list is grown. Conditions: those of each statement. -/
import Derived.Test.YtokpgallfmpmkaaMPD
namespace Go.Sh.Ytokpgallfmpmkaa
open Go Go.Proofs Go.RowKit
set_option linter.unusedVariables false
set_option linter.unusedSimpArgs false
set_option maxRecDepth 100000
theorem two_set {f g : Hold → Value} {hs : List Hold} {i : Nat} {h h' : Hold} (hi : hs[i]? = some h) (hg : g h' = g h) : (hs.flatMap fun h => [f h, g h]).set (i * 2) (f h') = ((hs.set i h').flatMap fun h => [f h, g h]) := by
  induction hs generalizing i with
  | nil => simp at hi
  | cons a l ih =>
    cases i with
    | zero => simp at hi; subst hi; simp [hg]
    | succ i =>
      simp at hi
      have e : (i + 1) * 2 = i * 2 + 1 + 1 := by omega
      rw [e]
      simpa using ih hi
section
variable {W w : World} {X : Asn W.heap.size} {K : Nat} {l s k1 k2 k3 k4 k5 k6 : Value} {hs : List Hold}
theorem hold_push {h : Hold} (x : Sat W (holdA h * X) w) (hn : h.n ≤ 4000000000) : ∃ v' w', erun Try.prog (Builtin.append_ #[22, 22] 22 #[h.v, .slice (some ⟨w.heap.size, 0, none⟩) 1 1]) (w.alloc (.cells #[.int .u8 h.m] 5)) = some (v', w') ∧ Sat W (holdA ⟨v', h.m, h.n + 1, true⟩ * X) w' := by
  have e : hxs h ++ [.int .u8 h.m] = hxs ⟨h.v, h.m, h.n + 1, true⟩ := by simp [hxs, List.replicate_succ']
  unfold holdA at x
  split at x
  · obtain ⟨v', w', h1, h2⟩ := x.push (t := 22) (ty := 22) Try.underlying22 inf5 zero5 size5 bytes5 rfl (by decide) (news := [.int .u8 h.m]) rfl (by simp [Value.oneCell']) (by simp [maxLen]; omega) (by omega)
    exact ⟨v', w', h1, by rw [e] at h2; simpa [holdA, hxs] using h2⟩
  · obtain ⟨v', w', h1, h2⟩ := x.pushClip (t := 22) (ty := 22) Try.underlying22 inf5 zero5 size5 bytes5 rfl (by decide) (news := [.int .u8 h.m]) rfl (by simp [Value.oneCell']) (by simp [maxLen]; omega) (by omega)
    exact ⟨v', w', h1, by rw [e] at h2; simpa [holdA, hxs] using h2⟩
theorem grow_step {r4 v11 : Value} {i j : Nat} {h : Hold} (y : Sat W (blkA K 59 [l, s, k1, k2, k3, k4, k5, k6] * (rowA 99 2 l hs.length (hcs hs) * (all holdA hs * X))) w) (hi : hs[i]? = some h) (hj : j < 20) (hL : hs.length ≤ 4000000000) (hn : h.n ≤ 4000000000) :
    ∃ h' w', f25.l4 C [.pointer (some ⟨K, 0, none⟩), r4, v11, .int .i64 i, .int .i64 j] w = some (.norm [.pointer (some ⟨K, 0, none⟩), r4, v11, .int .i64 i, .int .i64 ((j + 1 : Nat) : Int)] w') ∧ h'.n = h.n + 1 ∧
      Sat W (blkA K 59 [l, s, k1, k2, k3, k4, k5, k6] * (rowA 99 2 l (hs.set i h').length (hcs (hs.set i h')) * (all holdA (hs.set i h') * X))) w' := by
  have hil := (List.getElem?_eq_some_iff.mp hi).1
  obtain ⟨A, c, rfl, _⟩ := own_form y.swap.row
  generalize hLL : hs.length = L at *
  have y0 := y.drew
  have z := y0.eq (by rw [all_get holdA hi]; ac_rfl : _ = holdA h * (blkA K 59 [.slice A L c, s, k1, k2, k3, k4, k5, k6] * (rowA 99 2 (.slice A L c) L (hcs hs) * (all holdA (hs.eraseIdx i) * X))))
  obtain ⟨A1, n1, hv, r1⟩ := hold_rd z
  obtain ⟨v', w4, h4, z4⟩ := hold_push z hn
  obtain ⟨A2, n2, hv2, _⟩ := hold_rd z4
  simp only at hv2
  subst hv2
  obtain ⟨t0, t1⟩ := two_get (f := fun h => h.v) (g := fun h => .int .u8 h.m) hi
  have rl := Rd.owned y.swap.row
  have rl2 := Rd.owned (y0.alloc_ge (.cells #[.int .u8 h.m] 5)).swap.row
  have c0 := y.cell 0 rfl
  have c0a := (y0.alloc_ge (.cells #[.int .u8 h.m] 5)).cell 0 rfl
  have z5 := z4.swap
  have c04 := z5.cell 0 rfl
  obtain ⟨a, c', w5, ha, s1, z6⟩ := (z4.eq (by ac_rfl : _ = rowA 99 2 (.slice A L c) L (hcs hs) * (holdA ⟨.slice A2 (h.n + 1) n2, h.m, h.n + 1, true⟩ * (blkA K 59 [.slice A L c, s, k1, k2, k3, k4, k5, k6] * (all holdA (hs.eraseIdx i) * X))))).put (P := Try.prog) (t := 22) (j := i * 2) (u := .slice A2 (h.n + 1) n2) inf22 size22 (by omega) rfl rfl
  simp only [Value.slice.injEq, true_and] at ha
  obtain ⟨rfl, rfl⟩ := ha
  have q0 : w.cell? (a.add (i * 2)) = some h.v := rl _ _ t0
  have q1 : w.cell? (a.add (i * 2 + 1)) = some (.int .u8 h.m) := rl _ _ t1
  have q0a : (w.drew.alloc (.cells #[.int .u8 h.m] 5)).cell? (a.add (i * 2)) = some h.v := rl2 _ _ t0
  rw [hv] at q0 q0a h4
  have i1 := ix55 a L c .i64 (i : Int) (by omega) (by omega)
  simp only [Int.toNat_natCast] at i1
  have e2 : IntKind.i64.wrap ((j : Int) + 1) = ((j + 1 : Nat) : Int) := (wrap_i64 (by omega) (by omega)).trans (by omega)
  have hjn : (j : Int) < 20 := by omega
  have h4' : erun Try.prog (Builtin.append_ #[22, 22] 22 #[.slice A1 h.n n1, .slice (some ⟨w.heap.size, 0, none⟩) 1 1]) (w.drew.alloc (.cells #[.int .u8 h.m] 5)) = some (.slice A2 (h.n + 1) n2, w4) := h4
  have es := two_set (f := fun h => h.v) (g := fun h => .int .u8 h.m) (h' := ⟨.slice A2 (h.n + 1) n2, h.m, h.n + 1, true⟩) hi rfl
  refine ⟨⟨.slice A2 (h.n + 1) n2, h.m, h.n + 1, true⟩, w5, ?_, rfl, z6.eq ?_⟩
  · simp [f25.l4, addL, c0, c0a, c04, hjn, i1, q0, q1, q0a, bs22_1, h4', s1, e2, chkThen, Addr.add_add]
  · rw [show (hcs hs).set (i * 2) (.slice A2 (h.n + 1) n2) = hcs (hs.set i ⟨.slice A2 (h.n + 1) n2, h.m, h.n + 1, true⟩) from es, List.length_set, hLL, all_set holdA (by omega : i < hs.length)]
    ac_rfl
theorem grow_l4 {r4 v11 : Value} {i : Nat} {h : Hold} (y : Sat W (blkA K 59 [l, s, k1, k2, k3, k4, k5, k6] * (rowA 99 2 l hs.length (hcs hs) * (all holdA hs * X))) w) (hi : hs[i]? = some h) (hL : hs.length ≤ 4000000000) (hn : h.n ≤ 3000000000) :
    ∃ h' w', iter (f25.l4 C) [.pointer (some ⟨K, 0, none⟩), r4, v11, .int .i64 i, .int .i64 0] w = some (.exit 10 [.pointer (some ⟨K, 0, none⟩), r4, v11, .int .i64 i] w') ∧ h'.n = h.n + 20 ∧
      Sat W (blkA K 59 [l, s, k1, k2, k3, k4, k5, k6] * (rowA 99 2 l (hs.set i h').length (hcs (hs.set i h')) * (all holdA (hs.set i h') * X))) w' := by
  have hil := (List.getElem?_eq_some_iff.mp hi).1
  have hself : hs.set i h = hs := by
    obtain ⟨_, rfl⟩ := List.getElem?_eq_some_iff.mp hi
    exact List.set_getElem_self hil
  have key := iter_down (f := f25.l4 C) (fun d vs w1 => ∃ (j : Nat) (h' : Hold), vs = [.pointer (some ⟨K, 0, none⟩), r4, v11, .int .i64 i, .int .i64 j] ∧ j + d = 20 ∧ h'.n = h.n + j ∧ Sat W (blkA K 59 [l, s, k1, k2, k3, k4, k5, k6] * (rowA 99 2 l (hs.set i h').length (hcs (hs.set i h')) * (all holdA (hs.set i h') * X))) w1)
    (fun r => ∃ (h' : Hold) (w1 : World), r = .exit 10 [.pointer (some ⟨K, 0, none⟩), r4, v11, .int .i64 i] w1 ∧ h'.n = h.n + 20 ∧ Sat W (blkA K 59 [l, s, k1, k2, k3, k4, k5, k6] * (rowA 99 2 l (hs.set i h').length (hcs (hs.set i h')) * (all holdA (hs.set i h') * X))) w1) (by
      rintro d vs w1 ⟨j, h', rfl, hj, hn', y⟩
      cases d with
      | zero =>
        obtain rfl : j = 20 := by omega
        exact .inr ⟨_, by simp [f25.l4], ⟨h', w1, rfl, hn', y⟩, by simp⟩
      | succ d =>
        obtain ⟨h2, w2, s1, n2, y2⟩ := grow_step (i := i) (j := j) (h := h') (r4 := r4) (v11 := v11) y (by simp [hil]) (by omega) (by rw [List.length_set]; exact hL) (by omega)
        rw [List.set_set] at y2
        exact .inl ⟨d, _, w2, by omega, s1, ⟨j + 1, h2, rfl, by omega, by omega, y2⟩⟩) 20 _ w ⟨0, h, rfl, by omega, by omega, by rw [hself]; exact y⟩
  obtain ⟨r, h3, h', w3, rfl, h4, y3⟩ := key
  exact ⟨h', w3, by simpa using h3, h4, y3⟩
theorem grow_l5 {r4 : Value} {i0 : Nat} (y : Sat W (blkA K 59 [l, s, k1, k2, k3, k4, k5, k6] * (rowA 99 2 l hs.length (hcs hs) * (all holdA hs * X))) w) (hi0 : i0 ≤ hs.length) (hL : hs.length ≤ 4000000000) (hn : ∀ k h, hs[k]? = some h → h.n ≤ 3000000020 ∧ (i0 ≤ k → h.n ≤ 3000000000)) :
    ∃ hs' w', iter (f25.l5 C) [.pointer (some ⟨K, 0, none⟩), r4, .int .i64 hs.length, .int .i64 i0] w = some (.exit 8 [.pointer (some ⟨K, 0, none⟩), r4] w') ∧ hs'.length = hs.length ∧ (∀ h ∈ hs', h.n ≤ 3000000020) ∧
      Sat W (blkA K 59 [l, s, k1, k2, k3, k4, k5, k6] * (rowA 99 2 l hs'.length (hcs hs') * (all holdA hs' * X))) w' := by
  generalize hLL : hs.length = L at *
  have key := iter_down (f := f25.l5 C) (fun d vs w1 => ∃ (i : Nat) (hs' : List Hold), vs = [.pointer (some ⟨K, 0, none⟩), r4, .int .i64 L, .int .i64 i] ∧ i + d = L ∧ hs'.length = L ∧ (∀ k h, hs'[k]? = some h → h.n ≤ 3000000020 ∧ (i ≤ k → h.n ≤ 3000000000)) ∧ Sat W (blkA K 59 [l, s, k1, k2, k3, k4, k5, k6] * (rowA 99 2 l hs'.length (hcs hs') * (all holdA hs' * X))) w1)
    (fun r => ∃ (hs' : List Hold) (w1 : World), r = .exit 8 [.pointer (some ⟨K, 0, none⟩), r4] w1 ∧ hs'.length = L ∧ (∀ h ∈ hs', h.n ≤ 3000000020) ∧ Sat W (blkA K 59 [l, s, k1, k2, k3, k4, k5, k6] * (rowA 99 2 l hs'.length (hcs hs') * (all holdA hs' * X))) w1) (by
      rintro d vs w1 ⟨i, hs', rfl, hi, hl', hb, yy⟩
      cases d with
      | zero =>
        obtain rfl : i = L := by omega
        refine .inr ⟨_, ?_, ⟨hs', w1, rfl, hl', fun h hh => ?_, yy⟩, by simp⟩
        · simp (disch := omega) [f25.l5, lt_f]
        · obtain ⟨k, hk⟩ := List.getElem?_of_mem hh
          exact (hb k h hk).1
      | succ d =>
        have hil : i < hs'.length := by omega
        obtain ⟨h, hh⟩ : ∃ h, hs'[i]? = some h := ⟨_, List.getElem?_eq_getElem hil⟩
        obtain ⟨h', w2, s1, n2, y2⟩ := grow_l4 (r4 := r4) (v11 := .int .i64 L) yy hh (by omega) ((hb i h hh).2 (Nat.le_refl _))
        have e2 : IntKind.i64.wrap ((i : Int) + 1) = ((i + 1 : Nat) : Int) := (wrap_i64 (by omega) (by omega)).trans (by omega)
        have hlt : (i : Int) < (L : Int) := by omega
        refine .inl ⟨d, _, w2, by omega, ?_, ⟨i + 1, hs'.set i h', rfl, by omega, by rw [List.length_set]; exact hl', fun k x hx => ?_, y2⟩⟩
        · simp [f25.l5, hlt, s1, e2]
        · by_cases hki : i = k
          · subst hki
            rw [List.getElem?_set_self hil] at hx
            cases hx
            have := (hb i h hh).2 (Nat.le_refl _)
            exact ⟨by omega, fun h => by omega⟩
          · rw [List.getElem?_set_ne hki] at hx
            exact ⟨(hb k x hx).1, fun h => (hb k x hx).2 (by omega)⟩) (L - i0) _ w ⟨i0, hs, rfl, by omega, hLL, hn, by rw [hLL]; exact y⟩
  obtain ⟨r, h3, hs', w3, rfl, h4, h5, y3⟩ := key
  exact ⟨hs', w3, h3, h4, h5, y3⟩
end
end Go.Sh.Ytokpgallfmpmkaa
