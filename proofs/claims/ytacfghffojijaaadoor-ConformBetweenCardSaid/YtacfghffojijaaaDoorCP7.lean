/- dailieslaw20.small: what it answers. Conditions: those of each statement. -/
import Derived.Test.YtacfghffojijaaaDoorCP6
namespace Go.Sh.YtacfghffojijaaaDoor
open Go Go.Proofs Go.RowKit
set_option linter.unusedVariables false
set_option linter.unusedSimpArgs false
set_option maxRecDepth 100000
theorem fr_rd {w : World} {base : Nat} {A : Option Addr} {c : Nat} {q : List (Value × List Value)} (h : Fr w base (.slice A q.length c) q) : Rd w A (q.map (·.1)) := by
  cases A with
  | none =>
    show q.map (·.1) = []
    cases q with
    | nil => rfl
    | cons p q =>
      obtain ⟨a, e, _⟩ := own_cell h.row (j := 0) (v := p.1) (by simp)
      cases e
  | some a =>
    intro j v hv
    obtain ⟨a', e, hc⟩ := own_cell h.row (j := j) (v := v) hv
    cases e
    exact hc
theorem row_rd {w : World} {base n c : Nat} {A : Option Addr} {xs : List Value} (h : w.ownsRow base 39 1 (.slice A n c) n xs) : Rd w A xs := by
  cases A with
  | none =>
    show xs = []
    cases xs with
    | nil => rfl
    | cons p q =>
      obtain ⟨a, e, _⟩ := own_cell h (j := 0) (v := p) (by simp)
      cases e
  | some a =>
    intro j v hv
    obtain ⟨a', e, hc⟩ := own_cell h (j := j) (v := v) hv
    cases e
    exact hc
/-- planes of a frame, as planes that came in -/
theorem fr_pl {w : World} {base : Nat} {A : Option Addr} {c : Nat} {q : List (Value × List Value)} (h : Fr w base (.slice A q.length c) q) (F : Nat → List Int) (hF : ∀ (p : Nat) r, q[p]? = some r → (∃ P, r.1 = .slice P (F p).length (F p).length) ∧ r.2 = uv (F p) ∧ (F p).length ≤ 9223372036854775807 ∧ ∀ v ∈ F p, 0 ≤ v ∧ v ≤ 65535) :
    ∃ ql : List Pl, ql.length = q.length ∧ (∀ p x, ql[p]? = some x → x.l = F p) ∧ Rd w A (ql.map Pl.v) ∧ ∀ x ∈ ql, x.ok w := by
  have key : ∀ (k : Nat), k ≤ q.length → ∃ ql : List Pl, ql.length = k ∧ (∀ p x, ql[p]? = some x → x.l = F p) ∧ ql.map Pl.v = (q.take k).map (·.1) ∧ ∀ x ∈ ql, x.ok w := by
    intro k
    induction k with
    | zero => exact fun _ => ⟨[], rfl, by simp, by simp, by simp⟩
    | succ k ih =>
      intro hk
      obtain ⟨ql, h1, h2, h3, h4⟩ := ih (by omega)
      obtain ⟨r, hr⟩ : ∃ r, r = q[k] := ⟨_, rfl⟩
      have hqk : q[k]? = some r := by rw [hr]; exact List.getElem?_eq_getElem (by omega)
      obtain ⟨⟨P, hP⟩, hu, hl, hv⟩ := hF k r hqk
      refine ⟨ql ++ [⟨P, (F k).length, F k⟩], by simp [h1], fun p x hp => ?_, ?_, fun x hx => ?_⟩
      · by_cases hpk : p < ql.length
        · rw [List.getElem?_append_left hpk] at hp
          exact h2 p x hp
        · have : p = k := by have := (List.getElem?_eq_some_iff.mp hp).1; simp at this; omega
          subst this
          rw [List.getElem?_append_right (by omega), h1, Nat.sub_self] at hp
          simp at hp
          rw [← hp]
      · rw [List.take_add_one, hqk]
        simp [h3, Pl.v, hP]
      · rcases List.mem_append.mp hx with hx | hx
        · exact h4 x hx
        · simp at hx
          subst hx
          have o := h.pl.part hqk
          rw [hP, hu] at o
          have hlu : (uv (F k)).length = (F k).length := by simp [uv]
          rw [hlu] at o
          exact ⟨row_rd o, Nat.le_refl _, hl, hv⟩
  obtain ⟨ql, h1, h2, h3, h4⟩ := key q.length (Nat.le_refl _)
  rw [List.take_length] at h3
  exact ⟨ql, h1, h2, by rw [h3]; exact fr_rd h, h4⟩
def sz (p : Nat) : Nat := if p = 0 then 256 else 128
theorem sz_le (p : Nat) : 128 ≤ sz p ∧ sz p ≤ 256 := by unfold sz; split <;> omega
theorem small_l0 {v : Int} (x2 x3 x4 : Value) {w0 : World} {base n : Nat} {A : Option Addr} {xs : List Value} (o : w0.ownsRow base 39 1 (.slice A n n) n xs) (hn : n ≤ 1000) :
    ∃ w', iter (f14.l0 C) [.int .u16 v, x2, x3, x4, .int .i64 n, .slice A n n, .int .i64 0] w0 = some (.exit 2 [.int .u16 v, x2, x3, x4, .slice A n n] w') ∧ w'.ownsRow base 39 1 (.slice A n n) n (List.replicate n (.int .u16 v)) ∧ Grew (fun k => (Value.slice A n n).ownBlock = some k) w0 w' := by
  have hxs : xs.length = n := by simpa using o.1
  have key := iter_down (f := f14.l0 C) (fun d st w1 => ∃ (j : Nat) (ys : List Value), st = [.int .u16 v, x2, x3, x4, .int .i64 n, .slice A n n, .int .i64 j] ∧ j + d = n ∧ ys.length = d ∧ w1.ownsRow base 39 1 (.slice A n n) n (List.replicate j (.int .u16 v) ++ ys) ∧ Grew (fun k => (Value.slice A n n).ownBlock = some k) w0 w1)
    (fun r => ∃ w1, r = .exit 2 [.int .u16 v, x2, x3, x4, .slice A n n] w1 ∧ w1.ownsRow base 39 1 (.slice A n n) n (List.replicate n (.int .u16 v)) ∧ Grew (fun k => (Value.slice A n n).ownBlock = some k) w0 w1) (by
      rintro d st w1 ⟨j, ys, rfl, hj, hys, E, G⟩
      cases d with
      | zero =>
        obtain rfl : j = n := by omega
        have : ys = [] := by simpa using hys
        subst this
        rw [List.append_nil] at E
        exact .inr ⟨_, by simp [f14.l0], ⟨w1, rfl, E, G⟩, by simp⟩
      | succ d =>
        cases ys with
        | nil => simp at hys
        | cons z ys =>
          obtain ⟨pa, w2, e, hba, s2, o2, g2⟩ := own_store (P := Tryd.prog) E (t := 39) inf39 size39 (j := j) (by omega) (v := .int .u16 v) rfl rfl
          subst e
          have hset : (List.replicate j (Value.int .u16 v) ++ z :: ys).set j (.int .u16 v) = List.replicate (j + 1) (.int .u16 v) ++ ys := by
            rw [List.set_append_right _ _ (by simp), List.length_replicate, Nat.sub_self, List.set_cons_zero, List.replicate_succ']
            simp
          rw [hset] at o2
          have i5 := ix38 pa n n .i64 j (by omega) (by omega)
          simp only [Int.toNat_natCast, Nat.mul_one] at i5
          have e3 : IntKind.i64.wrap ((j : Int) + 1) = ((j + 1 : Nat) : Int) := (wrap_i64 (by omega) (by omega)).trans (by omega)
          refine .inl ⟨d, _, w2, by omega, ?_, ⟨j + 1, ys, rfl, by omega, by simpa using hys, o2, G.step (grew_of g2 fun k hk => .inl hk)⟩⟩
          simp (disch := omega) [f14.l0, lt_t, i5, s2, e3]) n _ w0 ⟨0, xs, rfl, by omega, hxs, by simpa using o, Grew.refl _ _⟩
  obtain ⟨r, h1, w1, rfl, o1, G1⟩ := key
  exact ⟨w1, h1, o1, G1⟩
theorem small_l1 {v : Int} {f s : Nat} {w0 : World} :
    ∀ (d : Nat) (st : List Value) (w : World), (∃ (i : Nat) (V : Value) (q : List (Value × List Value)), st = [.int .u16 v, .pointer (some ⟨s, 0, none⟩), .pointer (some ⟨f, 0, none⟩), .int .i64 i] ∧ i + d = 3 ∧ q.length = i ∧ (∀ p x, q[p]? = some x → ∃ (A : Option Addr), x = (.slice A (sz p) (sz p), List.replicate (sz p) (.int .u16 v))) ∧ Fr w w0.heap.size V q ∧ Blk w f 30 (fcs 16 16 10 false V) ∧ Grew (fun k => k = f) w0 w) →
    ∃ r, iter (f14.l1 C) st w = some r ∧ ∃ V q w', r = .exit 0 [.pointer (some ⟨s, 0, none⟩), .pointer (some ⟨f, 0, none⟩)] w' ∧ q.length = 3 ∧ (∀ p x, q[p]? = some x → ∃ (A : Option Addr), x = (.slice A (sz p) (sz p), List.replicate (sz p) (.int .u16 v))) ∧ Fr w' w0.heap.size V q ∧ Blk w' f 30 (fcs 16 16 10 false V) ∧ Grew (fun k => k = f) w0 w' := by
  refine iter_down _ _ ?_
  rintro d st w ⟨i, V, q, rfl, hi, hq, hall, F, bf, G⟩
  cases d with
  | zero =>
    obtain rfl : i = 3 := by omega
    exact .inr ⟨_, by simp [f14.l1], ⟨V, q, w, rfl, hq, hall, F, bf, G⟩, by simp⟩
  | succ d =>
    obtain ⟨n, hn⟩ : ∃ n, n = sz i := ⟨_, rfl⟩
    have hn1 := sz_le i
    obtain ⟨w2, m1, m2, m3⟩ := mk38 (w := w) w.heap.size n (by omega) (by simp [maxLen]; omega) (Nat.le_refl _)
    rw [made_samples] at m2
    obtain ⟨w3, l3, o3, G3⟩ := small_l0 (v := v) (.pointer (some ⟨s, 0, none⟩)) (.pointer (some ⟨f, 0, none⟩)) (.int .i64 i) m2 (by omega)
    have hself : (Value.slice (some ⟨w.heap.size, 0, none⟩) n n).ownBlock = some w.heap.size ∨ (Value.slice (some ⟨w.heap.size, 0, none⟩) n n).ownBlock = none := by simp [Value.ownBlock]
    have g3 : w.grownBy w3 none := ((grew_new (S := fun k => w.heap.size ≤ k) m3).step (G3.weak fun k hk => .inl (by simp [Value.ownBlock] at hk; omega))).toNew fun _ h => h
    have b3f := bf.grown g3 (by simp)
    have F3 := F.new g3
    have Gw3 := G.step (grew_new g3)
    have hlr : (List.replicate n (Value.int .u16 v)).length = n := by simp
    obtain ⟨V', w4, w5, p1, p2, F5, b5f, G5, cV, k5⟩ := F3.push b3f (p := (.slice (some ⟨w.heap.size, 0, none⟩) n n, List.replicate n (.int .u16 v))) (by
        show w3.ownsRow w0.heap.size 39 1 (.slice (some ⟨w.heap.size, 0, none⟩) n n) (List.replicate n (Value.int .u16 v)).length (List.replicate n (Value.int .u16 v)); rw [hlr]; exact own_base o3 G.size) (fun k hk hf => by
      have h1 := F.pl.ge hf
      simp [Value.ownBlock] at hk
      omega) (by omega) Gw3.size
    have e3 : IntKind.i64.wrap ((i : Int) + 1) = ((i + 1 : Nat) : Int) := (wrap_i64 (by omega) (by omega)).trans (by omega)
    refine .inl ⟨d, _, w5, by omega, ?_, ⟨i + 1, V', q ++ [(.slice (some ⟨w.heap.size, 0, none⟩) n n, List.replicate n (.int .u16 v))], rfl, by omega, by simp [hq], ?_, F5, b5f, ?_⟩⟩
    · simp only at p1
      by_cases h0 : i = 0
      · subst h0
        have h256 : n = 256 := hn
        subst h256
        have z : ((256 : Nat) : Int) = 256 := rfl
        rw [z] at m1 l3
        simp only [show ((0 : Nat) : Int) = 0 from rfl] at l3
        simp (disch := omega) [f14.l1, lt_t, m1, l3, addL, b3f.cell_eq 4 rfl, bs28_1, p1, p2, show IntKind.i64.wrap 1 = 1 from rfl]
      · have h128 : n = 128 := by rw [hn]; unfold sz; rw [if_neg h0]
        subst h128
        have z : ((128 : Nat) : Int) = 128 := rfl
        rw [z] at m1 l3
        have hp : (0 < i) = True := eq_true (by omega)
        simp (disch := omega) [f14.l1, lt_t, hp, m1, l3, addL, b3f.cell_eq 4 rfl, bs28_1, p1, p2, e3]
    · intro p x hp
      by_cases hpq : p < q.length
      · rw [List.getElem?_append_left hpq] at hp
        exact hall p x hp
      · have hpi : p = i := by have := (List.getElem?_eq_some_iff.mp hp).1; simp at this; omega
        subst hpi
        rw [List.getElem?_append_right (by omega), show p - q.length = 0 by omega] at hp
        simp at hp
        rw [← hn]
        exact ⟨_, hp.symm⟩
    · exact Gw3.trans G5 fun k hk => by
        rcases hk with rfl | hk
        · exact .inl rfl
        · exact .inr (F3.row.lt k hk).1
theorem build27s : prun Tryd.prog (Instr.build 27 #[(0, (Value.int IntKind.i64 16)), (1, (Value.int IntKind.i64 16)), (2, (Value.int IntKind.i64 10))]) = some (sv 16 16 10 false) := id (by kernel_rfl)
theorem small_ok {v : Int} (h0 : 0 ≤ v) (h1 : v ≤ 65535) (w : World) :
    ∃ (A : Option Addr) (c : Nat) (q : List Pl) (w' : World), C 14 #[.int .u16 v] w = some (fv 16 16 10 false A q.length c, w') ∧ q.length = 3 ∧ (∀ p x, q[p]? = some x → x.l = List.replicate (sz p) v) ∧ Rd w' A (q.map Pl.v) ∧ (∀ x ∈ q, x.ok w') ∧ w.grownBy w' none := by
  obtain ⟨W1, hW1⟩ : ∃ W1, W1 = w.alloc (.cells #[.int .i64 0, .int .i64 0, .int .i64 0, .bool false, .slice none 0 0] 30) := ⟨_, rfl⟩
  have g1 : w.grownBy W1 none := hW1 ▸ World.grownBy_alloc w _ none
  have b1 : Blk W1 w.heap.size 30 (fcs 0 0 0 false (.slice none 0 0)) := hW1 ▸ Blk.new w 30 (fcs 0 0 0 false (.slice none 0 0))
  obtain ⟨W2, hW2⟩ : ∃ W2, W2 = W1.alloc (.cells #[.int .i64 0, .int .i64 0, .int .i64 0, .bool false, .slice none 0 0] 30) := ⟨_, rfl⟩
  have g2 : W1.grownBy W2 none := hW2 ▸ World.grownBy_alloc W1 _ none
  have b2 : Blk W2 W1.heap.size 30 (fcs 0 0 0 false (.slice none 0 0)) := hW2 ▸ Blk.new W1 30 (fcs 0 0 0 false (.slice none 0 0))
  have hs1 : W1.heap.size = w.heap.size + 1 := by rw [hW1]; simp
  obtain ⟨w3, s3, b3, g3⟩ := st30 b2 rfl 16 16 10 false none 0 0
  have b3r : Blk w3 w.heap.size 30 (fcs 0 0 0 false (.slice none 0 0)) := (b1.grown g2 (by simp)).grown g3 (by simp; omega)
  have G2 := grown_trans g1 g2 (by simp)
  have G3 : w.grownBy w3 none := grown_trans G2 g3 (fun k hk => by cases hk; omega)
  obtain ⟨r, h5, V, q, w5, rfl, hq, hall, F5, b5, G5⟩ := small_l1 (v := v) (w0 := w3) (f := W1.heap.size) (s := w.heap.size) 3 _ w3 ⟨0, .slice none 0 0, [], rfl, by omega, rfl, by simp, ⟨World.ownsRow_nil _ _ _ _, Rows.nil⟩, b3, Grew.refl _ _⟩
  have b5r := b3r.grew G5 (fun e => by omega)
  obtain ⟨A, c, rfl, _⟩ := own_form F5.row
  obtain ⟨w6, s6, b6, g6⟩ := st30 b5r rfl 16 16 10 false A q.length c
  have G5' : w.grownBy w5 none := ((grew_new (S := fun k => w.heap.size ≤ k) G3).step (G5.weak fun k hk => .inl (by omega))).toNew fun _ h => h
  have F6 := F5.grew (grew_of (S := fun k => k = w.heap.size) g6 fun k hk => by cases hk; exact .inl rfl) fun k hk e => F5.ne_blk b5r (by decide) (by decide) (e ▸ hk)
  obtain ⟨ql, k1, k2, k3, k4⟩ := fr_pl F6 (fun p => List.replicate (sz p) v) (fun p r hr => by
    obtain ⟨P, rfl⟩ := hall p r hr
    have := sz_le p
    refine ⟨⟨P, by simp⟩, by simp [uv], by simp; omega, fun u hu => ?_⟩
    rw [List.eq_of_mem_replicate hu]
    exact ⟨h0, h1⟩)
  refine ⟨A, c, ql, w6, f14.run rfl ?_, by omega, k2, k3, k4, grown_trans G5' g6 fun k hk => by cases hk; omega⟩
  rw [k1]
  rw [hq] at s6 b6 b5 ⊢
  rw [hs1] at s3 h5 b5
  simp at h5
  simp [f14, alloc30, ← hW1, ← hW2, hs1, build27s, build30, s3, h5, ld30b b5, s6, ld30b b6]
end Go.Sh.YtacfghffojijaaaDoor
