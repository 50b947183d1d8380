/- The layer 'Sh': lists of rows, each in memory of its own. No condition but those that each statement names. -/
import Derived.Test.YtkghbcadnbojgaaGreatDoorShRows
namespace Go.Sh
open Go Go.RowKit
set_option linter.unusedVariables false
/-- rows, each in memory of its own: a slice, and what it holds -/
structure Rows (w : World) (base : Nat) (e : TypeId) (q : List (Value × List Value)) : Prop where
  own : ∀ p ∈ q, w.ownsRow base e 1 p.1 p.2.length p.2
  dis : ∀ (i j : Nat) p p', q[i]? = some p → q[j]? = some p' → i ≠ j → ∀ k, p.1.ownBlock = some k → p'.1.ownBlock ≠ some k
def rfp (q : List (Value × List Value)) : Nat → Prop := fun k => ∃ p ∈ q, p.1.ownBlock = some k
section
variable {w w' : World} {base : Nat} {e e' : TypeId} {q : List (Value × List Value)} {S : Nat → Prop}
theorem Rows.nil : Rows w base e [] := ⟨by simp, by simp⟩
theorem Rows.grew (h : Rows w base e q) (hg : Grew S w w') (hn : ∀ k, rfp q k → ¬ S k) : Rows w' base e q :=
  ⟨fun p hp => own_grew (h.own p hp) hg fun k hk => hn k ⟨p, hp, hk⟩, h.dis⟩
theorem Rows.new (h : Rows w base e q) (hg : w.grownBy w' none) : Rows w' base e q := h.grew (grew_new (S := fun _ => False) hg) fun _ _ h => h
theorem Rows.ge (h : Rows w base e q) {k : Nat} (hk : rfp q k) : base ≤ k ∧ k < w.heap.size := by
  obtain ⟨p, hp, hk⟩ := hk
  exact (h.own p hp).lt k hk
theorem Rows.ne_blk (h : Rows w base e q) {b : Nat} {cs : List Value} (hb : Blk w b e' cs) (hne : e ≠ e') : ¬ rfp q b := by
  rintro ⟨p, hp, hk⟩
  exact own_blk_ne (h.own p hp) hb hne hk
theorem Rows.ne_own (h : Rows w base e q) {base' size n : Nat} {v : Value} {xs : List Value} (ho : w.ownsRow base' e' size v n xs) (hne : e ≠ e') {k : Nat} (hk : v.ownBlock = some k) : ¬ rfp q k := by
  rintro ⟨p, hp, hk'⟩
  exact own_own_ne (h.own p hp) ho hne hk' hk
theorem Rows.ne_rows (h : Rows w base e q) {base' : Nat} {q' : List (Value × List Value)} (h' : Rows w base' e' q') (hne : e ≠ e') {k : Nat} (hk : rfp q' k) : ¬ rfp q k := by
  obtain ⟨p, hp, hk'⟩ := hk
  exact h.ne_own (h'.own p hp) hne hk'
theorem Rows.push (h : Rows w base e q) {p : Value × List Value} (o : w.ownsRow base e 1 p.1 p.2.length p.2) (hd : ∀ k, p.1.ownBlock = some k → ¬ rfp q k) : Rows w base e (q ++ [p]) := by
  refine ⟨fun p' hp => ?_, fun i j x y hi hj hne k hx hy => ?_⟩
  · simp only [List.mem_append, List.mem_singleton] at hp
    rcases hp with hp | rfl
    · exact h.own p' hp
    · exact o
  · have li := (List.getElem?_eq_some_iff.mp hi).1
    have lj := (List.getElem?_eq_some_iff.mp hj).1
    simp only [List.length_append, List.length_singleton] at li lj
    by_cases i1 : i < q.length
    · rw [List.getElem?_append_left i1] at hi
      by_cases j1 : j < q.length
      · rw [List.getElem?_append_left j1] at hj
        exact h.dis i j x y hi hj hne k hx hy
      · rw [List.getElem?_append_right (by omega), show j - q.length = 0 by omega] at hj
        simp at hj
        subst hj
        exact hd k hy ⟨x, List.mem_of_getElem? hi, hx⟩
    · rw [List.getElem?_append_right (by omega), show i - q.length = 0 by omega] at hi
      simp at hi
      subst hi
      by_cases j1 : j < q.length
      · rw [List.getElem?_append_left j1] at hj
        exact hd k hx ⟨y, List.mem_of_getElem? hj, hy⟩
      · omega
theorem Rows.set (h : Rows w base e q) {i : Nat} {p p' : Value × List Value} (hi : q[i]? = some p) (hg : Grew (fun k => p.1.ownBlock = some k) w w') (o : w'.ownsRow base e 1 p'.1 p'.2.length p'.2)
    (hk : ∀ k, p'.1.ownBlock = some k → p.1.ownBlock = some k ∨ w.heap.size ≤ k) : Rows w' base e (q.set i p') := by
  have hil := (List.getElem?_eq_some_iff.mp hi).1
  have other : ∀ j x, q[j]? = some x → i ≠ j → ∀ k, x.1.ownBlock = some k → p.1.ownBlock ≠ some k := fun j x hj hne k hx hp => h.dis i j p x hi hj hne k hp hx
  refine ⟨fun x hx => ?_, fun a b x y ha hb hne k hx hy => ?_⟩
  · obtain ⟨j, hj⟩ := List.getElem?_of_mem hx
    by_cases hij : i = j
    · subst hij
      rw [List.getElem?_set_self hil] at hj
      cases hj
      exact o
    · rw [List.getElem?_set_ne hij] at hj
      exact own_grew (h.own x (List.mem_of_getElem? hj)) hg fun k hk => other j x hj hij k hk
  · by_cases hia : i = a
    · subst hia
      rw [List.getElem?_set_self hil] at ha
      cases ha
      rw [List.getElem?_set_ne hne] at hb
      rcases hk k hx with h1 | h1
      · exact other b y hb hne k hy h1
      · have := ((h.own y (List.mem_of_getElem? hb)).lt k hy).2; omega
    · rw [List.getElem?_set_ne hia] at ha
      by_cases hib : i = b
      · subst hib
        rw [List.getElem?_set_self hil] at hb
        cases hb
        rcases hk k hy with h1 | h1
        · exact other a x ha hia k hx h1
        · have := ((h.own x (List.mem_of_getElem? ha)).lt k hx).2; omega
      · rw [List.getElem?_set_ne hib] at hb
        exact h.dis a b x y ha hb hne k hx hy
theorem Rows.part (h : Rows w base e q) {i : Nat} {p : Value × List Value} (hi : q[i]? = some p) : w.ownsRow base e 1 p.1 p.2.length p.2 := h.own p (List.mem_of_getElem? hi)
end
/-- one element put behind a row of one-cell elements, out of a new block -/
theorem own_push {P : Program} {w : World} {base : Nat} {t ty e : TypeId} {i : TypeInfo} {z : Value} {bytes : Nat} (ht : P.underlying t = some (.slice e)) (hi : P.info? e = some i) (hz : i.zero = some z)
    (hsize : i.size = 1) (hby : i.bytes = bytes) (hzs : z.cells.size = 1) {v : Value} {n : Nat} {xs : List Value} (hown : w.ownsRow base e 1 v n xs) {x : Value} (ho : x.oneCell' = true)
    (h63 : n + 1 ≤ maxLen) (hbytes : (n + 1) * bytes ≤ 140737488355328) (hbase : base ≤ w.heap.size) :
    ∃ v' w', erun P (Builtin.append_ #[t, t] ty #[v, .slice (some ⟨w.heap.size, 0, none⟩) 1 1]) (w.alloc (.cells #[x] e)) = some (v', w') ∧ w'.ownsRow base e 1 v' (n + 1) (xs ++ [x]) ∧ w.grownBy w' v.ownBlock ∧ (∀ k, v'.ownBlock = some k → v.ownBlock = some k ∨ w.heap.size ≤ k) := by
  have g1 := World.grownBy_alloc w (.cells #[x] e) none
  have r1 : Rd (w.alloc (.cells #[x] e)) (some ⟨w.heap.size, 0, none⟩) [x] := by
    intro j v hj
    rw [addL, Nat.zero_add, World.cell?_alloc_new]
    simpa using hj
  obtain ⟨v', w', h1, h2, h3, h4⟩ := e_append2 (P := P) (ty := ty) ht hi hz hsize hby hzs (by decide) (hown.alloc (.cells #[x] e)) (m := 1) (c := 1) (news := [x]) rfl r1 (fun h => by cases h) (by simpa using ho) h63 hbytes (by simp; omega)
  exact ⟨v', w', h1, h2, grown_step (grown_weak g1 _) h3, fun k hk => (h4 k hk).imp id fun h => by simp at h; omega⟩
end Go.Sh
