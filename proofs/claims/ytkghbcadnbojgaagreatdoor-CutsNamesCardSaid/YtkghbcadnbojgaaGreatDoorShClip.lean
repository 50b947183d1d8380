/- The layer 'Sh': rows beside one another: writes, elements put behind. Conditions: those of each statement. -/
import Derived.Test.YtkghbcadnbojgaaGreatDoorShSep
import Derived.Test.YtkghbcadnbojgaaGreatDoorShStruct
import Derived.ArgAppend
namespace Go.Sh
open Go Go.RowKit
set_option linter.unusedVariables false
set_option linter.unusedSimpArgs false
/-- a run that changes what one clipped row holds -/
theorem Sat.clipStep {W w : World} {X : Asn W.heap.size} {e : TypeId} {sz n : Nat} {v : Value} {xs : List Value} (s : Sat W (clipA e sz v n xs * X) w) : ∃ A c, v = .slice A n n ∧ n ≤ c ∧ w.ownsRow W.heap.size e sz (.slice A n c) n xs ∧
    ∀ w' xs', w.grownBy w' v.ownBlock → w'.ownsRow W.heap.size e sz (.slice A n c) n xs' → Sat W (clipA e sz v n xs' * X) w' := by
  obtain ⟨g, S, T, B, d, e, ⟨⟨A, c, hv, hc, p⟩, hT⟩, q⟩ := s
  subst hT
  refine ⟨A, c, hv, hc, p, fun w' xs' hg h => ?_⟩
  have hg' : Grew (fun k => v.ownBlock = some k) w w' := grew_of hg fun k hk => .inl hk
  exact ⟨g.trans hg' fun k hk => .inr (p.lt k (by rw [hv] at hk; cases A <;> exact hk)).1, fun k => v.ownBlock = some k ∨ B k, fun k => v.ownBlock = some k, B, d, rfl, ⟨⟨A, c, hv, hc, h⟩, rfl⟩, X.frame q hg' fun k hB hk => d k hk hB⟩
/-- one cell of a row that is owned -/
theorem own_put {P : Program} {w : World} {base n c sz : Nat} {e : TypeId} {A : Option Addr} {xs : List Value} (h : w.ownsRow base e sz (.slice A n c) n xs) {t : TypeId} {i : TypeInfo} (hi : P.info? t = some i) (hs : i.size = 1) {j : Nat} (hj : j < n * sz) {v : Value} (hv : v.cells = #[v]) (ho : v.oneCell' = true) :
    ∃ a w', A = some a ∧ base ≤ a.block ∧ erun P (Instr.storeAt t (.pointer (some (a.add j))) v) w = some ((), w') ∧ w'.ownsRow base e sz (.slice A n c) n (xs.set j v) ∧ w.grownBy w' (some a.block) := by
  rcases h.2 with ⟨h1, h2⟩ | ⟨g, cap, cur, hv', hb, _⟩
  · subst h2; simp at hj
  · simp only [Value.slice.injEq, true_and] at hv'
    obtain ⟨rfl, rfl⟩ := hv'
    have hx : xs.length = n * sz := h.1
    have hc := h.cellAt j hj
    rw [List.getElem?_eq_getElem (by omega)] at hc
    obtain ⟨s1, s2⟩ := h.stored j v
    exact ⟨_, _, rfl, hb, by rw [addL, Nat.zero_add]; exact store_one hi hs hv ho hc (h.frozenAt j), s1, s2⟩
/-- some cells of a row that is owned, at once -/
theorem own_putAll {P : Program} {w : World} {base n c sz : Nat} {e : TypeId} {A : Option Addr} {xs : List Value} (h : w.ownsRow base e sz (.slice A n c) n xs) {t : TypeId} {i : TypeInfo} (hi : P.info? t = some i) {j : Nat} {v : Value} {vs : List Value} (hv : v.cells = vs.toArray) (hs : vs.length = i.size) (hj : j + vs.length ≤ n * sz) (hpos : 0 < n) (ho : ∀ u ∈ vs, u.oneCell' = true) :
    ∃ a w', A = some a ∧ base ≤ a.block ∧ erun P (Instr.storeAt t (.pointer (some (a.add j))) v) w = some ((), w') ∧ w'.ownsRow base e sz (.slice A n c) n (xs.take j ++ vs ++ xs.drop (j + vs.length)) ∧ w.grownBy w' (some a.block) := by
  rcases h.2 with ⟨h1, h2⟩ | ⟨g, cap, cur, hv', hb, hg, hnc, hcm, hcs, htake⟩
  · omega
  · simp only [Value.slice.injEq, true_and] at hv'
    obtain ⟨rfl, rfl⟩ := hv'
    have hx : xs.length = n * sz := h.1
    have hle : n * sz ≤ c * sz := Nat.mul_le_mul_right _ hnc
    have hcl : cur.toList.length = c * sz := by rw [Array.length_toList, hcs]
    obtain ⟨w', h1, h2, h3⟩ := Blk.storeAll (P := P) (w := w) (b := g) (e := e) (cs := cur.toList) (by unfold Blk; simpa using hg) hi (o := j) hv hs (by omega) ho rfl
    refine ⟨_, w', rfl, hb, by rw [addL, Nat.zero_add]; exact h1, ⟨?_, .inr ⟨g, c, _, rfl, hb, h2, hnc, hcm, ?_, ?_⟩⟩, h3⟩
    · simp only [List.length_append, List.length_take, List.length_drop]; omega
    · simp only [List.size_toArray, List.length_append, List.length_take, List.length_drop]; omega
    · rw [← htake]
      have l1 : (cur.toList.take j).length = j := by rw [List.length_take]; omega
      simp only []
      rw [List.take_append, List.take_of_length_le (by rw [List.length_append, l1]; omega), List.length_append, l1, List.take_take, Nat.min_eq_left (by omega), List.drop_take]
theorem Sat.clipPut {P : Program} {W w : World} {X : Asn W.heap.size} {e : TypeId} {sz n : Nat} {v : Value} {xs : List Value} (s : Sat W (clipA e sz v n xs * X) w) {t : TypeId} {i : TypeInfo} (hi : P.info? t = some i) (hs : i.size = 1) {j : Nat} (hj : j < n * sz) {u : Value} (hv : u.cells = #[u]) (ho : u.oneCell' = true) :
    ∃ a w', v = .slice (some a) n n ∧ erun P (Instr.storeAt t (.pointer (some (a.add j))) u) w = some ((), w') ∧ Sat W (clipA e sz v n (xs.set j u) * X) w' := by
  obtain ⟨A, c, rfl, hc, p, k⟩ := s.clipStep
  obtain ⟨a, w', rfl, _, h1, h2, h3⟩ := own_put (P := P) p hi hs hj hv ho
  exact ⟨a, w', rfl, h1, k w' _ h3 h2⟩
theorem Sat.clipPutAll {P : Program} {W w : World} {X : Asn W.heap.size} {e : TypeId} {sz n : Nat} {v : Value} {xs : List Value} (s : Sat W (clipA e sz v n xs * X) w) {t : TypeId} {i : TypeInfo} (hi : P.info? t = some i) {j : Nat} {u : Value} {vs : List Value} (hv : u.cells = vs.toArray) (hs : vs.length = i.size) (hj : j + vs.length ≤ n * sz) (hpos : 0 < n) (ho : ∀ u ∈ vs, u.oneCell' = true) :
    ∃ a w', v = .slice (some a) n n ∧ erun P (Instr.storeAt t (.pointer (some (a.add j))) u) w = some ((), w') ∧ Sat W (clipA e sz v n (xs.take j ++ vs ++ xs.drop (j + vs.length)) * X) w' := by
  obtain ⟨A, c, rfl, hc, p, k⟩ := s.clipStep
  obtain ⟨a, w', rfl, _, h1, h2, h3⟩ := own_putAll (P := P) p hi hv hs hj hpos ho
  exact ⟨a, w', rfl, h1, k w' _ h3 h2⟩
/-- one cell of a row -/
theorem Sat.put {P : Program} {W w : World} {X : Asn W.heap.size} {e : TypeId} {sz n : Nat} {v : Value} {xs : List Value} (s : Sat W (rowA e sz v n xs * X) w) {t : TypeId} {i : TypeInfo} (hi : P.info? t = some i) (hs : i.size = 1) {j : Nat} (hj : j < n * sz) {u : Value} (hv : u.cells = #[u]) (ho : u.oneCell' = true) :
    ∃ a c w', v = .slice (some a) n c ∧ erun P (Instr.storeAt t (.pointer (some (a.add j))) u) w = some ((), w') ∧ Sat W (rowA e sz v n (xs.set j u) * X) w' := by
  obtain ⟨A, c, rfl, hc⟩ := own_form s.row
  obtain ⟨a, w', rfl, _, h1, h2, h3⟩ := own_put (P := P) s.row hi hs hj hv ho
  exact ⟨a, c, w', rfl, h1, s.rowStep h3 h2 fun k hk => .inl hk⟩
section
variable {P : Program} {W w : World} {X : Asn W.heap.size}
/-- an element put behind a row -/
theorem Sat.push {t ty e : TypeId} {i : TypeInfo} {z : Value} {size bytes : Nat} (ht : P.underlying t = some (.slice e)) (hi : P.info? e = some i) (hz : i.zero = some z) (hsize : i.size = size) (hby : i.bytes = bytes) (hzs : z.cells.size = size) (hsz : 0 < size)
    {v : Value} {n : Nat} {xs : List Value} (x : Sat W (rowA e size v n xs * X) w) {news : List Value} (hl : news.length = size) (h1 : ∀ u ∈ news, u.oneCell' = true) (hm : n + 1 ≤ maxLen) (hbytes : (n + 1) * bytes ≤ 140737488355328) :
    ∃ v' w', erun P (Builtin.append_ #[t, t] ty #[v, .slice (some ⟨w.heap.size, 0, none⟩) 1 1]) (w.alloc (.cells news.toArray e)) = some (v', w') ∧ Sat W (rowA e size v' (n + 1) (xs ++ news) * X) w' := by
  have x1 := x.alloc_ge (.cells news.toArray e)
  have r1 : Rd (w.alloc (.cells news.toArray e)) (some ⟨w.heap.size, 0, none⟩) news := by
    intro j v hj
    rw [addL, Nat.zero_add, World.cell?_alloc_new]
    simpa using hj
  obtain ⟨v', w', k1, k2, k3, k4⟩ := e_append2 (P := P) (ty := ty) ht hi hz hsize hby hzs hsz x1.row (m := 1) (c := 1) (news := news) (by omega) r1 (fun h => by cases h) h1 hm hbytes x1.size
  exact ⟨v', w', k1, x1.rowStep k3 k2 k4⟩
/-- an element put behind a row that came out clipped: the longer one lies in new memory -/
theorem Sat.pushClip {t ty e : TypeId} {i : TypeInfo} {z : Value} {size bytes : Nat} (ht : P.underlying t = some (.slice e)) (hi : P.info? e = some i) (hz : i.zero = some z) (hsize : i.size = size) (hby : i.bytes = bytes) (hzs : z.cells.size = size) (hsz : 0 < size)
    {v : Value} {n : Nat} {xs : List Value} (x : Sat W (clipA e size v n xs * X) w) {news : List Value} (hl : news.length = size) (h1 : ∀ u ∈ news, u.oneCell' = true) (hm : n + 1 ≤ maxLen) (hbytes : (n + 1) * bytes ≤ 140737488355328) :
    ∃ v' w', erun P (Builtin.append_ #[t, t] ty #[v, .slice (some ⟨w.heap.size, 0, none⟩) 1 1]) (w.alloc (.cells news.toArray e)) = some (v', w') ∧ Sat W (rowA e size v' (n + 1) (xs ++ news) * X) w' := by
  have x1 := x.alloc_ge (.cells news.toArray e)
  have g1 := World.grownBy_alloc w (.cells news.toArray e) none
  obtain ⟨A, c, rfl, hc, own1⟩ := x1.clip
  have r1 : Rd (w.alloc (.cells news.toArray e)) (some ⟨w.heap.size, 0, none⟩) news := by
    intro j v hj
    rw [addL, Nat.zero_add, World.cell?_alloc_new]
    simpa using hj
  have hxs : xs.length = n * size := own1.1
  rcases own1.2 with ⟨he, hn⟩ | ⟨g, cap, cur, hv, hbg, hg, hnc, hcm, hcs, htake⟩
  · subst hn
    have hx : xs = [] := List.eq_nil_of_length_eq_zero (by omega)
    subst hx
    simp only [Value.slice.injEq] at he
    obtain ⟨rfl, _, _⟩ := he
    obtain ⟨v2, w2, k2, k3, k4⟩ := e_append (P := P) ht hi hz hsize hby hzs hsz (World.ownsRow_nil (w.alloc (.cells news.toArray e)) (w.alloc (.cells news.toArray e)).heap.size e size) (ty := ty) (A := some ⟨w.heap.size, 0, none⟩) (m := 1) (c := 1) (news := news) (by omega) r1 (fun h => by cases h) h1 (by omega) (by omega) (Nat.le_refl _)
    exact ⟨v2, w2, k2, x1.right.newRow k4 k3⟩
  · simp only [Value.slice.injEq, true_and] at hv
    obtain ⟨rfl, rfl⟩ := hv
    subst hsize
    subst hby
    have holds : ∀ j u, xs[j]? = some u → (w.alloc (.cells news.toArray e)).cell? ((⟨g, 0, none⟩ : Addr).add j) = some u := own1.cells (g := g) rfl
    obtain ⟨v', w', k1, k2, k3⟩ := run_append_arg_grows (P := P) (w.alloc (.cells news.toArray e)) t ty e i z i.size i.bytes ht hi hz rfl rfl hzs hsz ⟨g, 0, none⟩ n n xs hxs holds ⟨w.heap.size, 0, none⟩ 1 1 news (by omega) r1 (by omega) (by omega) hbytes
    exact ⟨v', w', erun_of_run k1, x1.right.newRow k3 k2⟩
end
end Go.Sh
