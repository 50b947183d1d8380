/- The layer 'Sh': an element put behind a row that has no room. Conditions: those of each statement. -/
import Derived.Test.YtkghbcadnbojgaaGreatDoorShOwn
namespace Go.Sh
open Go Go.RowKit
set_option linter.unusedVariables false
set_option linter.unusedSimpArgs false
theorem iter_once {f : List Value → World → Option Res} {vs vs' : List Value} {w w' : World} (h : f vs w = some (.norm vs' w')) {r : Res} (h' : iter f vs' w' = some r) : iter f vs w = some r := iter_of_rounds (.more h (rounds_of_iter h'))
theorem own_rebase {w : World} {base B : Nat} {e : TypeId} {size n : Nat} {v : Value} {xs : List Value} (h : w.ownsRow base e size v n xs) (hB : ∀ k, v.ownBlock = some k → B ≤ k) : w.ownsRow B e size v n xs := by
  obtain ⟨h0, h1⟩ := h
  refine ⟨h0, ?_⟩
  rcases h1 with h1 | ⟨g, cap, cur, rfl, h2, h3⟩
  · exact .inl h1
  · exact .inr ⟨g, cap, cur, rfl, hB g rfl, h3⟩
/-- one element put behind a row that has no room: the longer one lies in new memory -/
theorem own_push_full {P : Program} {w : World} {base : Nat} {t ty e : TypeId} {i : TypeInfo} {z : Value} {bytes : Nat} (ht : P.underlying t = some (.slice e)) (hi : P.info? e = some i) (hz : i.zero = some z)
    (hsize : i.size = 1) (hby : i.bytes = bytes) (hzs : z.cells.size = 1) {A : Option Addr} {n : Nat} {xs : List Value} (hown : w.ownsRow base e 1 (.slice A n n) n xs) {x : Value} (ho : x.oneCell' = true)
    (h63 : n + 1 ≤ maxLen) (hbytes : (n + 1) * bytes ≤ 140737488355328) (hbase : base ≤ w.heap.size) :
    ∃ v' w', erun P (Builtin.append_ #[t, t] ty #[.slice A n n, .slice (some ⟨w.heap.size, 0, none⟩) 1 1]) (w.alloc (.cells #[x] e)) = some (v', w') ∧ w'.ownsRow w.heap.size e 1 v' (n + 1) (xs ++ [x]) ∧ w.grownBy w' none := by
  have g1 := World.grownBy_alloc w (.cells #[x] e) none
  have r1 : Rd (w.alloc (.cells #[x] e)) (some ⟨w.heap.size, 0, none⟩) [x] := by
    intro j v hj
    rw [addL, Nat.zero_add, World.cell?_alloc_new]
    simpa using hj
  have own1 := hown.alloc (.cells #[x] e)
  rcases own1.2 with ⟨he, hn⟩ | ⟨g, cap, cur, hv, hbg, hg, hnc, hcm, hcs, htake⟩
  · subst hn
    have hx : xs = [] := by have := hown.1; simpa using this
    subst hx
    rw [he]
    obtain ⟨v2, w2, k2, k3, k4⟩ := e_append (P := P) ht hi hz hsize hby hzs (by decide) (World.ownsRow_nil (w.alloc (.cells #[x] e)) w.heap.size e 1) (ty := ty) (A := some ⟨w.heap.size, 0, none⟩) (m := 1) (c := 1) (news := [x]) rfl r1 (fun h => by cases h) (by simpa using ho) (by omega) (by omega) (by simp)
    exact ⟨v2, w2, k2, by simpa using k3, grown_trans g1 k4 fun k hk => by cases hk⟩
  · cases hv
    have holds : ∀ j u, xs[j]? = some u → (w.alloc (.cells #[x] e)).cell? ((⟨g, 0, none⟩ : Addr).add j) = some u := own1.cells (g := g) rfl
    have hsmall : n + 1 ≤ 9223372036854775807 := by simp only [maxLen] at h63; omega
    have run := erun_of_run (run_append_grow (P := P) (w.alloc (.cells #[x] e)) t ty e i z ht hi hz ⟨g, 0, none⟩ n n xs (by rw [hsize]; exact own1.1) holds ⟨w.heap.size, 0, none⟩ 1 1 [x] (by simp [hsize]) r1 (by omega) (by omega) (growslice_fits (by omega) (by rw [hby]; exact hbytes)))
    obtain ⟨v2, w2, k2, k3, k4⟩ := e_append (P := P) ht hi hz hsize hby hzs (by decide) own1 (ty := ty) (A := some ⟨w.heap.size, 0, none⟩) (m := 1) (c := 1) (news := [x]) rfl r1 (fun h => by cases h) (by simpa using ho) h63 hbytes (by simp; omega)
    rw [k2] at run
    obtain ⟨rfl, rfl⟩ := Prod.mk.inj (Option.some.inj run)
    refine ⟨_, _, k2, own_rebase k3 fun k hk => ?_, grown_trans g1 (grown_step (grown_drew _ none) (World.grownBy_alloc _ _ none)) (by simp)⟩
    simp [Value.ownBlock] at hk
    omega

end Go.Sh
