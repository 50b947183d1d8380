/- The layer 'Sh', seventh part: what may change: sets of blocks. No condition but those that each statement names. -/
import Derived.Test.YtkghbcadnbojgaaGreatDoorShMem
namespace Go.Sh
open Go Go.RowKit
set_option linter.unusedVariables false
set_option linter.unusedSimpArgs false

/-- at most the blocks of S have changed, and there may be new ones -/
structure Grew (S : Nat → Prop) (w w' : World) : Prop where
  os : w'.os = w.os
  tape : w'.tape = w.tape
  output : w'.output = w.output
  size : w.heap.size ≤ w'.heap.size
  block : ∀ k, k < w.heap.size → ¬ S k → w'.heap[k]? = w.heap[k]?
theorem Grew.refl (S : Nat → Prop) (w : World) : Grew S w w := ⟨rfl, rfl, rfl, Nat.le_refl _, fun _ _ _ => rfl⟩
theorem Grew.drew (S : Nat → Prop) (w : World) : Grew S w w.drew := ⟨rfl, rfl, rfl, Nat.le_refl _, fun _ _ _ => rfl⟩
theorem Grew.trans {S T : Nat → Prop} {w w' w'' : World} (h : Grew S w w') (h' : Grew T w' w'') (hs : ∀ k, T k → S k ∨ w.heap.size ≤ k) : Grew S w w'' :=
  ⟨h'.os.trans h.os, h'.tape.trans h.tape, h'.output.trans h.output, Nat.le_trans h.size h'.size, fun k hk hn => (h'.block k (Nat.lt_of_lt_of_le hk h.size) fun ht => by
    rcases hs k ht with h1 | h1
    · exact hn h1
    · omega).trans (h.block k hk hn)⟩
theorem Grew.step {S : Nat → Prop} {w w' w'' : World} (h : Grew S w w') (h' : Grew S w' w'') : Grew S w w'' := h.trans h' fun _ hk => .inl hk
theorem Grew.weak {S T : Nat → Prop} {w w' : World} (h : Grew T w w') (hs : ∀ k, T k → S k ∨ w.heap.size ≤ k) : Grew S w w' := (Grew.refl S w).trans h hs
theorem grew_of {S : Nat → Prop} {w w' : World} {row : Option Nat} (h : w.grownBy w' row) (hs : ∀ k, row = some k → S k ∨ w.heap.size ≤ k) : Grew S w w' :=
  ⟨h.os, h.tape, h.output, h.size, fun k hk hn => h.block k hk fun e => by
    rcases hs k e.symm with h1 | h1
    · exact hn h1
    · omega⟩
theorem grew_new {S : Nat → Prop} {w w' : World} (h : w.grownBy w' none) : Grew S w w' := grew_of h fun k e => by cases e
theorem grew_set {S : Nat → Prop} (w : World) {b : Nat} (i : Nat) (v : Value) (hb : S b) : Grew S w (w.setCell ⟨b, i, none⟩ v) := grew_of (grown_set b i v) fun k e => by cases e; exact .inl hb
theorem Grew.toNew {S : Nat → Prop} {w w' : World} (h : Grew S w w') (hs : ∀ k, S k → w.heap.size ≤ k) : w.grownBy w' none :=
  ⟨h.os, h.tape, h.output, h.size, fun k hk _ => h.block k hk fun hk' => by have := hs k hk'; omega⟩
theorem Grew.alloc (S : Nat → Prop) (w : World) (o : Obj) : Grew S w (w.alloc o) := grew_new (World.grownBy_alloc w o none)

theorem Blk.grew {S : Nat → Prop} {w w' : World} {b : Nat} {e : TypeId} {cs : List Value} (h : Blk w b e cs) (hg : Grew S w w') (hn : ¬ S b) : Blk w' b e cs := h.same (hg.block b h.lt hn)
theorem own_same {w w' : World} {base : Nat} {e : TypeId} {size n : Nat} {v : Value} {xs : List Value} (h : w.ownsRow base e size v n xs) (hs : ∀ k, v.ownBlock = some k → w'.heap[k]? = w.heap[k]?) : w'.ownsRow base e size v n xs := by
  obtain ⟨h0, h1⟩ := h
  refine ⟨h0, ?_⟩
  rcases h1 with h1 | ⟨g, cap, cur, rfl, h2, h3, h4⟩
  · exact .inl h1
  · exact .inr ⟨g, cap, cur, rfl, h2, (hs g rfl).trans h3, h4⟩
theorem own_grew {S : Nat → Prop} {w w' : World} {base : Nat} {e : TypeId} {size n : Nat} {v : Value} {xs : List Value} (h : w.ownsRow base e size v n xs) (hg : Grew S w w') (hn : ∀ k, v.ownBlock = some k → ¬ S k) : w'.ownsRow base e size v n xs :=
  own_same h fun k hk => hg.block k (h.lt k hk).2 (hn k hk)
theorem own_blk_ne {w : World} {base b : Nat} {e e' : TypeId} {size n : Nat} {v : Value} {xs cs : List Value} (h : w.ownsRow base e size v n xs) (hb : Blk w b e' cs) (hne : e ≠ e') : v.ownBlock ≠ some b := by
  intro hk
  rcases h.2 with ⟨rfl, _⟩ | ⟨g, cap, cur, rfl, h2, h3, _⟩
  · cases hk
  · obtain rfl : g = b := by simpa [Value.ownBlock] using hk
    rw [hb] at h3
    injection h3 with h3
    injection h3 with _ h3
    exact hne h3.symm
theorem own_own_ne {w : World} {base base' k : Nat} {e e' : TypeId} {size size' n n' : Nat} {v v' : Value} {xs xs' : List Value} (h : w.ownsRow base e size v n xs) (h' : w.ownsRow base' e' size' v' n' xs') (hne : e ≠ e') (hk : v.ownBlock = some k) (hk' : v'.ownBlock = some k) : False := by
  rcases h.2 with ⟨rfl, _⟩ | ⟨g, cap, cur, rfl, h2, h3, _⟩
  · cases hk
  · rcases h'.2 with ⟨rfl, _⟩ | ⟨g', cap', cur', rfl, h2', h3', _⟩
    · cases hk'
    · obtain rfl : g = k := by simpa [Value.ownBlock] using hk
      obtain rfl : g' = g := by simpa [Value.ownBlock] using hk'
      rw [h3] at h3'
      injection h3' with h3'
      injection h3' with _ h3'
      exact hne h3'
/-- reads of what was there, where it has not changed -/
theorem Rd.grew {S : Nat → Prop} {w w' : World} {A : Option Addr} {cs : List Value} (h : Rd w A cs) (hg : Grew S w w') (hn : ∀ a, A = some a → ¬ S a.block) : Rd w' A cs := by
  cases A with
  | none => exact h
  | some a =>
    by_cases hc : cs = []
    · subst hc; exact Rd.nil _ _
    · exact h.of_same fun b hb => by cases hb; exact hg.block _ (h.lt hc) (hn a rfl)
theorem Blk.store2 {w : World} {b : Nat} {e : TypeId} {cs : List Value} (h : Blk w b e cs) (i : Nat) (v : Value) {cs' : List Value} (hcs : cs.set i v = cs') : Blk (w.setCell ⟨b, i, none⟩ v) b e cs' := hcs ▸ h.set i v
theorem Blk.cell_eq {w : World} {b : Nat} {e : TypeId} {cs : List Value} (h : Blk w b e cs) (i : Nat) {v : Value} (hv : cs[i]? = some v) : w.cell? ⟨b, i, none⟩ = some v := by rw [h.cell]; exact hv
theorem own_new {w w' : World} {base : Nat} {e : TypeId} {size n : Nat} {v : Value} {xs : List Value} (h : w.ownsRow base e size v n xs) (hg : w.grownBy w' none) : w'.ownsRow base e size v n xs :=
  own_same h fun k hk => hg.block k (h.lt k hk).2 (by simp)
theorem own_beside {w w' : World} {base : Nat} {e : TypeId} {size n : Nat} {v : Value} {xs : List Value} {row : Option Nat} (h : w.ownsRow base e size v n xs) (hg : w.grownBy w' row) (hn : ∀ k, v.ownBlock = some k → row = some k → False) : w'.ownsRow base e size v n xs :=
  own_same h fun k hk => hg.block k (h.lt k hk).2 fun e => hn k hk e.symm
/-- a row that lies apart from S lies apart from what S has become -/
theorem dis_on {w : World} {base : Nat} {e : TypeId} {size n : Nat} {v : Value} {xs : List Value} {S S' : Nat → Prop} (row : w.ownsRow base e size v n xs) (dis : ∀ k, v.ownBlock = some k → ¬ S k) (hk : ∀ k, S' k → S k ∨ w.heap.size ≤ k) : ∀ k, v.ownBlock = some k → ¬ S' k := fun k hv hf => by
  rcases hk k hf with h | h
  · exact dis k hv h
  · have := (row.lt k hv).2; omega
/-- a row of spans or other flat structs: element i's cells -/
theorem own_cell {w : World} {base n c : Nat} {e : TypeId} {size : Nat} {A : Option Addr} {xs : List Value} (h : w.ownsRow base e size (.slice A n c) n xs) {j : Nat} {v : Value} (hv : xs[j]? = some v) : ∃ a, A = some a ∧ w.cell? (a.add j) = some v := by
  have hr := Rd.owned h
  cases A with
  | none =>
    have hx : xs = [] := hr
    subst hx
    simp at hv
  | some a => exact ⟨a, rfl, hr j v hv⟩
end Go.Sh
