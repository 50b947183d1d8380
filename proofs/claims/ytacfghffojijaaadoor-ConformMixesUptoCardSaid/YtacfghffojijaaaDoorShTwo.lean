/- The layer 'Sh': a region that draws, with two effects in no order: what holds of both orders holds. No condition. -/
import Derived.Test.YtacfghffojijaaaDoorShOrder
namespace Go.Sh
open Go
set_option linter.unusedVariables false
set_option linter.unusedSimpArgs false
/-- the same operations at other places, with more edges -/
structure Turn (ops all : List Oper) (σ : Nat → Nat) : Prop where
  len : all.length = ops.length
  lt : ∀ i, i < ops.length → σ i < ops.length
  inj : ∀ i j, i < ops.length → j < ops.length → σ i = σ j → i = j
  onto : ∀ k, k < ops.length → ∃ i, i < ops.length ∧ σ i = k
  same : ∀ (i : Nat) (o : Oper), ops[i]? = some o → ∃ o', all[σ i]? = some o' ∧ o' = { o with after := o'.after, guard := o.guard.map fun g => (σ g.1, g.2) }
  guard : ∀ (i : Nat) (o : Oper) g, ops[i]? = some o → o.guard = some g → g.1 < ops.length
section
variable {P : Program} {call : CallF} {ops all : List Oper} {σ : Nat → Nat}
theorem Turn.wanted (h : Turn ops all σ) {i : Nat} {o o' : Oper} (ho : ops[i]? = some o) (ho' : all[σ i]? = some o') (tmps : Array Value) : Region.wanted o' (yielded all.toArray tmps) = Region.wanted o (yielded ops.toArray tmps) := by
  obtain ⟨o2, h1, h2⟩ := h.same i o ho
  rw [ho'] at h1
  cases h1
  have hg : o'.guard = o.guard.map fun g => (σ g.1, g.2) := by rw [h2]
  unfold Region.wanted
  rw [hg]
  cases hh : o.guard with
  | none => rfl
  | some g =>
    obtain ⟨j, want⟩ := g
    have hj := h.guard i o _ ho hh
    have hq : ops[j]? = some ops[j] := List.getElem?_eq_getElem hj
    obtain ⟨q', k1, k2⟩ := h.same j _ hq
    have hd : q'.dst = ops[j].dst := by rw [k2]
    simp only [Option.map_some, yielded, List.getElem?_toArray, k1, hq, Option.bind_some, hd]
theorem Turn.exec (h : Turn ops all σ) {i : Nat} {o o' : Oper} (ho : ops[i]? = some o) (ho' : all[σ i]? = some o') : o'.dst = o.dst ∧ o'.op = o.op ∧ ∀ (f : Operand → Value), execOp f o' = execOp f o := by
  obtain ⟨o2, h1, h2⟩ := h.same i o ho
  rw [ho'] at h1
  cases h1
  refine ⟨by rw [h2], by rw [h2], fun f => ?_⟩
  rw [h2]
  rfl
/-- what is listed, there and here -/
def Lst (n : Nat) (σ : Nat → Nat) (listed listed' : Array Bool) : Prop := listed.size = n ∧ listed'.size = n ∧ ∀ i, i < n → listed'.getD (σ i) false = listed.getD i false
theorem Lst.step {n : Nat} {listed listed' : Array Bool} (hlt : ∀ i, i < n → σ i < n) (hinj : ∀ i j, i < n → j < n → σ i = σ j → i = j) (h : Lst n σ listed listed') {i : Nat} (hi : i < n) : Lst n σ (listed.setIfInBounds i true) (listed'.setIfInBounds (σ i) true) := by
  obtain ⟨h1, h2, h3⟩ := h
  refine ⟨by simpa using h1, by simpa using h2, fun j hj => ?_⟩
  by_cases hij : i = j
  · subst hij
    have a := hlt i hi
    simp [Array.getD_eq_getD_getElem?, Array.getElem?_setIfInBounds, h1, h2, hi, a]
  · have hne : σ i ≠ σ j := fun e => hij (hinj i j hi hj e)
    rw [getD_set_ne false hij, getD_set_ne false hne]
    exact h3 j hj
/-- all are listed, when none is ready -/
theorem all_listed {n : Nat} {listed : Array Bool} (hn : ops.length = n) (hs : listed.size = n) (hback : ∀ (i : Nat) (o : Oper), ops[i]? = some o → ∀ e ∈ o.after.toList, Region.binds .any e = true → e.on < i)
    (hr : Region.ready .any ops.toArray listed = []) : ∀ j, j < n → listed.getD j false = true := by
  have hgd : ∀ j, j < n → listed.getD j true = listed.getD j false := by
    intro j hj
    simp [show j < listed.size by omega]
  intro j
  induction j using Nat.strongRecOn with
  | _ j ih =>
    intro hj
    cases hl : listed.getD j false with
    | true => rfl
    | false =>
      have ho : ops[j]? = some (ops[j]'(by omega)) := List.getElem?_eq_getElem (by omega)
      have : j ∈ Region.ready .any ops.toArray listed := mem_ready.mpr ⟨by rw [hgd j hj]; exact hl, ops[j]'(by omega), by simp [ho], fun e he hb => by
        have hlt := hback j _ ho e (by simpa using he) hb
        exact ih e.on hlt (by omega)⟩
      rw [hr] at this
      cases this
section
variable {L : List Ent} {a0 : Act} {w0 : World}
theorem one_order (hc : CallOk P call) (T : Turn ops all σ) (hback : ∀ (i : Nat) (o : Oper), ops[i]? = some o → ∀ e ∈ o.after.toList, Region.binds .any e = true → e.on < i)
    (hF : Flat P all) {nt : Nat} (hreg : regionOk nt all = true) (hnt : nt ≤ a0.tmps.size) {a' : Act} {w' : World} (hL : LexRun P call all all a0 w0 L a' w')
    (hchk : ∀ i m, (i, m) ∈ loose P all → ∃ x y, L[i]? = some x ∧ L[m]? = some y ∧ x.chk y.before ∧ x.chk y.after)
    {Q : Exit → Act → World → Prop} (hQ : ∀ b W, SlotsAt all L a0 (fun j => j < all.length) b → WorldOf P all L w0 (fun j => j < all.length) W → Q .normal b W)
    {c : Nat} (hcl : c < ops.length) (hready : ∀ listed listed', Lst ops.length σ listed listed' → listed.getD c false = true → ∀ i, i ∈ Region.ready .any ops.toArray listed → σ i ∈ Region.ready .any all.toArray listed') :
    ∀ (fuel : Nat) (listed listed' : Array Bool) (b : Act) (W : World), Lst ops.length σ listed listed' → listed.getD c false = true → un listed ops.length = fuel → Closed all (fun j => listed'.getD j false = true) →
      SlotsAt all L a0 (fun j => listed'.getD j false = true) b → WorldOf P all L w0 (fun j => listed'.getD j false = true) W → wpAny P .any ops.toArray Q fuel listed b W := by
  have hfin : ∀ (listed listed' : Array Bool) (b : Act) (W : World), Lst ops.length σ listed listed' → (∀ j, j < ops.length → listed.getD j false = true) →
      SlotsAt all L a0 (fun j => listed'.getD j false = true) b → WorldOf P all L w0 (fun j => listed'.getD j false = true) W → Q .normal b W := by
    intro listed listed' b W hl hall h1 h2
    have : (fun j => listed'.getD j false = true) = (fun j => j < all.length) := by
      funext j
      refine propext ⟨fun h => ?_, fun h => ?_⟩
      · rcases Nat.lt_or_ge j listed'.size with h' | h'
        · have := hl.2.1; have := T.len; omega
        · simp [Array.getElem?_eq_none h'] at h
      · rw [T.len] at h
        obtain ⟨i, hi, rfl⟩ := T.onto j h
        rw [hl.2.2 i hi]
        exact hall i hi
    rw [this] at h1 h2
    exact hQ b W h1 h2
  intro fuel
  induction fuel with
  | zero =>
    intro listed listed' b W hl hcd hu hcl' h1 h2
    have hgd : ∀ j, j < ops.length → listed.getD j true = listed.getD j false := by
      intro j hj
      simp [show j < listed.size by have := hl.1; omega]
    have hall : ∀ j, j < ops.length → listed.getD j false = true := fun j hj => by rw [← hgd j hj]; exact un_zero _ hu j hj
    refine ⟨?_, hfin listed listed' b W hl hall h1 h2⟩
    cases hr : Region.ready .any ops.toArray listed with
    | nil => rfl
    | cons j r =>
      have hj : j ∈ Region.ready .any ops.toArray listed := by rw [hr]; simp
      obtain ⟨h3, o, ho, _⟩ := mem_ready.mp hj
      have hjl : j < ops.length := (List.getElem?_eq_some_iff.mp (by simpa using ho)).1
      rw [hgd j hjl, hall j hjl] at h3
      cases h3
  | succ fuel ih =>
    intro listed listed' b W hl hcd hu hcl' h1 h2
    refine ⟨fun hr => hfin listed listed' b W hl (all_listed rfl hl.1 hback hr) h1 h2, fun i hi => ?_⟩
    obtain ⟨hun, o, ho', hdep'⟩ := mem_ready.mp hi
    have ho : ops[i]? = some o := by simpa using ho'
    have hil : i < ops.length := (List.getElem?_eq_some_iff.mp ho).1
    obtain ⟨o2, x, W', k1, k2, k3, k4, k5, k6, k7, k8, k9⟩ := order_step hF hreg hnt hL hchk listed' b W (by rw [hl.2.1, T.len]) hcl' h1 h2 (σ i) (hready listed listed' hl hcd i hi)
    obtain ⟨d1, d2, d3⟩ := T.exec ho k1
    rw [T.wanted ho k1] at k3
    rw [d1] at k8
    have hst : Lst ops.length σ (listed.setIfInBounds i true) (listed'.setIfInBounds (σ i) true) := hl.step T.lt T.inj hil
    have hcd' : (listed.setIfInBounds i true).getD c false = true := by
      by_cases hic : i = c
      · subst hic
        have := hl.1
        simp [Array.getD_eq_getD_getElem?, Array.getElem?_setIfInBounds, this, hil]
      · rw [getD_set_ne false hic]; exact hcd
    have hnext := ih (listed.setIfInBounds i true) (listed'.setIfInBounds (σ i) true) (b.put o.dst x.v) W' hst hcd' (by
      have := un_set hun ops.length hil
      omega) k7 k8 k9
    unfold wpOp
    simp only [ho', k3]
    cases hg : x.g with
    | true =>
      simp only [if_true]
      refine .inl (exec_wp hc (v := x.v) (w' := W') ?_ _ hnext)
      have e := k4 hg
      unfold Exec3 at e ⊢
      rw [d3] at e
      exact e
    | false =>
      simp only [Bool.false_eq_true, if_false]
      obtain ⟨g1, g2⟩ := k5 hg
      rw [g1, g2] at hnext
      exact hnext
end
theorem Exec3.one {P : Program} {call : CallF} {o o' : Oper} {b : Act} {W : World} {v v' : Value} {W1 W2 : World} (he : ∀ (f : Operand → Value), execOp f o' = execOp f o) (h : Exec3 P call o b W v W1) (h' : Exec3 P call o' b W v' W2) : v = v' := by
  unfold Exec3 at h h'
  rw [he] at h'
  rcases h with h | ⟨h, rfl⟩ | ⟨f, args, h, hf⟩ <;> rcases h' with h' | ⟨h', rfl⟩ | ⟨f', args', h', hf'⟩ <;> rw [h] at h' <;> cases h' <;> first
    | rfl
    | (rw [hf] at hf'
       cases hf'
       rfl)
theorem two_orders {P : Program} {call : CallF} {ops all1 all2 : List Oper} {σ1 σ2 : Nat → Nat} {L1 L2 : List Ent} {a0 : Act} {w0 : World} (hc : CallOk P call) (T1 : Turn ops all1 σ1) (T2 : Turn ops all2 σ2)
    (hback : ∀ (i : Nat) (o : Oper), ops[i]? = some o → ∀ e ∈ o.after.toList, Region.binds .any e = true → e.on < i)
    (hF1 : Flat P all1) {nt : Nat} (hreg1 : regionOk nt all1 = true) (hnt : nt ≤ a0.tmps.size) {a1' : Act} {w1' : World} (hL1 : LexRun P call all1 all1 a0 w0 L1 a1' w1')
    (hchk1 : ∀ i m, (i, m) ∈ loose P all1 → ∃ x y, L1[i]? = some x ∧ L1[m]? = some y ∧ x.chk y.before ∧ x.chk y.after)
    (hF2 : Flat P all2) (hreg2 : regionOk nt all2 = true) {a2' : Act} {w2' : World} (hL2 : LexRun P call all2 all2 a0 w0 L2 a2' w2')
    (hchk2 : ∀ i m, (i, m) ∈ loose P all2 → ∃ x y, L2[i]? = some x ∧ L2[m]? = some y ∧ x.chk y.before ∧ x.chk y.after)
    {Q : Exit → Act → World → Prop} (hQ1 : ∀ b W, SlotsAt all1 L1 a0 (fun j => j < all1.length) b → WorldOf P all1 L1 w0 (fun j => j < all1.length) W → Q .normal b W)
    (hQ2 : ∀ b W, SlotsAt all2 L2 a0 (fun j => j < all2.length) b → WorldOf P all2 L2 w0 (fun j => j < all2.length) W → Q .normal b W)
    {c a : Nat} (hca : c ≠ a) (hc1 : c < ops.length) (ha1 : a < ops.length) (heff : ∀ (i : Nat) (o : Oper), ops[i]? = some o → i ≠ c → i ≠ a → quietOp P o.op = true)
    (r1 : ∀ listed listed', Lst ops.length σ1 listed listed' → listed.getD c false = true → ∀ i, i ∈ Region.ready .any ops.toArray listed → σ1 i ∈ Region.ready .any all1.toArray listed')
    (r1' : ∀ listed listed', Lst ops.length σ1 listed listed' → ∀ i, i ≠ a → i ∈ Region.ready .any ops.toArray listed → σ1 i ∈ Region.ready .any all1.toArray listed')
    (r2 : ∀ listed listed', Lst ops.length σ2 listed listed' → listed.getD a false = true → ∀ i, i ∈ Region.ready .any ops.toArray listed → σ2 i ∈ Region.ready .any all2.toArray listed')
    (r2' : ∀ listed listed', Lst ops.length σ2 listed listed' → ∀ i, i ≠ c → i ∈ Region.ready .any ops.toArray listed → σ2 i ∈ Region.ready .any all2.toArray listed') :
    ∀ (fuel : Nat) (listed l1 l2 : Array Bool) (b : Act) (W : World), Lst ops.length σ1 listed l1 → Lst ops.length σ2 listed l2 → listed.getD c false = false → un listed ops.length = fuel →
      Closed all1 (fun j => l1.getD j false = true) → SlotsAt all1 L1 a0 (fun j => l1.getD j false = true) b → WorldOf P all1 L1 w0 (fun j => l1.getD j false = true) W →
      Closed all2 (fun j => l2.getD j false = true) → SlotsAt all2 L2 a0 (fun j => l2.getD j false = true) b → WorldOf P all2 L2 w0 (fun j => l2.getD j false = true) W → wpAny P .any ops.toArray Q fuel listed b W := by
  intro fuel
  induction fuel with
  | zero =>
    intro listed l1 l2 b W hl1 hl2 hcu hu
    have hgd : listed.getD c true = listed.getD c false := by simp [show c < listed.size by have := hl1.1; omega]
    have := un_zero _ hu c hc1
    rw [hgd, hcu] at this
    cases this
  | succ fuel ih =>
    intro listed l1 l2 b W hl1 hl2 hcu hu p1 p2 p3 q1 q2 q3
    refine ⟨fun hr => ?_, fun i hi => ?_⟩
    · have := all_listed rfl hl1.1 hback hr c hc1
      rw [hcu] at this
      cases this
    obtain ⟨hun, o, ho', hdep'⟩ := mem_ready.mp hi
    have ho : ops[i]? = some o := by simpa using ho'
    have hil : i < ops.length := (List.getElem?_eq_some_iff.mp ho).1
    have hst1 : Lst ops.length σ1 (listed.setIfInBounds i true) (l1.setIfInBounds (σ1 i) true) := hl1.step T1.lt T1.inj hil
    have hst2 : Lst ops.length σ2 (listed.setIfInBounds i true) (l2.setIfInBounds (σ2 i) true) := hl2.step T2.lt T2.inj hil
    have hun' : un (listed.setIfInBounds i true) ops.length = fuel := by
      have := un_set hun ops.length hil
      omega
    have hset : (listed.setIfInBounds i true).getD i false = true := by
      have := hl1.1
      simp [Array.getD_eq_getD_getElem?, Array.getElem?_setIfInBounds, this, hil]
    have fin : ∀ (g : Bool) (v : Value) (W' : World) (o2 : Oper), (∀ f : Operand → Value, execOp f o2 = execOp f o) → Region.wanted o (yielded ops.toArray b.tmps) = g → (g = true → Exec3 P call o2 b W v W') → (g = false → v = undef ∧ W' = W) →
        wpAny P .any ops.toArray Q fuel (listed.setIfInBounds i true) (b.put o.dst v) W' → wpOp P ops.toArray Q i (wpAny P .any ops.toArray Q fuel (listed.setIfInBounds i true)) b W := by
      intro g v W' o2 d3 k3 k4 k5 hnext
      unfold wpOp
      simp only [ho', k3]
      cases hg : g with
      | true =>
        simp only [if_true]
        refine .inl (exec_wp hc (v := v) (w' := W') ?_ _ hnext)
        have e := k4 hg
        unfold Exec3 at e ⊢
        rw [d3] at e
        exact e
      | false =>
        simp only [Bool.false_eq_true, if_false]
        obtain ⟨g1, g2⟩ := k5 hg
        rw [g1, g2] at hnext
        exact hnext
    by_cases hia : i = a
    · subst hia
      have hic : i ≠ c := fun e => hca e.symm
      · obtain ⟨o2, x, W', k1, k2, k3, k4, k5, k6, k7, k8, k9⟩ := order_step hF2 hreg2 hnt hL2 hchk2 l2 b W (by rw [hl2.2.1, T2.len]) q1 q2 q3 (σ2 i) (r2' listed l2 hl2 i hic hi)
        obtain ⟨d1, d2, d3⟩ := T2.exec ho k1
        rw [T2.wanted ho k1] at k3
        rw [d1] at k8
        exact fin x.g x.v W' o2 d3 k3 k4 k5 (one_order hc T2 hback hF2 hreg2 hnt hL2 hchk2 hQ2 ha1 r2 fuel _ _ _ _ hst2 hset hun' k7 k8 k9)
    · obtain ⟨o1, x1, W1, k1, k2, k3, k4, k5, k6, k7, k8, k9⟩ := order_step hF1 hreg1 hnt hL1 hchk1 l1 b W (by rw [hl1.2.1, T1.len]) p1 p2 p3 (σ1 i) (r1' listed l1 hl1 i hia hi)
      obtain ⟨d1, d2, d3⟩ := T1.exec ho k1
      rw [T1.wanted ho k1] at k3
      rw [d1] at k8
      by_cases hic : i = c
      · subst hic
        exact fin x1.g x1.v W1 o1 d3 k3 k4 k5 (one_order hc T1 hback hF1 hreg1 hnt hL1 hchk1 hQ1 hc1 r1 fuel _ _ _ _ hst1 hset hun' k7 k8 k9)
      · have hq := heff i o ho hic hia
        obtain ⟨o2, x2, W2, m1, m2, m3, m4, m5, m6, m7, m8, m9⟩ := order_step hF2 hreg2 hnt hL2 hchk2 l2 b W (by rw [hl2.2.1, T2.len]) q1 q2 q3 (σ2 i) (r2' listed l2 hl2 i hic hi)
        obtain ⟨f1, f2, f3⟩ := T2.exec ho m1
        rw [T2.wanted ho m1] at m3
        rw [f1] at m8
        have e1 : W1 = W := k6 (by rw [d2]; exact hq)
        have e2 : W2 = W := m6 (by rw [f2]; exact hq)
        subst e1
        subst e2
        have hgg : x1.g = x2.g := k3.symm.trans m3
        have hv : x1.v = x2.v := by
          cases hg : x1.g with
          | true => exact Exec3.one (fun f => (f3 f).trans (d3 f).symm) (k4 hg) (m4 (hgg ▸ hg))
          | false => rw [(k5 hg).1, (m5 (hgg ▸ hg)).1]
        rw [← hv] at m8
        have hcu' : (listed.setIfInBounds i true).getD c false = false := by rw [getD_set_ne false hic]; exact hcu
        exact fin x1.g x1.v _ o1 d3 k3 k4 k5 (ih _ _ _ _ _ hst1 hst2 hcu' hun' k7 k8 k9 m7 m8 m9)
end
end Go.Sh
