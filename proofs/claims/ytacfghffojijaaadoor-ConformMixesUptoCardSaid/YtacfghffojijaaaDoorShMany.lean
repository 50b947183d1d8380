/- The layer 'Sh': a region that draws, with an effect that may stand anywhere in a chain of others: what holds of each place holds. No condition. -/
import Derived.Test.YtacfghffojijaaaDoorShTwo
namespace Go.Sh
open Go
set_option linter.unusedVariables false
set_option linter.unusedSimpArgs false
theorem Exec3.world {P : Program} {call : CallF} {o o' : Oper} {b : Act} {W : World} {v v' : Value} {W1 W2 : World} (he : ∀ (f : Operand → Value), execOp f o' = execOp f o) (h : Exec3 P call o b W v W1) (h' : Exec3 P call o' b W v' W2) : v = v' ∧ W1 = W2 := by
  unfold Exec3 at h h'
  rw [he] at h'
  rcases h with h | ⟨h, rfl⟩ | ⟨f, args, h, hf⟩ <;> rcases h' with h' | ⟨h', rfl⟩ | ⟨f', args', h', hf'⟩ <;> rw [h] at h' <;> cases h' <;> first
    | exact ⟨rfl, rfl⟩
    | (rw [hf] at hf'
       cases hf'
       exact ⟨rfl, rfl⟩)
theorem getD_set_self {listed : Array Bool} {i : Nat} (hi : i < listed.size) : (listed.setIfInBounds i true).getD i false = true := by
  simp [Array.getD_eq_getD_getElem?, Array.getElem?_setIfInBounds, hi]
/-- a place for what comes next: behind all of the chain that is listed -/
theorem some_place (cs : List Nat) (listed : Array Bool) : ∃ j, j ≤ cs.length ∧ (∀ c, 1 ≤ j → cs[j - 1]? = some c → listed.getD c false = true) ∧ ∀ c, cs[j]? = some c → listed.getD c false = false := by
  have key : ∀ n, n ≤ cs.length → (∀ x c, n ≤ x → cs[x]? = some c → listed.getD c false = false) → ∃ j, j ≤ n ∧ (∀ c, 1 ≤ j → cs[j - 1]? = some c → listed.getD c false = true) ∧ ∀ c, cs[j]? = some c → listed.getD c false = false := by
    intro n
    induction n with
    | zero => intro _ h; exact ⟨0, Nat.le_refl _, fun c h1 => absurd h1 (by omega), fun c h1 => h 0 c (Nat.le_refl _) h1⟩
    | succ n ih =>
      intro hn h
      have h4 : cs[n]? = some (cs[n]'(by omega)) := List.getElem?_eq_getElem (by omega)
      cases hl : listed.getD (cs[n]'(by omega)) false with
      | true => exact ⟨n + 1, Nat.le_refl _, fun c _ h2 => by rw [Nat.add_sub_cancel, h4] at h2; cases h2; exact hl, fun c h1 => h (n + 1) c (Nat.le_refl _) h1⟩
      | false =>
        obtain ⟨j, j1, j2, j3⟩ := ih (by omega) (fun x c hx hc => by
          rcases Nat.eq_or_lt_of_le hx with rfl | hx
          · rw [h4] at hc; cases hc; exact hl
          · exact h x c hx hc)
        exact ⟨j, by omega, j2, j3⟩
  exact key cs.length (Nat.le_refl _) (fun x c hx hc => absurd (List.getElem?_eq_some_iff.mp hc).1 (by omega))
/-- an operation may come next, at the j-th place -/
def Nxt (cs : List Nat) (a j i : Nat) (listed : Array Bool) : Prop :=
  (∀ c, 1 ≤ j → cs[j - 1]? = some c → i = a → listed.getD c false = true) ∧ (∀ c, cs[j]? = some c → i = c → listed.getD a false = true)
section
variable {P : Program} {call : CallF} {ops : List Oper} {a0 : Act} {w0 : World}
theorem many_orders {cs : List Nat} {a : Nat} {all : Nat → List Oper} {σ : Nat → Nat → Nat} {L : Nat → List Ent} (hc : CallOk P call) (T : ∀ j, j ≤ cs.length → Turn ops (all j) (σ j))
    (hback : ∀ (i : Nat) (o : Oper), ops[i]? = some o → ∀ e ∈ o.after.toList, Region.binds .any e = true → e.on < i)
    (hF : ∀ j, j ≤ cs.length → Flat P (all j)) {nt : Nat} (hreg : ∀ j, j ≤ cs.length → regionOk nt (all j) = true) (hnt : nt ≤ a0.tmps.size) {fa : Nat → Act} {fw : Nat → World} (hL : ∀ j, j ≤ cs.length → LexRun P call (all j) (all j) a0 w0 (L j) (fa j) (fw j))
    (hchk : ∀ j, j ≤ cs.length → ∀ i m, (i, m) ∈ loose P (all j) → ∃ x y, (L j)[i]? = some x ∧ (L j)[m]? = some y ∧ x.chk y.before ∧ x.chk y.after)
    {Q : Exit → Act → World → Prop} (hQ : ∀ j, j ≤ cs.length → ∀ b W, SlotsAt (all j) (L j) a0 (fun i => i < (all j).length) b → WorldOf P (all j) (L j) w0 (fun i => i < (all j).length) W → Q .normal b W)
    (hal : a < ops.length) (hac : a ∉ cs)
    (hrdy : ∀ j, j ≤ cs.length → ∀ listed listed', Lst ops.length (σ j) listed listed' → ∀ i, Nxt cs a j i listed → i ∈ Region.ready .any ops.toArray listed → σ j i ∈ Region.ready .any (all j).toArray listed') :
    ∀ (fuel : Nat) (listed : Array Bool) (b : Act) (W : World), listed.size = ops.length → un listed ops.length = fuel → listed.getD a false = false →
      (∀ j, j ≤ cs.length → (∀ c, cs[j]? = some c → listed.getD c false = false) → ∃ l', Lst ops.length (σ j) listed l' ∧ Closed (all j) (fun i => l'.getD i false = true) ∧ SlotsAt (all j) (L j) a0 (fun i => l'.getD i false = true) b ∧ WorldOf P (all j) (L j) w0 (fun i => l'.getD i false = true) W) →
      wpAny P .any ops.toArray Q fuel listed b W := by
  intro fuel
  induction fuel with
  | zero =>
    intro listed b W hs hu hau hinv
    have hgd : listed.getD a true = listed.getD a false := by simp [show a < listed.size by omega]
    have := un_zero _ hu a hal
    rw [hgd, hau] at this
    cases this
  | succ fuel ih =>
    intro listed b W hs hu hau hinv
    refine ⟨fun hr => ?_, fun i hi => ?_⟩
    · have := all_listed rfl hs hback hr a hal
      rw [hau] at this
      cases this
    obtain ⟨hun, o, ho', hdep'⟩ := mem_ready.mp hi
    have ho : ops[i]? = some o := by simpa using ho'
    have hil : i < ops.length := (List.getElem?_eq_some_iff.mp ho).1
    have hun' : un (listed.setIfInBounds i true) ops.length = fuel := by
      have := un_set hun ops.length hil
      omega
    -- one step by the order j
    have stepOf : ∀ j, j ≤ cs.length → (∀ c, cs[j]? = some c → listed.getD c false = false) → Nxt cs a j i listed → ∃ (o2 : Oper) (x : Ent) (W' : World) (l' : Array Bool), (∀ f : Operand → Value, execOp f o2 = execOp f o) ∧ Region.wanted o (yielded ops.toArray b.tmps) = x.g ∧ (x.g = true → Exec3 P call o2 b W x.v W') ∧ (x.g = false → x.v = undef ∧ W' = W) ∧
        Lst ops.length (σ j) (listed.setIfInBounds i true) l' ∧ Closed (all j) (fun k => l'.getD k false = true) ∧ SlotsAt (all j) (L j) a0 (fun k => l'.getD k false = true) (b.put o.dst x.v) ∧ WorldOf P (all j) (L j) w0 (fun k => l'.getD k false = true) W' := by
      intro j hj hm hn
      obtain ⟨l', hl, p1, p2, p3⟩ := hinv j hj hm
      obtain ⟨o2, x, W', k1, k2, k3, k4, k5, k6, k7, k8, k9⟩ := order_step (hF j hj) (hreg j hj) hnt (hL j hj) (hchk j hj) l' b W (by rw [hl.2.1, (T j hj).len]) p1 p2 p3 (σ j i) (hrdy j hj listed l' hl i hn hi)
      obtain ⟨d1, d2, d3⟩ := (T j hj).exec ho k1
      rw [(T j hj).wanted ho k1] at k3
      rw [d1] at k8
      exact ⟨o2, x, W', _, d3, k3, k4, k5, hl.step (T j hj).lt (T j hj).inj hil, k7, k8, k9⟩
    have fin : ∀ (g : Bool) (v : Value) (W' : World) (o2 : Oper), (∀ f : Operand → Value, execOp f o2 = execOp f o) → Region.wanted o (yielded ops.toArray b.tmps) = g → (g = true → Exec3 P call o2 b W v W') → (g = false → v = undef ∧ W' = W) →
        wpAny P .any ops.toArray Q fuel (listed.setIfInBounds i true) (b.put o.dst v) W' → wpOp P ops.toArray Q i (wpAny P .any ops.toArray Q fuel (listed.setIfInBounds i true)) b W := by
      intro g v W' o2 d3 k3 k4 k5 hnext
      unfold wpOp
      simp only [ho', k3]
      cases hg : g with
      | true =>
        simp only [if_true]
        refine .inl (exec_wp hc (v := v) (w' := W') ?_ _ hnext)
        have e := k4 hg
        unfold Exec3 at e ⊢
        rw [d3] at e
        exact e
      | false =>
        simp only [Bool.false_eq_true, if_false]
        obtain ⟨g1, g2⟩ := k5 hg
        rw [g1, g2] at hnext
        exact hnext
    by_cases hia : i = a
    · subst hia
      obtain ⟨j, hj, j2, j3⟩ := some_place cs listed
      obtain ⟨o2, x, W', l', s1, s3, s4, s5, s6, s7, s8, s9⟩ := stepOf j hj j3 ⟨fun c h1 h2 _ => j2 c h1 h2, fun c h1 h2 => by subst h2; exact absurd (List.mem_of_getElem? h1) hac⟩
      refine fin x.g x.v W' o2 s1 s3 s4 s5 (one_order hc (T j hj) hback (hF j hj) (hreg j hj) hnt (hL j hj) (hchk j hj) (hQ j hj) hal (fun listed listed' hl hla k hk => ?_) fuel _ _ _ _ s6 (getD_set_self (by omega)) hun' s7 s8 s9)
      refine hrdy j hj listed listed' hl k ⟨fun c _ _ e => ?_, fun c _ _ => hla⟩ hk
      subst e
      have h := (mem_ready.mp hk).1
      have : listed.getD k true = listed.getD k false := by simp [show k < listed.size by have := hl.1; omega]
      rw [this, hla] at h
      cases h
    · have hau' : (listed.setIfInBounds i true).getD a false = false := by rw [getD_set_ne false hia]; exact hau
      have old : ∀ c, (listed.setIfInBounds i true).getD c false = false → listed.getD c false = false ∧ i ≠ c := by
        intro c h
        by_cases hic : i = c
        · subst hic; rw [getD_set_self (by omega)] at h; cases h
        · rw [getD_set_ne false hic] at h; exact ⟨h, hic⟩
      have nx : ∀ j, j ≤ cs.length → (∀ c, cs[j]? = some c → (listed.setIfInBounds i true).getD c false = false) → (∀ c, cs[j]? = some c → listed.getD c false = false) ∧ Nxt cs a j i listed := by
        intro j hj h
        exact ⟨fun c hc => (old c (h c hc)).1, fun c _ _ e => absurd e hia, fun c h1 h2 => absurd h2 (old c (h c h1)).2⟩
      have hlast : ∀ c, cs[cs.length]? = some c → (listed.setIfInBounds i true).getD c false = false := fun c h => by simp at h
      obtain ⟨n1, n2⟩ := nx cs.length (Nat.le_refl _) hlast
      obtain ⟨o2, x, W', l', s1, s3, s4, s5, s6, s7, s8, s9⟩ := stepOf cs.length (Nat.le_refl _) n1 n2
      refine fin x.g x.v W' o2 s1 s3 s4 s5 (ih _ _ _ (by simpa using hs) hun' hau' fun j hj hm => ?_)
      obtain ⟨m1, m2⟩ := nx j hj hm
      obtain ⟨o3, y, W2, l2, t1, t3, t4, t5, t6, t7, t8, t9⟩ := stepOf j hj m1 m2
      have hg : x.g = y.g := s3.symm.trans t3
      have hvw : x.v = y.v ∧ W' = W2 := by
        cases h : x.g with
        | true => exact Exec3.world (fun f => (t1 f).trans (s1 f).symm) (s4 h) (t4 (hg ▸ h))
        | false => exact ⟨(s5 h).1.trans (t5 (hg ▸ h)).1.symm, (s5 h).2.trans (t5 (hg ▸ h)).2.symm⟩
      rw [← hvw.1] at t8
      rw [← hvw.2] at t9
      exact ⟨l2, t6, t7, t8, t9⟩
end
end Go.Sh
