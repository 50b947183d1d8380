/- The layer 'Sh': code as a condition for what comes after it (for regions with two effects in no order, where there is more than one outcome). No condition. -/
import Derived.Test.YtacfghffojijaaaDoorShRun
import Derived.Test.YtacfghffojijaaaDoorShMany
namespace Go.Sh
open Go
set_option linter.unusedVariables false
set_option linter.unusedSimpArgs false
inductive WAnn where
  | r
  | d (K : List Nat) (x : Ann)
  | s (a b : WAnn)
  | c (a b : WAnn)
  | b (K : List Nat) (a : WAnn)
  | l (K : List Nat) (a : WAnn)
  | t (a : Nat) (cs : List Nat) (K : List Nat)
structure Way where
  id : Nat
  keep : List Nat
  go : List Value → World → Prop
abbrev Ways := List Way
def Ways.ctx (X : Ways) : Ctx := X.map fun y => (y.id, y.keep)
def Ways.out : Ways → Nat → List Value → World → Prop
  | [], _, _, _ => False
  | y :: r, id, vs, w => if y.id = id then y.go vs w else Ways.out r id vs w
theorem Ways.ctx_cons (y : Way) (X : Ways) : Ways.ctx (y :: X) = (y.id, y.keep) :: Ways.ctx X := rfl
def itN (F : (List Value → World → Prop) → List Value → World → Prop) : Nat → List Value → World → Prop
  | 0, _, _ => False
  | n + 1, vs, w => F (itN F n) vs w
def after (Rt : List Value → World → Prop) (X : Ways) (K : List Value → World → Prop) : Res → Prop
  | .norm vs w => K vs w
  | .exit id vs w => X.out id vs w
  | .ret vs w => Rt vs w
def hold {α : Type} (x : Option α) (f : α → Prop) : Prop := match x with | some a => f a | none => False
theorem hold_iff {α : Type} {x : Option α} {f : α → Prop} : hold x f ↔ ∃ a, x = some a ∧ f a := by
  cases x <;> simp [hold]
@[simp] theorem hold_some {α : Type} (a : α) (f : α → Prop) : hold (some a) f = f a := rfl
open Classical in
noncomputable def okIf (w : World) (c : Prop) : Option Res := if c then some (.norm [] w) else none
theorem okIf_some {w : World} {c : Prop} {r : Res} : okIf w c = some r ↔ c ∧ r = .norm [] w := by
  unfold okIf
  split
  · rename_i h; simp [h]; exact eq_comm
  · rename_i h; simp [h]
/-! ### a region with two effects in no order -/
def nthN (l : List Nat) (i : Nat) : Nat := l.getD i 0
def permOk (n : Nat) (s p : List Nat) : Bool := (List.range n).all fun i => Nat.blt (nthN s i) n && Nat.blt (nthN p i) n && Nat.beq (nthN p (nthN s i)) i && Nat.beq (nthN s (nthN p i)) i
/-- an operation at another place, with more edges -/
def turnOp (s : List Nat) (o : Oper) (ex : List Edge) : Oper := { o with after := (o.after.toList.map (fun e => (⟨nthN s e.on, e.ground⟩ : Edge)) ++ ex).toArray, guard := o.guard.map fun g => (nthN s g.1, g.2) }
def noOper : Oper := ⟨none, .move (.const undef), 0, "", #[], none⟩
/-- the places, the operation at a behind the j-th of a chain (0: ahead of all) -/
def placeAt (n a : Nat) (cs : List Nat) (j : Nat) : List Nat :=
  let l := (List.range n).filter fun i => !Nat.beq i a
  match j with
  | 0 => a :: l
  | j + 1 => l.flatMap fun i => if Nat.beq i (nthN cs j) = true then [i, a] else [i]
def backOf (n : Nat) (p : List Nat) : List Nat := (List.range n).map fun i => p.idxOf i
def extra (a : Nat) (cs : List Nat) (j : Nat) (s : List Nat) (i : Nat) : List Edge :=
  (if Nat.beq i a = true then (match j with | 0 => [] | j + 1 => [⟨nthN s (nthN cs j), .data⟩]) else []) ++ (if (Nat.blt j cs.length && Nat.beq i (nthN cs j)) = true then [⟨nthN s a, .data⟩] else [])
/-- the operations at other places -/
def turned (ops : List Oper) (s p : List Nat) (ex : Nat → List Edge) : List Oper :=
  (List.range ops.length).map fun k => turnOp s (ops.getD (nthN p k) noOper) (ex (nthN p k))
def order (ops : List Oper) (a : Nat) (cs : List Nat) (j : Nat) : List Oper :=
  let p := placeAt ops.length a cs j
  let s := backOf ops.length p
  turned ops s p (extra a cs j s)
def manyOk (P : Program) (nt : Nat) (ops : List Oper) (a : Nat) (cs : List Nat) : Bool :=
  regionOk nt ops && Nat.blt a ops.length && cs.all (fun c => Nat.blt c ops.length && !Nat.beq c a) &&
  (ops.zipIdx.all fun (o, i) => o.after.toList.all (fun e => !Region.binds .any e || Nat.blt e.on i)) &&
  ((List.range (cs.length + 1)).all fun j => permOk ops.length (backOf ops.length (placeAt ops.length a cs j)) (placeAt ops.length a cs j) && regionOk nt (order ops a cs j) && flatOk P (order ops a cs j))
theorem permOk_spec {n : Nat} {s p : List Nat} (h : permOk n s p = true) {i : Nat} (hi : i < n) : nthN s i < n ∧ nthN p i < n ∧ nthN p (nthN s i) = i ∧ nthN s (nthN p i) = i := by
  unfold permOk at h
  have := List.all_eq_true.mp h i (List.mem_range.mpr hi)
  simp only [Bool.and_eq_true, Nat.blt_eq, Nat.beq_eq] at this
  exact ⟨this.1.1.1, this.1.1.2, this.1.2, this.2⟩
theorem turned_get {ops : List Oper} {s p : List Nat} {ex : Nat → List Edge} {k : Nat} (hk : k < ops.length) : (turned ops s p ex)[k]? = some (turnOp s (ops.getD (nthN p k) noOper) (ex (nthN p k))) := by
  unfold turned
  rw [List.getElem?_map, List.getElem?_range hk]
  rfl
theorem turned_at {ops : List Oper} {s p : List Nat} {ex : Nat → List Edge} {i : Nat} {o : Oper} (h : permOk ops.length s p = true) (ho : ops[i]? = some o) : (turned ops s p ex)[nthN s i]? = some (turnOp s o (ex i)) := by
  have hi : i < ops.length := (List.getElem?_eq_some_iff.mp ho).1
  obtain ⟨h1, _, h3, _⟩ := permOk_spec h hi
  rw [turned_get h1, h3]
  simp [List.getD_eq_getElem?_getD, ho]
theorem turn_of {nt : Nat} {ops : List Oper} {s p : List Nat} {ex : Nat → List Edge} (h : permOk ops.length s p = true) (hreg : regionOk nt ops = true) : Turn ops (turned ops s p ex) (nthN s) where
  len := by simp [turned]
  lt := fun i hi => (permOk_spec h hi).1
  inj := fun i j hi hj e => by rw [← (permOk_spec h hi).2.2.1, e, (permOk_spec h hj).2.2.1]
  onto := fun k hk => ⟨nthN p k, (permOk_spec h hk).2.1, (permOk_spec h hk).2.2.2⟩
  same := fun i o ho => ⟨_, turned_at h ho, rfl⟩
  guard := fun i o g ho hg => by
    have := ((regionOk_spec hreg ho).2 g.1 g.2 hg).1
    have hi : i < ops.length := (List.getElem?_eq_some_iff.mp ho).1
    omega
theorem turn_ready {ops : List Oper} {a j : Nat} {cs s p : List Nat} (h : permOk ops.length s p = true) (hal : a < ops.length) (hcs : ∀ c ∈ cs, c < ops.length)
    (hback : ∀ (i : Nat) (o : Oper), ops[i]? = some o → ∀ e ∈ o.after.toList, Region.binds .any e = true → e.on < i) (hj : j ≤ cs.length)
    {listed listed' : Array Bool} (hl : Lst ops.length (nthN s) listed listed') {i : Nat} (hn : Nxt cs a j i listed) (hi : i ∈ Region.ready .any ops.toArray listed) : nthN s i ∈ Region.ready .any (turned ops s p (extra a cs j s)).toArray listed' := by
  obtain ⟨hun, o, ho', hdep⟩ := mem_ready.mp hi
  have ho : ops[i]? = some o := by simpa using ho'
  have hil : i < ops.length := (List.getElem?_eq_some_iff.mp ho).1
  obtain ⟨l1, l2, l3⟩ := hl
  have hlt := (permOk_spec h hil).1
  have gd : ∀ (l : Array Bool) j, l.size = ops.length → j < ops.length → l.getD j true = l.getD j false := by
    intro l j hs hj
    simp [show j < l.size by omega]
  refine mem_ready.mpr ⟨by rw [gd _ _ l2 hlt, l3 i hil, ← gd _ _ l1 hil]; exact hun, _, by simpa using turned_at h ho, fun e he hb => ?_⟩
  have he : e ∈ o.after.toList.map (fun e => (⟨nthN s e.on, e.ground⟩ : Edge)) ++ extra a cs j s i := by simpa only [turnOp, List.mem_toArray, Array.mem_toList_iff] using he
  rw [List.mem_append, List.mem_map] at he
  rcases he with ⟨e0, h1, rfl⟩ | he
  · have hb0 : Region.binds .any e0 = true := hb
    have := hback i o ho e0 h1 hb0
    show listed'.getD (nthN s e0.on) false = true
    rw [l3 e0.on (by omega)]
    exact hdep e0 (by simpa using h1) hb0
  · unfold extra at he
    rw [List.mem_append] at he
    rcases he with he | he
    · split at he
      · rename_i hia
        rw [Nat.beq_eq] at hia
        cases j with
        | zero => simp at he
        | succ j =>
          simp only [List.mem_singleton] at he
          subst he
          have hc : cs[j]? = some (cs[j]'(by omega)) := List.getElem?_eq_getElem (by omega)
          have hcn : nthN cs j = cs[j]'(by omega) := by simp [nthN, List.getD_eq_getElem?_getD, hc]
          show listed'.getD (nthN s (nthN cs j)) false = true
          rw [hcn, l3 _ (hcs _ (List.getElem_mem _))]
          exact hn.1 _ (by omega) (by simp) hia
      · simp at he
    · split at he
      · rename_i hjc
        simp only [Bool.and_eq_true, Nat.blt_eq, Nat.beq_eq] at hjc
        simp only [List.mem_singleton] at he
        subst he
        have hc : cs[j]? = some (cs[j]'hjc.1) := List.getElem?_eq_getElem hjc.1
        have hcn : nthN cs j = cs[j]'hjc.1 := by simp [nthN, List.getD_eq_getElem?_getD, hc]
        show listed'.getD (nthN s a) false = true
        rw [l3 _ hal]
        exact hn.2 _ hc (hjc.2.trans hcn)
      · simp at he
def wOrders (F : List Oper → Prop) : List (List Oper) → Prop
  | [] => True
  | x :: r => F x ∧ wOrders F r
theorem wOrders_mem {F : List Oper → Prop} : ∀ {l : List (List Oper)}, wOrders F l → ∀ x ∈ l, F x
  | [], _, _, h => by cases h
  | y :: r, h, x, hx => by
    rcases List.mem_cons.mp hx with rfl | hx
    · exact h.1
    · exact wOrders_mem h.2 x hx
section
variable (P : Program) (call : CallF) (rs : List Nat) (nt : Nat) (Rt : List Value → World → Prop)
noncomputable def wCode : Code → WAnn → Ways → Env → World → (Env → World → Prop) → Prop
  | .seq a b, .s x y, X, e, w, K => wCode a x X e w fun e w => wCode b y X e w K
  | .cond t a b, .c x y, X, e, w, K => hold (ev e t) fun v => hold (asB v) fun t => if t = true then wCode a x X e w K else wCode b y X e w K
  | .block id a, .b Kp x, X, e, w, K => wCode a x (⟨id, Kp, fun vs w => K (ofList 0 Kp vs) w⟩ :: X) e w fun e w => hold (gets e Kp) fun vs => K (ofList 0 Kp vs) w
  | .loop a, .l Kp x, X, e, w, _ => hold (gets e Kp) fun vs => ∃ n, itN (fun rec vs w => wCode a x X (ofList 0 Kp vs) w fun e w => hold (gets e Kp) fun vs => rec vs w) n vs w
  | .region i ops dr, .r, X, e, w, K => aCode P call rs nt (.region i ops dr) .z [] e w (fun e' w' => okIf w (K e' w')) = some (.norm [] w)
  | .region _ ops true, .t a cs Kp, X, e, w, K => manyOk P nt ops.toList a cs = true ∧
      wOrders (fun all => aFlat P call all all e w.drew [] (fun e' w' log => chkThen (chkAll log (loose P all)) (okIf w (hold (gets e' Kp) fun vs => K (ofList 0 Kp vs) w'))) = some (.norm [] w)) ((List.range (cs.length + 1)).map (order ops.toList a cs))
  | .skip, .r, X, e, w, K => K e w
  | .exit id, .r, X, e, w, K => hold (Ctx.keep X.ctx id) fun Kp => hold (gets e Kp) fun vs => X.out id vs w
  | .ret, .r, X, e, w, K => hold (gets e rs) fun vs => Rt vs w
  | c, .d Kp x, X, e, w, K => hold (aCode P call rs nt c x X.ctx e w (fun e w => (gets e Kp).ebind fun vs => some (.norm vs w))) (after Rt X (fun vs w => K (ofList 0 Kp vs) w))
  | _, _, _, _, _, _ => False
end
theorem wd_ok {P : Program} {call : CallF} (hc : CallOk P call) (hm : P.follows .mixedOrders = true) {rs : List Nat} {nt : Nat} {ds : List Deferred} {Rt : List Value → World → Prop} {c : Code} {x : Ann} {Kp : List Nat} {X : Ways} {e : Env} {w : World} {K : Env → World → Prop}
    (h : hold (aCode P call rs nt c x X.ctx e w (fun e w => (gets e Kp).ebind fun vs => some (.norm vs w))) (after Rt X (fun vs w => K (ofList 0 Kp vs) w))) :
      ∀ (Q : Exit → Act → World → Prop) (a : Act), From nt ds a → Agree e a →
        (∀ e' w', K e' w' → ∀ a', From nt ds a' → Agree e' a' → Q .normal a' w') →
        (∀ id vs w', X.out id vs w' → ∀ Kp, Ctx.keep X.ctx id = some Kp → ∀ a', From nt ds a' → Has Kp vs a' → Q (.exit id) a' w') →
        (∀ vs w', Rt vs w' → ∀ a', From nt ds a' → Has rs vs a' → Q .ret a' w') →
        c.wp P Q a w := by
  intro Q a hf ha hk hx hr
  obtain ⟨r, h1, h2⟩ := hold_iff.mp h
  refine aCode_ok hc hm c x _ e w _ r h1 Q a hf ha ?_ ?_ ?_
  · intro e' w' h5 a' hf' ha'
    simp only [Option.ebind_eq, Option.bind_eq_some_iff, Option.some.injEq] at h5
    obtain ⟨vs, h6, rfl⟩ := h5
    exact hk _ _ h2 a' hf' (agree_gets ha' h6)
  · rintro id vs w' rfl Kp' hK a' hf' hh
    exact hx id vs w' h2 Kp' hK a' hf' hh
  · rintro vs w' rfl a' hf' hh
    exact hr vs w' h2 a' hf' hh
theorem wt_ok {P : Program} {call : CallF} (hc : CallOk P call) (hm : P.follows .mixedOrders = true) {nt id : Nat} {ops : Array Oper} {a : Nat} {cs Kp : List Nat} {e : Env} {w : World} {K : Env → World → Prop}
    (h : manyOk P nt ops.toList a cs = true ∧
      wOrders (fun all => aFlat P call all all e w.drew [] (fun e' w' log => chkThen (chkAll log (loose P all)) (okIf w (hold (gets e' Kp) fun vs => K (ofList 0 Kp vs) w'))) = some (.norm [] w)) ((List.range (cs.length + 1)).map (order ops.toList a cs))) :
    ∀ (Q : Exit → Act → World → Prop) (b : Act), nt ≤ b.tmps.size → Agree e b →
      (∀ e' w', K e' w' → ∀ a', a'.tmps.size = b.tmps.size → a'.defers = b.defers → Agree e' a' → Q .normal a' w') → (Code.region id ops true).wp P Q b w := by
  intro Q b hnt ha hQ
  obtain ⟨hok, hf⟩ := h
  unfold manyOk at hok
  simp only [Bool.and_eq_true, Nat.blt_eq] at hok
  obtain ⟨⟨⟨⟨k1, k2⟩, k3⟩, k4⟩, k5⟩ := hok
  have hcs : ∀ c ∈ cs, c < ops.toList.length ∧ c ≠ a := by
    intro c hc
    have := List.all_eq_true.mp k3 c hc
    simp only [Bool.and_eq_true, Nat.blt_eq, Bool.not_eq_true'] at this
    refine ⟨this.1, fun e => ?_⟩
    have h2 := this.2
    rw [e] at h2
    simp at h2
  have hback : ∀ (i : Nat) (o : Oper), ops.toList[i]? = some o → ∀ e ∈ o.after.toList, Region.binds .any e = true → e.on < i := by
    intro i o ho e he hb
    have := List.all_eq_true.mp (List.all_eq_true.mp k4 (o, i) (List.mem_zipIdx_iff_getElem?.mpr (by simpa using ho))) e he
    rw [hb] at this
    simpa using this
  have hj : ∀ j, j ≤ cs.length → permOk ops.toList.length (backOf ops.toList.length (placeAt ops.toList.length a cs j)) (placeAt ops.toList.length a cs j) = true ∧ regionOk nt (order ops.toList a cs j) = true ∧ flatOk P (order ops.toList a cs j) = true := by
    intro j hj
    have := List.all_eq_true.mp k5 j (List.mem_range.mpr (by omega))
    simp only [Bool.and_eq_true] at this
    exact ⟨this.1.1, this.1.2, this.2⟩
  have one : ∀ j, j ≤ cs.length → ∃ (L : List Ent) (a' : Act) (w' : World), LexRun P call (order ops.toList a cs j) (order ops.toList a cs j) b w.drew L a' w' ∧ (∀ i m, (i, m) ∈ loose P (order ops.toList a cs j) → ∃ x y, L[i]? = some x ∧ L[m]? = some y ∧ x.chk y.before ∧ x.chk y.after) ∧
        ∀ b' W, SlotsAt (order ops.toList a cs j) L b (fun i => i < (order ops.toList a cs j).length) b' → WorldOf P (order ops.toList a cs j) L w.drew (fun i => i < (order ops.toList a cs j).length) W → Q .normal b' W := by
    intro j hjl
    obtain ⟨_, hreg, hflat⟩ := hj j hjl
    have hf := wOrders_mem hf _ (List.mem_map.mpr ⟨j, List.mem_range.mpr (by omega), rfl⟩)
    generalize order ops.toList a cs j = all at *
    have hF := flat_of hflat
    obtain ⟨logs, e', w', h1, h2⟩ := aFlat_ok hc hreg all 0 e w.drew [] _ _ (fun m _ => by rw [Nat.zero_add]) hf
    simp only [List.nil_append] at h1
    unfold chkThen at h1
    split at h1
    case isFalse => cases h1
    rename_i hchk
    obtain ⟨L, a', l1, l2, l3, l4⟩ := h2 b hnt ha
    refine ⟨L, a', w', l1, ?_, ?_⟩
    · intro i m him
      obtain ⟨x, y, c1, c2, c3, c4⟩ := chkAll_mem hchk i m him
      rw [l3, List.getElem?_map, Option.map_eq_some_iff] at c1 c2
      obtain ⟨x', d1, rfl⟩ := c1
      obtain ⟨y', d2, rfl⟩ := c2
      exact ⟨x', y', d1, d2, c3, c4⟩
    · intro b' W b1 b2
      obtain ⟨rfl, g2, g3⟩ := last_same hF hreg hnt l1 b1 b2
      obtain ⟨vs, v1, v2⟩ := hold_iff.mp (okIf_some.mp h1).1
      exact hQ _ W v2 b' g3.size g3.defers (agree_gets (e := e') (fun t v ht => by rw [g2 t]; exact l2 t v ht) v1)
  let Ls : Nat → List Ent := fun j => if h : j ≤ cs.length then (one j h).choose else []
  let As : Nat → Act := fun j => if h : j ≤ cs.length then (one j h).choose_spec.choose else b
  let Ws : Nat → World := fun j => if h : j ≤ cs.length then (one j h).choose_spec.choose_spec.choose else w
  have sp : ∀ j, j ≤ cs.length → LexRun P call (order ops.toList a cs j) (order ops.toList a cs j) b w.drew (Ls j) (As j) (Ws j) ∧ (∀ i m, (i, m) ∈ loose P (order ops.toList a cs j) → ∃ x y, (Ls j)[i]? = some x ∧ (Ls j)[m]? = some y ∧ x.chk y.before ∧ x.chk y.after) ∧
        ∀ b' W, SlotsAt (order ops.toList a cs j) (Ls j) b (fun i => i < (order ops.toList a cs j).length) b' → WorldOf P (order ops.toList a cs j) (Ls j) w.drew (fun i => i < (order ops.toList a cs j).length) W → Q .normal b' W := by
    intro j h
    have := (one j h).choose_spec.choose_spec.choose_spec
    simp only [Ls, As, Ws, h, dif_pos]
    exact this
  refine wp_region_any hm ?_
  have key := many_orders (ops := ops.toList) (cs := cs) (a := a) (all := order ops.toList a cs) (σ := fun j => nthN (backOf ops.toList.length (placeAt ops.toList.length a cs j))) (L := Ls) (a0 := b) (w0 := w.drew) hc
    (fun j h => turn_of (hj j h).1 k1) hback (fun j h => flat_of (hj j h).2.2) (fun j h => (hj j h).2.1) hnt (fun j h => (sp j h).1) (fun j h => (sp j h).2.1) (Q := Q) (fun j h => (sp j h).2.2) k2 (fun h => (hcs a h).2 rfl)
    (fun j h listed listed' hl i hn hi => turn_ready (hj j h).1 k2 (fun c hc => (hcs c hc).1) hback h hl hn hi)
    ops.toList.length (Array.replicate ops.size false) b w.drew (by simp) ?_ ?_ ?_
  · rw [Array.toArray_toList] at key
    simpa using key
  · have : ∀ n, n ≤ ops.size → un (Array.replicate ops.size false) n = n := by
      intro n
      induction n with
      | zero => intro _; rfl
      | succ n ih => intro hn; simp only [un]; rw [ih (by omega)]; simp [show n < ops.size by omega]
    simpa using this ops.size (Nat.le_refl _)
  · rw [getD_replicate_false]
  · intro j h _
    refine ⟨Array.replicate ops.size false, ⟨by simp, by simp, fun i hi => by rw [getD_replicate_false, getD_replicate_false]⟩, ?_, ?_, ?_⟩
    · intro i o hi; exact absurd hi (by rw [getD_replicate_false]; decide)
    · exact ⟨rfl, rfl, fun i o x t hi => absurd hi (by simp only [getD_replicate_false]; decide), fun t _ => rfl⟩
    · exact .inr ⟨fun m hm => absurd hm (by simp only [getD_replicate_false]; decide), rfl⟩
theorem wCode_ok {P : Program} {call : CallF} (hc : CallOk P call) (hm : P.follows .mixedOrders = true) {rs : List Nat} {nt : Nat} {ds : List Deferred} {Rt : List Value → World → Prop} :
    ∀ (c : Code) (x : WAnn) (X : Ways) (e : Env) (w : World) (K : Env → World → Prop), wCode P call rs nt Rt c x X e w K →
      ∀ (Q : Exit → Act → World → Prop) (a : Act), From nt ds a → Agree e a →
        (∀ e' w', K e' w' → ∀ a', From nt ds a' → Agree e' a' → Q .normal a' w') →
        (∀ id vs w', X.out id vs w' → ∀ Kp, Ctx.keep X.ctx id = some Kp → ∀ a', From nt ds a' → Has Kp vs a' → Q (.exit id) a' w') →
        (∀ vs w', Rt vs w' → ∀ a', From nt ds a' → Has rs vs a' → Q .ret a' w') →
        c.wp P Q a w := by
  intro c
  induction c with
  | skip =>
    intro x X e w K h Q a hf ha hk hx hr
    cases x with
    | r => exact wp_skip (hk e w h a hf ha)
    | d Kp x => exact wd_ok hc hm h Q a hf ha hk hx hr
    | _ => exact h.elim
  | region id ops draw =>
    intro x X e w K h Q a hf ha hk hx hr
    cases x with
    | r =>
      refine region_ok hc hm h Q a hf.size ha fun e' w' h1 a' h2 h3 => ?_
      exact hk e' w' (okIf_some.mp h1).1 a' ⟨by rw [h2.size]; exact hf.size, by rw [h2.defers]; exact hf.defers⟩ h3
    | d Kp x => exact wd_ok hc hm h Q a hf ha hk hx hr
    | t a' cs Kp =>
      cases draw with
      | false => exact h.elim
      | true =>
        refine wt_ok hc hm h Q a hf.size ha fun e' w' h1 b h2 h3 h4 => ?_
        exact hk e' w' h1 b ⟨by rw [h2]; exact hf.size, by rw [h3]; exact hf.defers⟩ h4
    | _ => exact h.elim
  | seq c1 c2 ih1 ih2 =>
    intro x X e w K h Q a hf ha hk hx hr
    cases x with
    | s x y =>
      refine wp_seq (ih1 x X e w _ h _ a hf ha ?_ ?_ ?_)
      · intro e' w' h' a' hf' ha'
        exact ih2 y X e' w' K h' Q a' hf' ha' hk hx hr
      · exact hx
      · exact hr
    | d Kp x => exact wd_ok hc hm h Q a hf ha hk hx hr
    | _ => exact h.elim
  | cond t c1 c2 ih1 ih2 =>
    intro x X e w K h Q a hf ha hk hx hr
    cases x with
    | c x y =>
      obtain ⟨v, h1, h⟩ := hold_iff.mp h
      obtain ⟨b, h2, h3⟩ := hold_iff.mp h
      have hv : v = .bool b := by cases v <;> simp [asB] at h2; subst h2; rfl
      subst hv
      cases b with
      | true => exact wp_cond_true (ha.eval h1) (ih1 x X e w K (by simpa using h3) Q a hf ha hk hx hr)
      | false => exact wp_cond_false (ha.eval h1) (ih2 y X e w K (by simpa using h3) Q a hf ha hk hx hr)
    | d Kp x => exact wd_ok hc hm h Q a hf ha hk hx hr
    | _ => exact h.elim
  | block id c1 ih1 =>
    intro x X e w K h Q a hf ha hk hx hr
    cases x with
    | b Kp x =>
      refine wp_block (ih1 x _ e w _ h _ a hf ha ?_ ?_ ?_)
      · intro e' w' h a' hf' ha'
        obtain ⟨vs, h6, h7⟩ := hold_iff.mp h
        exact hk _ _ h7 a' hf' (agree_gets ha' h6)
      · intro i vs w' ho K' hK' a' hf' hh
        rw [Ways.ctx_cons, keep_cons] at hK'
        simp only [Ways.out] at ho
        simp only [Exit.inBlock]
        by_cases hi : i = id
        · subst hi
          simp only [if_true, Option.some.injEq] at hK' ho ⊢
          subst hK'
          exact hk _ _ ho a' hf' hh.agree
        · have hi' : ¬ id = i := fun h => hi h.symm
          simp only [hi, hi', if_false] at hK' ho ⊢
          exact hx i vs w' ho K' hK' a' hf' hh
      · exact hr
    | d Kp x => exact wd_ok hc hm h Q a hf ha hk hx hr
    | _ => exact h.elim
  | loop c1 ih1 =>
    intro x X e w K h Q a hf ha hk hx hr
    cases x with
    | l Kp x =>
      obtain ⟨vs0, h1, n, h2⟩ := hold_iff.mp h
      have key : ∀ (n : Nat) (vs : List Value) (w : World), itN (fun rec vs w => wCode P call rs nt Rt c1 x X (ofList 0 Kp vs) w fun e w => hold (gets e Kp) fun vs => rec vs w) n vs w → ∀ a, From nt ds a → Agree (ofList 0 Kp vs) a → Code.rounds P c1 Q n a w := by
        intro n
        induction n with
        | zero => intro vs w h; exact h.elim
        | succ n ih =>
          intro vs w h a hf ha
          rw [rounds_succ]
          refine ih1 x X _ _ _ h _ a hf ha ?_ hx hr
          intro e' w' h a' hf' ha'
          obtain ⟨vs, h6, h7⟩ := hold_iff.mp h
          exact ih _ _ h7 a' hf' (agree_gets ha' h6)
      exact wp_loop_rounds n (key n vs0 w h2 a hf (agree_gets ha h1))
    | d Kp x => exact wd_ok hc hm h Q a hf ha hk hx hr
    | _ => exact h.elim
  | exit id =>
    intro x X e w K h Q a hf ha hk hx hr
    cases x with
    | r =>
      obtain ⟨Kp, h1, h⟩ := hold_iff.mp h
      obtain ⟨vs, h2, h3⟩ := hold_iff.mp h
      exact wp_exit (hx id vs w h3 Kp h1 a hf (.of ha h2))
    | d Kp x => exact wd_ok hc hm h Q a hf ha hk hx hr
    | _ => exact h.elim
  | ret =>
    intro x X e w K h Q a hf ha hk hx hr
    cases x with
    | r =>
      obtain ⟨vs, h2, h3⟩ := hold_iff.mp h
      exact wp_ret (hr vs w h3 a hf (.of ha h2))
    | d Kp x => exact wd_ok hc hm h Q a hf ha hk hx hr
    | _ => exact h.elim
  | _ =>
    intro x X e w K h Q a hf ha hk hx hr
    cases x with
    | d Kp x => exact wd_ok hc hm h Q a hf ha hk hx hr
    | _ => exact h.elim
theorem callOk_run {P : Program} {ann : FuncId → Ann} {prim : Prim} (hm : P.follows .mixedOrders = true) (hp : PrimOk P prim) : CallOk P (run P ann prim) :=
  ⟨fun f args w r h => (calls_of_tells hm hp (tells_of_run h)).1, fun f args w r h => (calls_of_tells hm hp (tells_of_run h)).2⟩
/-- a function by its code as a condition -/
theorem calls_of_w {P : Program} {ann : FuncId → Ann} {prim : Prim} (hm : P.follows .mixedOrders = true) (hp : PrimOk P prim) {f : FuncId} {fn : Func} {c : Code} {rs : List Nat} {args : Array Value} {w : World} (hf : P.funcs[f]? = some fn) (hb : fn.body = some c) (hts : tmpsOf fn.results.toList = some rs) {x : WAnn} {Q : Value → World → Prop}
    (h : wCode P (run P ann prim) rs fn.ntmps (fun vs w' => Q (outcome vs) w') c x [] (ofArgs args) w (fun e w' => hold (gets e rs) fun vs => Q (outcome vs) w')) : Calls P f args w fun e w' => ∃ v, e = .returned v ∧ Q v w' := by
  refine calls_of_wp hf hb ?_
  have hargs : Agree (ofArgs args) { tmps := args ++ Array.replicate (fn.ntmps - args.size) undef, defers := [] } := by
    intro t v ht
    simp only [ofArgs] at ht
    have hlt : t < args.size := (Array.getElem?_eq_some_iff.mp ht).1
    rw [Array.getElem?_append_left hlt]; exact ht
  refine wCode_ok (ds := []) (callOk_run hm hp) hm c x [] _ w _ h _ _ ⟨by simp; omega, rfl⟩ hargs ?_ ?_ ?_
  · intro e' w' h a' hf' ha'
    obtain ⟨vs, h1, h2⟩ := hold_iff.mp h
    exact ⟨hf'.defers, _, results_ok hts (.of ha' h1) w', _, rfl, h2⟩
  · intro id vs w' ho
    exact ho.elim
  · intro vs w' hq a' hf' hh
    exact ⟨hf'.defers, _, results_ok hts hh w', _, rfl, hq⟩
@[simp] theorem okIf_iff {w : World} {c : Prop} : (okIf w c = some (.norm [] w)) = c := propext ⟨fun h => (okIf_some.mp h).1, fun h => okIf_some.mpr ⟨h, rfl⟩⟩
theorem wOrders_cons {F : List Oper → Prop} {x : List Oper} {r : List (List Oper)} : wOrders F (x :: r) = (F x ∧ wOrders F r) := rfl
/-- a loop, by a measure -/
theorem itN_down {F : (List Value → World → Prop) → List Value → World → Prop} {I : Nat → List Value → World → Prop} (h : ∀ m vs w, I m vs w → ∀ rec, (∀ k vs w, k < m → I k vs w → rec vs w) → F rec vs w) {m : Nat} {vs : List Value} {w : World} (hI : I m vs w) : ∃ n, itN F n vs w := by
  have key : ∀ n m vs w, m ≤ n → I m vs w → itN F (n + 1) vs w := by
    intro n
    induction n with
    | zero => intro m vs w hm hI; exact h m vs w hI _ fun k vs w hk => absurd hk (by omega)
    | succ n ih => intro m vs w hm hI; exact h m vs w hI _ fun k vs w hk hI' => ih k vs w (by omega) hI'
  exact ⟨m + 1, key m m vs w (Nat.le_refl _) hI⟩
end Go.Sh
