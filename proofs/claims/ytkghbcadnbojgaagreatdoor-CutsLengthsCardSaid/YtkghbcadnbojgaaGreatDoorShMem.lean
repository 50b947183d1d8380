/- The layer 'Sh', sixth part: memory: stores into rows, copies, bit operations, order by omega. No condition but those that each statement names. -/
import Derived.Test.YtkghbcadnbojgaaGreatDoorShOpen
import Derived.Laws.CopyRow
import Derived.Laws.OwnMore
namespace Go.Sh
open Go Go.RowKit
set_option linter.unusedVariables false
set_option linter.unusedSimpArgs false

section
variable {P : Program}
theorem p_and (t : TypeId) (x y : Operand) (k : IntKind) (a b : Int) : prun P (do eqGuard .and t x y (.int k a) (.int k b); binOp .and t (.int k a) (.int k b)) = some (.int k (bits .and k a b)) := by simp [eqGuard, binOp, Op.intBits]; rfl
theorem p_or (t : TypeId) (x y : Operand) (k : IntKind) (a b : Int) : prun P (do eqGuard .or t x y (.int k a) (.int k b); binOp .or t (.int k a) (.int k b)) = some (.int k (bits .or k a b)) := by simp [eqGuard, binOp, Op.intBits]; rfl
theorem p_xor (t : TypeId) (x y : Operand) (k : IntKind) (a b : Int) : prun P (do eqGuard .xor t x y (.int k a) (.int k b); binOp .xor t (.int k a) (.int k b)) = some (.int k (bits .xor k a b)) := by simp [eqGuard, binOp, Op.intBits]; rfl
theorem p_andNot (t : TypeId) (x y : Operand) (k : IntKind) (a b : Int) : prun P (do eqGuard .andNot t x y (.int k a) (.int k b); binOp .andNot t (.int k a) (.int k b)) = some (.int k (bits .andNot k a b)) := by simp [eqGuard, binOp_andNot, intBits_andNot]
theorem p_shl (t : TypeId) (x y : Operand) (k k' : IntKind) (a b : Int) (hb : 0 ≤ b) : prun P (do eqGuard .shl t x y (.int k a) (.int k' b); binOp .shl t (.int k a) (.int k' b)) = some (.int k (k.wrap (a * 2 ^ min b.toNat k.bits))) := by
  have : ¬ b < 0 := by omega
  simp [eqGuard, binOp, Op.shift, this]
theorem p_shr (t : TypeId) (x y : Operand) (k k' : IntKind) (a b : Int) (hb : 0 ≤ b) : prun P (do eqGuard .shr t x y (.int k a) (.int k' b); binOp .shr t (.int k a) (.int k' b)) = some (.int k (a.fdiv (2 ^ min b.toNat k.bits))) := by
  have : ¬ b < 0 := by omega
  simp [eqGuard, binOp, Op.shift, this]
theorem wrap_u8_range (x : Int) : 0 ≤ IntKind.u8.wrap x ∧ IntKind.u8.wrap x ≤ 255 := by
  simp [IntKind.wrap, IntKind.signed, IntKind.bits]; omega
theorem bits_u8 (op : BinOp) (a b : Int) : ∃ y : UInt8, bits op .u8 a b = y.toNat := by
  have key : ∀ z : Int, ∃ y : UInt8, IntKind.u8.wrap z = y.toNat := by
    intro z
    obtain ⟨h0, h1⟩ := wrap_u8_range z
    refine ⟨UInt8.ofNat (IntKind.u8.wrap z).toNat, ?_⟩
    simp
    omega
  cases op <;> first | exact key _ | exact ⟨0, rfl⟩
/-- one cell of a block -/
theorem Blk.store {w : World} {b : Nat} {e : TypeId} {cs : List Value} (h : Blk w b e cs) {t : TypeId} {i : TypeInfo} (hi : P.info? t = some i) (hs : i.size = 1) {j : Nat} (hj : j < cs.length) {v : Value} (hv : v.cells = #[v]) (ho : v.oneCell' = true) :
    erun P (Instr.storeAt t (.pointer (some ⟨b, j, none⟩)) v) w = some ((), w.setCell ⟨b, j, none⟩ v) :=
  store_one hi hs hv ho (by rw [h.cell]; exact List.getElem?_eq_getElem hj) (h.frozen j)
/-- one element of a row that is owned -/
theorem own_store {w : World} {base n c : Nat} {e : TypeId} {A : Option Addr} {xs : List Value} (h : w.ownsRow base e 1 (.slice A n c) n xs) {t : TypeId} {i : TypeInfo} (hi : P.info? t = some i) (hs : i.size = 1) {j : Nat} (hj : j < n) {v : Value} (hv : v.cells = #[v]) (ho : v.oneCell' = true) :
    ∃ a w', A = some a ∧ base ≤ a.block ∧ erun P (Instr.storeAt t (.pointer (some (a.add j))) v) w = some ((), w') ∧ w'.ownsRow base e 1 (.slice A n c) n (xs.set j v) ∧ w.grownBy w' (some a.block) := by
  rcases h.2 with ⟨h1, h2⟩ | ⟨g, cap, cur, hv', hb, _⟩
  · omega
  · simp only [Value.slice.injEq, true_and] at hv'
    obtain ⟨rfl, rfl⟩ := hv'
    have hx : xs.length = n := by simpa using h.1
    have hc := h.cellAt j (by omega)
    rw [List.getElem?_eq_getElem (by omega)] at hc
    obtain ⟨s1, s2⟩ := h.stored j v
    exact ⟨_, _, rfl, hb, by rw [addL, Nat.zero_add]; exact store_one hi hs hv ho hc (h.frozenAt j), s1, s2⟩

/-- copy, into a block -/
theorem e_copy {w : World} {b : Nat} {e0 : TypeId} {cur : List Value} (h : Blk w b e0 cur) {dT sT ty e : TypeId} {i : TypeInfo} (ht : P.underlying dT = some (.slice e)) (hi : P.info? e = some i) (hs : i.size = 1)
    {o dn dc sn sc : Nat} {A : Option Addr} {cs : List Value} (hr : Rd w A cs) (hl : cs.length = sn) (hnil : A = none → sc = 0) (hfit : o + min sn dn ≤ cur.length) (h1 : ∀ v ∈ cs, v.oneCell' = true) :
    ∃ w', erun P (Builtin.copy_ #[dT, sT] ty #[.slice (some ⟨b, o, none⟩) dn dc, .slice A sn sc]) w = some (.int .i64 (min sn dn : Nat), w') ∧ Blk w' b e0 (cur.take o ++ cs.take dn ++ cur.drop (o + min sn dn)) ∧ w.grownBy w' (some b) := by
  cases A with
  | none =>
    have hcs : cs = [] := hr
    subst hcs
    have hc := hnil rfl
    subst hc
    simp at hl
    subst hl
    refine ⟨w, erun_of_run (by have := run_copy_nil (P := P) w dT sT ty e ⟨b, o, none⟩ dn dc ht (by rw [hi]; rfl); simpa [goInt] using this), by simpa using h, grown_refl _ _⟩
  | some a =>
    have hn : (cs.take dn).length = Nat.min sn dn := by rw [List.length_take, hl]; exact Nat.min_comm _ _
    have := run_copy_row (P := P) w dT sT ty e b o dn dc a sn sc cur.toArray e0 (cs.take dn) ht (by rw [hi]; simp [hs]) h hn
      (fun j v hj => hr j v (by rw [List.getElem?_take] at hj; split at hj <;> first | exact hj | cases hj)) (by rw [hn]; simpa using hfit) (fun v hv => h1 v (List.mem_of_mem_take hv))
    rw [hn] at this
    refine ⟨_, erun_of_run this, ?_, ⟨rfl, rfl, rfl, by simp [World.setRow], fun k _ hk => ?_⟩⟩
    · have e1 := setRow_heap w b cur.toArray (cur.take o ++ cs.take dn ++ cur.drop (o + min sn dn)).toArray e0 (0, 0) h
      simpa [Blk] using e1
    · have hne : b ≠ k := fun e => hk (by rw [e])
      simp [World.setRow, Array.getElem?_modify, hne]
end
theorem own_drew {w : World} {base : Nat} {e : TypeId} {size n : Nat} {v : Value} {xs : List Value} (h : w.ownsRow base e size v n xs) : w.drew.ownsRow base e size v n xs := h
/-! ### appends -/
section
variable {P : Program}
/-- where the longer row lies: where it lay, or in new memory -/
theorem e_append2 {w : World} {base : Nat} {t ty e : TypeId} {i : TypeInfo} {z : Value} {size bytes : Nat} (ht : P.underlying t = some (.slice e)) (hi : P.info? e = some i) (hz : i.zero = some z)
    (hsize : i.size = size) (hby : i.bytes = bytes) (hzs : z.cells.size = size) (hsz : 0 < size) {v : Value} {n : Nat} {xs : List Value} (hown : w.ownsRow base e size v n xs)
    {A : Option Addr} {m c : Nat} {news : List Value} (hl : news.length = m * size) (hr : Rd w A news) (hnil : A = none → c = 0) (h1 : ∀ u ∈ news, u.oneCell' = true)
    (h63 : n + m ≤ maxLen) (hbytes : (n + m) * bytes ≤ 140737488355328) (hbase : base ≤ w.heap.size) :
    ∃ v' w', erun P (Builtin.append_ #[t, t] ty #[v, .slice A m c]) w = some (v', w') ∧ w'.ownsRow base e size v' (n + m) (xs ++ news) ∧ w.grownBy w' v.ownBlock ∧ (∀ k, v'.ownBlock = some k → v.ownBlock = some k ∨ w.heap.size ≤ k) := by
  obtain ⟨v', w', h2, h3, h4⟩ := e_append (P := P) ht hi hz hsize hby hzs hsz hown (ty := ty) hl hr hnil h1 h63 hbytes hbase
  refine ⟨v', w', h2, h3, h4, fun k hk => ?_⟩
  rcases hown.2 with ⟨rfl, rfl⟩ | ⟨g, cap, cur, rfl, hbg, hg, hnc, hcm, hcs, htake⟩
  · obtain ⟨v2, w2, k2, k3, _⟩ := e_append (P := P) ht hi hz hsize hby hzs hsz (World.ownsRow_nil w w.heap.size e size) (ty := ty) hl hr hnil h1 h63 hbytes (Nat.le_refl _)
    rw [k2] at h2
    obtain ⟨rfl, rfl⟩ := Prod.mk.inj (Option.some.inj h2)
    exact .inr (k3.lt k hk).1
  · cases A with
    | none =>
      have hn : news = [] := hr
      subst hn
      have hm : m = 0 := by
        have h : m * size = 0 := by simpa using hl.symm
        rcases Nat.mul_eq_zero.mp h with h | h
        · exact h
        · omega
      have hc := hnil rfl
      subst hm
      subst hc
      have := erun_of_run (run_append_owned_none (P := P) (w := w) base t ty e i size ht hi _ n xs hown)
      rw [this] at h2
      obtain ⟨rfl, rfl⟩ := Prod.mk.inj (Option.some.inj h2)
      exact .inl hk
    | some a =>
      subst hsize
      subst hby
      by_cases hroom : n + m ≤ cap
      · have hfit : n * i.size + news.length ≤ cur.size := by rw [hl, hcs, ← Nat.add_mul]; exact Nat.mul_le_mul_right _ hroom
        have := erun_of_run (run_append_room (P := P) w t ty e i ht hi g n cap cur hg a m c news hl hr h1 hroom hfit)
        rw [this] at h2
        obtain ⟨rfl, _⟩ := Prod.mk.inj (Option.some.inj h2)
        exact .inl hk
      · have holds : ∀ j u, xs[j]? = some u → w.cell? ((⟨g, 0, none⟩ : Addr).add j) = some u := hown.cells (g := g) rfl
        have hsmall : n + m ≤ 9223372036854775807 := by simp only [maxLen] at h63; omega
        have := erun_of_run (run_append_grow (P := P) w t ty e i z ht hi hz ⟨g, 0, none⟩ n cap xs hown.1 holds a m c news hl hr (by omega) (by omega) (growslice_fits (by omega) hbytes))
        rw [this] at h2
        obtain ⟨rfl, _⟩ := Prod.mk.inj (Option.some.inj h2)
        simp [Value.ownBlock] at hk
        exact .inr (by omega)
/-- what is written first into a row, then into where it lies now -/
theorem grown_row {w1 w2 w3 : World} {r1 r2 : Option Nat} (h1 : w1.grownBy w2 r1) (h2 : w2.grownBy w3 r2) (h : ∀ k, r2 = some k → r1 = some k ∨ w1.heap.size ≤ k) : w1.grownBy w3 r1 :=
  ⟨h2.os.trans h1.os, h2.tape.trans h1.tape, h2.output.trans h1.output, Nat.le_trans h1.size h2.size, fun k hk hr =>
    (h2.block k (Nat.lt_of_lt_of_le hk h1.size) (fun e => by
      rcases h k e.symm with h | h
      · exact hr h.symm
      · omega)).trans (h1.block k hk hr)⟩
/-- a loop that writes one value over each element -/
theorem fill_own {f : List Value → World → Option Res} {w0 : World} {base n c : Nat} {e : TypeId} {A : Option Addr} {t : TypeId} {i : TypeInfo} (hi : P.info? t = some i) (hs : i.size = 1) {v : Value} (hv : v.cells = #[v]) (ho : v.oneCell' = true)
    (st : Nat → List Value) (r : World → Res) (hr : ∀ w vs w', r w ≠ .norm vs w')
    (step : ∀ j a w w', j < n → A = some a → erun P (Instr.storeAt t (.pointer (some (a.add j))) v) w = some ((), w') → f (st j) w = some (.norm (st (j + 1)) w'))
    (last : ∀ w, f (st n) w = some (r w)) {xs : List Value} (h : w0.ownsRow base e 1 (.slice A n c) n xs) :
    ∃ w', iter f (st 0) w0 = some (r w') ∧ w'.ownsRow base e 1 (.slice A n c) n (List.replicate n v) ∧ w0.grownBy w' (A.map (·.block)) := by
  have key := iter_down (f := f) (fun d vs w => ∃ j xs', vs = st j ∧ j + d = n ∧ w.ownsRow base e 1 (.slice A n c) n (List.replicate j v ++ xs') ∧ w0.grownBy w (A.map (·.block)))
    (fun q => ∃ w', q = r w' ∧ w'.ownsRow base e 1 (.slice A n c) n (List.replicate n v) ∧ w0.grownBy w' (A.map (·.block))) (by
      rintro d vs w ⟨j, xs', rfl, hj, hown, G⟩
      cases d with
      | zero =>
        obtain rfl : j = n := by omega
        have hx := hown.1
        have : xs' = [] := by simpa using hx
        subst this
        exact .inr ⟨_, last w, ⟨w, rfl, by simpa using hown, G⟩, hr w⟩
      | succ d =>
        obtain ⟨a, w', rfl, _, h1, h2, h3⟩ := own_store (P := P) hown hi hs (show j < n by omega) hv ho
        have hx := hown.1
        cases xs' with
        | nil => simp at hx; omega
        | cons x xs' =>
          refine .inl ⟨d, _, w', by omega, step j a w w' (by omega) rfl h1, ⟨j + 1, xs', rfl, by omega, ?_, grown_step G h3⟩⟩
          rw [List.set_append_right _ _ (by simp)] at h2
          simpa [List.replicate_succ'] using h2) n (st 0) w0 ⟨0, xs, rfl, by omega, by simpa using h, grown_refl _ _⟩
  obtain ⟨q, h1, w', rfl, h2, h3⟩ := key
  exact ⟨w', h1, h2, h3⟩
/-- a loop that appends one value, m times -/
theorem more_own {f : List Value → World → Option Res} {w0 : World} {base n m : Nat} {t ty e : TypeId} {i : TypeInfo} {z : Value} {bytes : Nat} (ht : P.underlying t = some (.slice e)) (hi : P.info? e = some i) (hz : i.zero = some z)
    (hsize : i.size = 1) (hby : i.bytes = bytes) (hzs : z.cells.size = 1) {x : Value} (ho : x.oneCell' = true)
    (st : Nat → Value → List Value) (r : Value → World → Res) (hr : ∀ v w vs w', r v w ≠ .norm vs w')
    (step : ∀ j v v' w w', j < m → erun P (Builtin.append_ #[t, t] ty #[v, .slice (some ⟨w.heap.size, 0, none⟩) 1 1]) (w.alloc (.cells #[x] e)) = some (v', w') → f (st j v) w = some (.norm (st (j + 1) v') w'))
    (last : ∀ v w, f (st m v) w = some (r v w)) (hlen : n + m ≤ maxLen) (hbytes : (n + m) * bytes ≤ 140737488355328) (hbase : base ≤ w0.heap.size) {v0 : Value} {xs : List Value} (h : w0.ownsRow base e 1 v0 n xs) :
    ∃ v w', iter f (st 0 v0) w0 = some (r v w') ∧ w'.ownsRow base e 1 v (n + m) (xs ++ List.replicate m x) ∧ w0.grownBy w' v0.ownBlock ∧ (∀ k, v.ownBlock = some k → v0.ownBlock = some k ∨ w0.heap.size ≤ k) := by
  have key := iter_down (f := f) (fun d vs w => ∃ j v, vs = st j v ∧ j + d = m ∧ w.ownsRow base e 1 v (n + j) (xs ++ List.replicate j x) ∧ w0.grownBy w v0.ownBlock ∧ (∀ k, v.ownBlock = some k → v0.ownBlock = some k ∨ w0.heap.size ≤ k))
    (fun q => ∃ v w', q = r v w' ∧ w'.ownsRow base e 1 v (n + m) (xs ++ List.replicate m x) ∧ w0.grownBy w' v0.ownBlock ∧ (∀ k, v.ownBlock = some k → v0.ownBlock = some k ∨ w0.heap.size ≤ k)) (by
      rintro d vs w ⟨j, v, rfl, hj, hown, G, hk⟩
      cases d with
      | zero =>
        obtain rfl : j = m := by omega
        exact .inr ⟨_, last v w, ⟨v, w, rfl, hown, G, hk⟩, hr v w⟩
      | succ d =>
        have g1 := World.grownBy_alloc w (.cells #[x] e) none
        have r1 : Rd (w.alloc (.cells #[x] e)) (some ⟨w.heap.size, 0, none⟩) [x] := by
          intro j v hj
          rw [addL, Nat.zero_add, World.cell?_alloc_new]
          simpa using hj
        obtain ⟨v', w', h1, h2, h3, h4⟩ := e_append2 (P := P) (ty := ty) ht hi hz hsize hby hzs (by decide) (hown.alloc (.cells #[x] e)) (m := 1) (c := 1) (news := [x]) rfl r1 (fun h => by cases h) (by simpa using ho) (by omega) (Nat.le_trans (Nat.mul_le_mul_right _ (by omega)) hbytes) (by have := G.size; simp; omega)
        have hs : w0.heap.size ≤ (w.alloc (.cells #[x] e)).heap.size := by have := G.size; simp; omega
        refine .inl ⟨d, _, w', by omega, step j v v' w w' (by omega) h1, ⟨j + 1, v', rfl, by omega, ?_, ?_, fun k hk' => ?_⟩⟩
        · simpa [List.replicate_succ', Nat.add_assoc] using h2
        · exact grown_row (grown_step G (grown_weak g1 _)) h3 hk
        · rcases h4 k hk' with h | h
          · exact hk k h
          · exact .inr (by omega)) m (st 0 v0) w0 ⟨0, v0, rfl, by omega, by simpa using h, grown_refl _ _, fun k hk => .inl hk⟩
  obtain ⟨q, h1, v, w', rfl, h2, h3, h4⟩ := key
  exact ⟨v, w', h1, h2, h3, h4⟩
end
/-! ### order, by omega -/
theorem lt_t {a b : Int} (h : a < b) : (a < b) = True := eq_true h
theorem lt_f {a b : Int} (h : b ≤ a) : (a < b) = False := eq_false (by omega)
theorem le_t {a b : Int} (h : a ≤ b) : (a ≤ b) = True := eq_true h
theorem le_f {a b : Int} (h : b < a) : (a ≤ b) = False := eq_false (by omega)
theorem eq_f {a b : Int} (h : a < b ∨ b < a) : (a = b) = False := eq_false (by omega)
/-- bytes that came in, as a list -/
theorem IsRow.bytes {w : World} {a : Option Addr} {len cap : Nat} {zs : List Int} (h : IsRow .u8 w a len cap zs) : ∃ l : List UInt8, l.length = len ∧ Rd w a (bv l) ∧ (a = none → cap = 0) ∧ len ≤ cap := by
  refine ⟨(zs.take len).map fun z => UInt8.ofNat z.toNat, by simp [h.len], ?_, h.nil, h.le.1⟩
  have := h.rd
  have e : bv ((zs.take len).map fun z => UInt8.ofNat z.toNat) = (zs.take len).map (Value.int .u8) := by
    unfold bv
    rw [List.map_map]
    apply List.map_congr_left
    intro z hz
    have := h.wf z (List.mem_of_mem_take hz)
    simp [Lit.wf, IntKind.min, IntKind.max, IntKind.signed, IntKind.bits] at this
    simp
    omega
  rw [e]
  exact this
theorem getElem?_bv (l : List UInt8) (i : Nat) (h : i < l.length) : (bv l)[i]? = some (.int .u8 (l[i]).toNat) := by simp [bv, h]
theorem bv_append (a b : List UInt8) : bv (a ++ b) = bv a ++ bv b := by simp [bv]
theorem bv_take (l : List UInt8) (n : Nat) : bv (l.take n) = (bv l).take n := by simp [bv]
theorem bv_drop (l : List UInt8) (n : Nat) : bv (l.drop n) = (bv l).drop n := by simp [bv]
theorem bv_set (l : List UInt8) (n : Nat) (x : UInt8) : bv (l.set n x) = (bv l).set n (.int .u8 x.toNat) := by simp [bv, List.map_set]
end Go.Sh
