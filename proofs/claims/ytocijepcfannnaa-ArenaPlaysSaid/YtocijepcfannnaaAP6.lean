/- ArenaPlays, sixth part: at the end. Conditions: those of each statement. -/
import Derived.Test.YtocijepcfannnaaAP5
namespace Go.Sh.Ytocijepcfannnaa
open Go Go.Proofs Go.RowKit
set_option linter.unusedVariables false
set_option linter.unusedSimpArgs false
theorem iter_once {f : List Value → World → Option Res} {vs vs' : List Value} {w w' : World} (h : f vs w = some (.norm vs' w')) {r : Res} (h' : iter f vs' w' = some r) : iter f vs w = some r := iter_of_rounds (.more h (rounds_of_iter h'))
theorem own_rebase {w : World} {base B : Nat} {e : TypeId} {size n : Nat} {v : Value} {xs : List Value} (h : w.ownsRow base e size v n xs) (hB : ∀ k, v.ownBlock = some k → B ≤ k) : w.ownsRow B e size v n xs := by
  obtain ⟨h0, h1⟩ := h
  refine ⟨h0, ?_⟩
  rcases h1 with h1 | ⟨g, cap, cur, rfl, h2, h3⟩
  · exact .inl h1
  · exact .inr ⟨g, cap, cur, rfl, hB g rfl, h3⟩
/-- one element put behind a row that has no room: the longer one lies in new memory -/
theorem own_push_full {P : Program} {w : World} {base : Nat} {t ty e : TypeId} {i : TypeInfo} {z : Value} {bytes : Nat} (ht : P.underlying t = some (.slice e)) (hi : P.info? e = some i) (hz : i.zero = some z)
    (hsize : i.size = 1) (hby : i.bytes = bytes) (hzs : z.cells.size = 1) {A : Option Addr} {n : Nat} {xs : List Value} (hown : w.ownsRow base e 1 (.slice A n n) n xs) {x : Value} (ho : x.oneCell' = true)
    (h63 : n + 1 ≤ maxLen) (hbytes : (n + 1) * bytes ≤ 140737488355328) (hbase : base ≤ w.heap.size) :
    ∃ v' w', erun P (Builtin.append_ #[t, t] ty #[.slice A n n, .slice (some ⟨w.heap.size, 0, none⟩) 1 1]) (w.alloc (.cells #[x] e)) = some (v', w') ∧ w'.ownsRow w.heap.size e 1 v' (n + 1) (xs ++ [x]) ∧ w.grownBy w' none := by
  have g1 := World.grownBy_alloc w (.cells #[x] e) none
  have r1 : Rd (w.alloc (.cells #[x] e)) (some ⟨w.heap.size, 0, none⟩) [x] := by
    intro j v hj
    rw [addL, Nat.zero_add, World.cell?_alloc_new]
    simpa using hj
  have own1 := hown.alloc (.cells #[x] e)
  rcases own1.2 with ⟨he, hn⟩ | ⟨g, cap, cur, hv, hbg, hg, hnc, hcm, hcs, htake⟩
  · subst hn
    have hx : xs = [] := by have := hown.1; simpa using this
    subst hx
    rw [he]
    obtain ⟨v2, w2, k2, k3, k4⟩ := e_append (P := P) ht hi hz hsize hby hzs (by decide) (World.ownsRow_nil (w.alloc (.cells #[x] e)) w.heap.size e 1) (ty := ty) (A := some ⟨w.heap.size, 0, none⟩) (m := 1) (c := 1) (news := [x]) rfl r1 (fun h => by cases h) (by simpa using ho) (by omega) (by omega) (by simp)
    exact ⟨v2, w2, k2, by simpa using k3, grown_trans g1 k4 fun k hk => by cases hk⟩
  · cases hv
    have holds : ∀ j u, xs[j]? = some u → (w.alloc (.cells #[x] e)).cell? ((⟨g, 0, none⟩ : Addr).add j) = some u := own1.cells (g := g) rfl
    have hsmall : n + 1 ≤ 9223372036854775807 := by simp only [maxLen] at h63; omega
    have run := erun_of_run (run_append_grow (P := P) (w.alloc (.cells #[x] e)) t ty e i z ht hi hz ⟨g, 0, none⟩ n n xs (by rw [hsize]; exact own1.1) holds ⟨w.heap.size, 0, none⟩ 1 1 [x] (by simp [hsize]) r1 (by omega) (by omega) (growslice_fits (by omega) (by rw [hby]; exact hbytes)))
    obtain ⟨v2, w2, k2, k3, k4⟩ := e_append (P := P) ht hi hz hsize hby hzs (by decide) own1 (ty := ty) (A := some ⟨w.heap.size, 0, none⟩) (m := 1) (c := 1) (news := [x]) rfl r1 (fun h => by cases h) (by simpa using ho) h63 hbytes (by simp; omega)
    rw [k2] at run
    obtain ⟨rfl, rfl⟩ := Prod.mk.inj (Option.some.inj run)
    refine ⟨_, _, k2, own_rebase k3 fun k hk => ?_, grown_trans g1 (grown_step (grown_drew _ none) (World.grownBy_alloc _ _ none)) (by simp)⟩
    simp [Value.ownBlock] at hk
    omega

theorem cvB (a : Int) : prun Try.prog (convert 3 5 (.int .i64 a)) = some (.int .u8 (IntKind.u8.wrap a)) := id (by kernel_rfl)
theorem cvS (a : Int) : prun Try.prog (convert 3 43 (.int .i64 a)) = some (.int .u16 (IntKind.u16.wrap a)) := id (by kernel_rfl)
theorem bool_not (b : Bool) : prun Try.prog (Op.unary .not (.bool b)) = some (.bool !b) := id (by kernel_rfl)
theorem bs23_1 (k : Int) (w : World) : erun Try.prog (Instr.buildSlice 23 1 #[(0, .int .u8 k)]) w = some (.slice (some ⟨w.heap.size, 0, none⟩) 1 1, w.alloc (.cells #[.int .u8 k] 5)) := id (by kernel_rfl)
theorem bs37_1 (k : Int) (w : World) : erun Try.prog (Instr.buildSlice 37 1 #[(0, .int .u16 k)]) w = some (.slice (some ⟨w.heap.size, 0, none⟩) 1 1, w.alloc (.cells #[.int .u16 k] 43)) := id (by kernel_rfl)
def kb (i : Nat) : Int := IntKind.i64.wrap (1 + (i : Int).tmod 250)
def ks (i : Nat) : Int := IntKind.i64.wrap (1000 + (i : Int))
theorem kb_eq (i : Nat) : IntKind.i64.wrap (1 + (i : Int).tmod 250) = kb i := id rfl
theorem ks_eq (i : Nat) : IntKind.i64.wrap (1000 + (i : Int)) = ks i := id rfl
def vb (i : Nat) : Value := .int .u8 (IntKind.u8.wrap (kb i))
def vs (i : Nat) : Value := .int .u16 (IntKind.u16.wrap (ks i))
/-- what is looked at in the end: the head, and the lists that were given -/
structure En (w : World) (base Wb : Nat) (VA VR VM VB VS : Value) (la lr lm : List Value) (bs ss : List (Value × List Value)) (n : Int) : Prop where
  hd : Hd w base Wb VA VR VM VB VS la lr lm (bs.map (·.1)) (ss.map (·.1)) n
  rb : Rows w base 5 bs
  rs : Rows w base 43 ss
def Caps (q : List (Value × List Value)) : Prop := ∀ p ∈ q, p.2.length ≤ 1073741824 ∧ ∃ A, p.1 = .slice A p.2.length p.2.length
/-- each row holds one value all over -/
def All (f : Nat → Value) (q : List (Value × List Value)) (k : Nat) : Prop := ∀ (j : Nat) p, j < k → q[j]? = some p → p.2 = List.replicate p.2.length (f j)
section
variable {w w' : World} {base Wb : Nat} {VA VR VM VB VS : Value} {la lr lm : List Value} {bs ss : List (Value × List Value)} {n : Int}
theorem En.new (h : En w base Wb VA VR VM VB VS la lr lm bs ss n) (hg : w.grownBy w' none) : En w' base Wb VA VR VM VB VS la lr lm bs ss n := ⟨h.hd.grew (grew_new (S := fun _ => False) hg) (fun _ _ h => h), h.rb.new hg, h.rs.new hg⟩

theorem En.form_b (h : En w base Wb VA VR VM VB VS la lr lm bs ss n) : ∃ A c, VB = .slice A bs.length c := by
  obtain ⟨A, c, h1, _⟩ := own_form h.hd.ob
  rw [List.length_map] at h1
  exact ⟨A, c, h1⟩
theorem En.cell_b (h : En w base Wb VA VR VM VB VS la lr lm bs ss n) {i : Nat} {p : Value × List Value} (hi : bs[i]? = some p) : ∃ a c, VB = .slice (some a) bs.length c ∧ w.cell? (a.add i) = some p.1 := by
  obtain ⟨A, c, h1⟩ := h.form_b
  subst h1
  have ob := h.hd.ob
  simp only [List.length_map] at ob
  obtain ⟨a, rfl, hc⟩ := own_cell ob (j := i) (v := p.1) (by simp [hi])
  exact ⟨a, c, rfl, hc⟩
/-- all of them are noughts -/
theorem ends_l0 (h : En w base Wb VA VR VM VB VS la lr lm bs ss n) (hz : ∀ p ∈ bs, p.2 = List.replicate p.2.length (.int .u8 0)) (hc : Caps bs) (hl : bs.length ≤ 8000000000000) :
    iter (f21.l0 C) [.pointer (some ⟨Wb, 0, none⟩), .int .i64 0] w = some (.exit 0 [.pointer (some ⟨Wb, 0, none⟩)] w) := by
  refine iter_up bs.length (fun i => [.pointer (some ⟨Wb, 0, none⟩), .int .i64 i]) (by simp) (fun i hi => ?_) ?_
  · obtain ⟨p, hp⟩ : ∃ p, p = bs[i] := ⟨_, rfl⟩
    have hip : bs[i]? = some p := by rw [hp]; exact List.getElem?_eq_getElem hi
    obtain ⟨a, c, hV, hcell⟩ := h.cell_b hip
    subst hV
    have hm := List.mem_of_getElem? hip
    obtain ⟨hb, A, hA⟩ := hc p hm
    have o := h.rb.part hip
    rw [hA] at o hcell
    have r := Rd.owned o
    rw [hz p hm] at r
    have a1 := full_ok (w := w) (A := A) (n := p.2.length) (cp := p.2.length) (c := 0) (by unfold maxLen; omega) r
    have ix := ix51 a bs.length c .i64 i (by omega) (by omega)
    simp only [Int.toNat_natCast, Nat.mul_one] at ix
    have e1 : IntKind.i64.wrap ((i : Int) + 1) = ((i + 1 : Nat) : Int) := (wrap_i64 (by omega) (by omega)).trans (by omega)
    simp (disch := omega) [f21.l0, addL, lt_t, h.hd.blk.cell_eq 3 rfl, ix, hcell, a1, bool_not, e1]
  · obtain ⟨A, c, hV⟩ := h.form_b
    subst hV
    simp [f21.l0, addL, h.hd.blk.cell_eq 3 rfl]
/-- one of them is written over -/
theorem ends_l2 (h : En w base Wb VA VR VM VB VS la lr lm bs ss n) (hc : Caps bs) {i : Nat} {p : Value × List Value} (hip : bs[i]? = some p) (hl : bs.length ≤ 8000000000000) :
    ∃ w', iter (f21.l2 C) [.pointer (some ⟨Wb, 0, none⟩), .int .i64 i, .int .i64 0] w = some (.exit 6 [.pointer (some ⟨Wb, 0, none⟩), .int .i64 i] w') ∧ En w' base Wb VA VR VM VB VS la lr lm (bs.set i (p.1, List.replicate p.2.length (vb i))) ss n ∧ Grew (fun k => base ≤ k) w w' := by
  have hil := (List.getElem?_eq_some_iff.mp hip).1
  obtain ⟨hb, A, hA⟩ := hc p (List.mem_of_getElem? hip)
  obtain ⟨aV, cV, hV, _⟩ := h.cell_b hip
  subst hV
  have ix := ix51 aV bs.length cV .i64 i (by omega) (by omega)
  simp only [Int.toNat_natCast, Nat.mul_one] at ix
  have key := iter_down (f := f21.l2 C) (fun d st w1 => ∃ (j : Nat) (xs' : List Value), st = [.pointer (some ⟨Wb, 0, none⟩), .int .i64 i, .int .i64 j] ∧ j + d = p.2.length ∧ xs'.length = d ∧ En w1 base Wb VA VR VM (.slice (some aV) bs.length cV) VS la lr lm (bs.set i (p.1, List.replicate j (vb i) ++ xs')) ss n ∧ Grew (fun k => base ≤ k) w w1)
    (fun r => ∃ w1, r = .exit 6 [.pointer (some ⟨Wb, 0, none⟩), .int .i64 i] w1 ∧ En w1 base Wb VA VR VM (.slice (some aV) bs.length cV) VS la lr lm (bs.set i (p.1, List.replicate p.2.length (vb i))) ss n ∧ Grew (fun k => base ≤ k) w w1) (by
      rintro d st w1 ⟨j, xs', rfl, hj, hx, E, G⟩
      have hget : (bs.set i (p.1, List.replicate j (vb i) ++ xs'))[i]? = some (p.1, List.replicate j (vb i) ++ xs') := List.getElem?_set_self hil
      obtain ⟨a1, c1, hV1, cell⟩ := E.cell_b hget
      rw [List.length_set] at hV1
      cases hV1
      cases d with
      | zero =>
        obtain rfl : j = p.2.length := by omega
        have : xs' = [] := by simpa using hx
        subst this
        rw [List.append_nil] at E
        refine .inr ⟨_, ?_, ⟨w1, rfl, E, G⟩, by simp⟩
        rw [hA] at cell
        simp (disch := omega) [f21.l2, addL, E.hd.blk.cell_eq 3 rfl, ix, cell]
      | succ d =>
        cases xs' with
        | nil => simp at hx
        | cons x xs' =>
          have o := E.rb.part hget
          have hlen : (List.replicate j (vb i) ++ x :: xs').length = p.2.length := by simp at hx ⊢; omega
          rw [hlen] at o
          rw [hA] at o cell
          obtain ⟨a, w2, e, hba, s2, o2, g2⟩ := own_store (P := Try.prog) o (t := 5) inf5 size5 (show j < p.2.length by omega) (v := vb i) rfl rfl
          subst e
          have ix2 := ix23 a p.2.length p.2.length .i64 j (by omega) (by omega)
          simp only [Int.toNat_natCast, Nat.mul_one] at ix2
          have hset : (List.replicate j (vb i) ++ x :: xs').set j (vb i) = List.replicate (j + 1) (vb i) ++ xs' := by
            rw [List.set_append_right _ _ (by simp)]
            simp [List.replicate_succ']
          rw [hset] at o2
          have Gs : Grew (fun k => p.1.ownBlock = some k) w1 w2 := grew_of g2 fun k hk => .inl (by rw [hA]; exact hk)
          have rb2 := E.rb.set hget Gs (p' := (p.1, List.replicate (j + 1) (vb i) ++ xs')) (by
            have hlen2 : (List.replicate (j + 1) (vb i) ++ xs').length = p.2.length := by simp at hx ⊢; omega
            rw [hlen2, hA]; exact o2) (fun k hk => .inl hk)
          rw [List.set_set] at rb2
          have o' : w1.ownsRow base 5 1 p.1 p.2.length (List.replicate j (vb i) ++ x :: xs') := by rw [hA]; exact o
          have E2 : En w2 base Wb VA VR VM (.slice (some aV) bs.length cV) VS la lr lm (bs.set i (p.1, List.replicate (j + 1) (vb i) ++ xs')) ss n := by
            have hm : ∀ y : List Value, (bs.set i (p.1, y)).map (·.1) = bs.map (·.1) := fun y => by rw [List.map_set]; exact set_same _ _ _ (by simp [hip])
            have hd := E.hd
            rw [hm] at hd
            have hd2 := hd.grew Gs fun k hk hp => hd.ne_own o' hp (by decide) (by decide) (by decide) (by decide) (by decide) (by decide) hk
            exact ⟨by rw [hm]; exact hd2, rb2, E.rs.grew Gs fun k hk hp => E.rs.ne_own o' (by decide) hp hk⟩
          have e1 : IntKind.i64.wrap ((j : Int) + 1) = ((j + 1 : Nat) : Int) := (wrap_i64 (by omega) (by omega)).trans (by omega)
          refine .inl ⟨d, _, w2, by omega, ?_, ⟨j + 1, xs', rfl, by omega, by simpa using hx, E2, G.step (Gs.weak fun k hk => .inl (o'.lt k hk).1)⟩⟩
          unfold vb at s2
          simp (disch := omega) [f21.l2, addL, lt_t, E.hd.blk.cell_eq 3 rfl, ix, cell, bin_rem, kb_eq, cvB, ix2, s2, e1]) p.2.length _ w ⟨0, p.2, rfl, by omega, rfl, by
            have : bs.set i (p.1, List.replicate 0 (vb i) ++ p.2) = bs := by simp; exact set_same _ _ _ hip
            rw [this]; exact h, Grew.refl _ _⟩
  obtain ⟨r, h1, w1, rfl, E, G⟩ := key
  exact ⟨w1, by simpa using h1, E, G⟩
/-- all of them are written over -/
theorem ends_l3 (h : En w base Wb VA VR VM VB VS la lr lm bs ss n) (hc : Caps bs) (hl : bs.length ≤ 8000000000000) :
    ∃ w' q, iter (f21.l3 C) [.pointer (some ⟨Wb, 0, none⟩), .int .i64 0] w = some (.exit 4 [.pointer (some ⟨Wb, 0, none⟩)] w') ∧ En w' base Wb VA VR VM VB VS la lr lm q ss n ∧ q.length = bs.length ∧ Caps q ∧ All vb q q.length ∧ Grew (fun k => base ≤ k) w w' := by
  have key := iter_down (f := f21.l3 C) (fun d st w1 => ∃ (i : Nat) (q : List (Value × List Value)), st = [.pointer (some ⟨Wb, 0, none⟩), .int .i64 i] ∧ i + d = bs.length ∧ q.length = bs.length ∧ Caps q ∧ All vb q i ∧ En w1 base Wb VA VR VM VB VS la lr lm q ss n ∧ Grew (fun k => base ≤ k) w w1)
    (fun r => ∃ w1 q, r = .exit 4 [.pointer (some ⟨Wb, 0, none⟩)] w1 ∧ En w1 base Wb VA VR VM VB VS la lr lm q ss n ∧ q.length = bs.length ∧ Caps q ∧ All vb q q.length ∧ Grew (fun k => base ≤ k) w w1) (by
      rintro d st w1 ⟨i, q, rfl, hi, hq, hcq, ha, E, G⟩
      obtain ⟨A, c, hV⟩ := E.form_b
      subst hV
      cases d with
      | zero =>
        obtain rfl : i = q.length := by omega
        exact .inr ⟨_, by simp [f21.l3, addL, E.hd.blk.cell_eq 3 rfl], ⟨w1, q, rfl, E, hq, hcq, ha, G⟩, by simp⟩
      | succ d =>
        have hiq : i < q.length := by omega
        obtain ⟨p, hp⟩ : ∃ p, p = q[i] := ⟨_, rfl⟩
        have hip : q[i]? = some p := by rw [hp]; exact List.getElem?_eq_getElem hiq
        obtain ⟨w2, h2, E2, G2⟩ := ends_l2 E hcq hip (by omega)
        have e1 : IntKind.i64.wrap ((i : Int) + 1) = ((i + 1 : Nat) : Int) := (wrap_i64 (by omega) (by omega)).trans (by omega)
        refine .inl ⟨d, _, w2, by omega, ?_, ⟨i + 1, q.set i (p.1, List.replicate p.2.length (vb i)), rfl, by omega, by simpa using hq, ?_, ?_, E2, G.step G2⟩⟩
        · simp (disch := omega) [f21.l3, addL, lt_t, E.hd.blk.cell_eq 3 rfl, h2, e1]
        · intro y hy
          obtain ⟨j, hj⟩ := List.getElem?_of_mem hy
          by_cases hij : i = j
          · subst hij
            rw [List.getElem?_set_self hiq] at hj
            cases hj
            have := hcq p (List.mem_of_getElem? hip)
            simpa using this
          · rw [List.getElem?_set_ne hij] at hj
            exact hcq y (List.mem_of_getElem? hj)
        · intro j y hj hy
          by_cases hij : i = j
          · subst hij
            rw [List.getElem?_set_self hiq] at hy
            cases hy
            simp
          · rw [List.getElem?_set_ne hij] at hy
            exact ha j y (by omega) hy) bs.length _ w ⟨0, bs, rfl, by omega, rfl, hc, fun j p hj => by omega, h, Grew.refl _ _⟩
  obtain ⟨r, h1, w1, q, rfl, E, hq, hcq, ha, G⟩ := key
  exact ⟨w1, q, by simpa using h1, E, hq, hcq, ha, G⟩

theorem En.form_s (h : En w base Wb VA VR VM VB VS la lr lm bs ss n) : ∃ A c, VS = .slice A ss.length c := by
  obtain ⟨A, c, h1, _⟩ := own_form h.hd.os
  rw [List.length_map] at h1
  exact ⟨A, c, h1⟩
theorem En.cell_s (h : En w base Wb VA VR VM VB VS la lr lm bs ss n) {i : Nat} {p : Value × List Value} (hi : ss[i]? = some p) : ∃ a c, VS = .slice (some a) ss.length c ∧ w.cell? (a.add i) = some p.1 := by
  obtain ⟨A, c, h1⟩ := h.form_s
  subst h1
  have ob := h.hd.os
  simp only [List.length_map] at ob
  obtain ⟨a, rfl, hc⟩ := own_cell ob (j := i) (v := p.1) (by simp [hi])
  exact ⟨a, c, rfl, hc⟩
/-- all of them are noughts -/
theorem ends_l1 (h : En w base Wb VA VR VM VB VS la lr lm bs ss n) (hz : ∀ p ∈ ss, p.2 = List.replicate p.2.length (.int .u16 0)) (hc : Caps ss) (hl : ss.length ≤ 8000000000000) :
    iter (f21.l1 C) [.pointer (some ⟨Wb, 0, none⟩), .int .i64 0] w = some (.exit 2 [.pointer (some ⟨Wb, 0, none⟩)] w) := by
  refine iter_up ss.length (fun i => [.pointer (some ⟨Wb, 0, none⟩), .int .i64 i]) (by simp) (fun i hi => ?_) ?_
  · obtain ⟨p, hp⟩ : ∃ p, p = ss[i] := ⟨_, rfl⟩
    have hip : ss[i]? = some p := by rw [hp]; exact List.getElem?_eq_getElem hi
    obtain ⟨a, c, hV, hcell⟩ := h.cell_s hip
    subst hV
    have hm := List.mem_of_getElem? hip
    obtain ⟨hb, A, hA⟩ := hc p hm
    have o := h.rs.part hip
    rw [hA] at o hcell
    have r := Rd.owned o
    rw [hz p hm] at r
    have a1 := fulls_ok (w := w) (A := A) (n := p.2.length) (cp := p.2.length) (c := 0) (by unfold maxLen; omega) r
    have ix := ix52 a ss.length c .i64 i (by omega) (by omega)
    simp only [Int.toNat_natCast, Nat.mul_one] at ix
    have e1 : IntKind.i64.wrap ((i : Int) + 1) = ((i + 1 : Nat) : Int) := (wrap_i64 (by omega) (by omega)).trans (by omega)
    simp (disch := omega) [f21.l1, addL, lt_t, h.hd.blk.cell_eq 4 rfl, ix, hcell, a1, bool_not, e1]
  · obtain ⟨A, c, hV⟩ := h.form_s
    subst hV
    simp [f21.l1, addL, h.hd.blk.cell_eq 4 rfl]
/-- one of them is written over -/
theorem ends_l4 (h : En w base Wb VA VR VM VB VS la lr lm bs ss n) (hc : Caps ss) {i : Nat} {p : Value × List Value} (hip : ss[i]? = some p) (hl : ss.length ≤ 8000000000000) :
    ∃ w', iter (f21.l4 C) [.pointer (some ⟨Wb, 0, none⟩), .int .i64 i, .int .i64 0] w = some (.exit 10 [.pointer (some ⟨Wb, 0, none⟩), .int .i64 i] w') ∧ En w' base Wb VA VR VM VB VS la lr lm bs (ss.set i (p.1, List.replicate p.2.length (vs i))) n ∧ Grew (fun k => base ≤ k) w w' := by
  have hil := (List.getElem?_eq_some_iff.mp hip).1
  obtain ⟨hb, A, hA⟩ := hc p (List.mem_of_getElem? hip)
  obtain ⟨aV, cV, hV, _⟩ := h.cell_s hip
  subst hV
  have ix := ix52 aV ss.length cV .i64 i (by omega) (by omega)
  simp only [Int.toNat_natCast, Nat.mul_one] at ix
  have key := iter_down (f := f21.l4 C) (fun d st w1 => ∃ (j : Nat) (xs' : List Value), st = [.pointer (some ⟨Wb, 0, none⟩), .int .i64 i, .int .i64 j] ∧ j + d = p.2.length ∧ xs'.length = d ∧ En w1 base Wb VA VR VM VB (.slice (some aV) ss.length cV) la lr lm bs (ss.set i (p.1, List.replicate j (vs i) ++ xs')) n ∧ Grew (fun k => base ≤ k) w w1)
    (fun r => ∃ w1, r = .exit 10 [.pointer (some ⟨Wb, 0, none⟩), .int .i64 i] w1 ∧ En w1 base Wb VA VR VM VB (.slice (some aV) ss.length cV) la lr lm bs (ss.set i (p.1, List.replicate p.2.length (vs i))) n ∧ Grew (fun k => base ≤ k) w w1) (by
      rintro d st w1 ⟨j, xs', rfl, hj, hx, E, G⟩
      have hget : (ss.set i (p.1, List.replicate j (vs i) ++ xs'))[i]? = some (p.1, List.replicate j (vs i) ++ xs') := List.getElem?_set_self hil
      obtain ⟨a1, c1, hV1, cell⟩ := E.cell_s hget
      rw [List.length_set] at hV1
      cases hV1
      cases d with
      | zero =>
        obtain rfl : j = p.2.length := by omega
        have : xs' = [] := by simpa using hx
        subst this
        rw [List.append_nil] at E
        refine .inr ⟨_, ?_, ⟨w1, rfl, E, G⟩, by simp⟩
        rw [hA] at cell
        simp (disch := omega) [f21.l4, addL, E.hd.blk.cell_eq 4 rfl, ix, cell]
      | succ d =>
        cases xs' with
        | nil => simp at hx
        | cons x xs' =>
          have o := E.rs.part hget
          have hlen : (List.replicate j (vs i) ++ x :: xs').length = p.2.length := by simp at hx ⊢; omega
          rw [hlen] at o
          rw [hA] at o cell
          obtain ⟨a, w2, e, hba, s2, o2, g2⟩ := own_store (P := Try.prog) o (t := 43) inf43 size43 (show j < p.2.length by omega) (v := vs i) rfl rfl
          subst e
          have ix2 := ix37 a p.2.length p.2.length .i64 j (by omega) (by omega)
          simp only [Int.toNat_natCast, Nat.mul_one] at ix2
          have hset : (List.replicate j (vs i) ++ x :: xs').set j (vs i) = List.replicate (j + 1) (vs i) ++ xs' := by
            rw [List.set_append_right _ _ (by simp)]
            simp [List.replicate_succ']
          rw [hset] at o2
          have Gs : Grew (fun k => p.1.ownBlock = some k) w1 w2 := grew_of g2 fun k hk => .inl (by rw [hA]; exact hk)
          have rb2 := E.rs.set hget Gs (p' := (p.1, List.replicate (j + 1) (vs i) ++ xs')) (by
            have hlen2 : (List.replicate (j + 1) (vs i) ++ xs').length = p.2.length := by simp at hx ⊢; omega
            rw [hlen2, hA]; exact o2) (fun k hk => .inl hk)
          rw [List.set_set] at rb2
          have o' : w1.ownsRow base 43 1 p.1 p.2.length (List.replicate j (vs i) ++ x :: xs') := by rw [hA]; exact o
          have E2 : En w2 base Wb VA VR VM VB (.slice (some aV) ss.length cV) la lr lm bs (ss.set i (p.1, List.replicate (j + 1) (vs i) ++ xs')) n := by
            have hm : ∀ y : List Value, (ss.set i (p.1, y)).map (·.1) = ss.map (·.1) := fun y => by rw [List.map_set]; exact set_same _ _ _ (by simp [hip])
            have hd := E.hd
            rw [hm] at hd
            have hd2 := hd.grew Gs fun k hk hp => hd.ne_own o' hp (by decide) (by decide) (by decide) (by decide) (by decide) (by decide) hk
            exact ⟨by rw [hm]; exact hd2, E.rb.grew Gs fun k hk hp => E.rb.ne_own o' (by decide) hp hk, rb2⟩
          have e1 : IntKind.i64.wrap ((j : Int) + 1) = ((j + 1 : Nat) : Int) := (wrap_i64 (by omega) (by omega)).trans (by omega)
          refine .inl ⟨d, _, w2, by omega, ?_, ⟨j + 1, xs', rfl, by omega, by simpa using hx, E2, G.step (Gs.weak fun k hk => .inl (o'.lt k hk).1)⟩⟩
          unfold vs at s2
          simp (disch := omega) [f21.l4, addL, lt_t, E.hd.blk.cell_eq 4 rfl, ix, cell, ks_eq, cvS, ix2, s2, e1]) p.2.length _ w ⟨0, p.2, rfl, by omega, rfl, by
            have : ss.set i (p.1, List.replicate 0 (vs i) ++ p.2) = ss := by simp; exact set_same _ _ _ hip
            rw [this]; exact h, Grew.refl _ _⟩
  obtain ⟨r, h1, w1, rfl, E, G⟩ := key
  exact ⟨w1, by simpa using h1, E, G⟩
/-- all of them are written over -/
theorem ends_l5 (h : En w base Wb VA VR VM VB VS la lr lm bs ss n) (hc : Caps ss) (hl : ss.length ≤ 8000000000000) :
    ∃ w' q, iter (f21.l5 C) [.pointer (some ⟨Wb, 0, none⟩), .int .i64 0] w = some (.exit 8 [.pointer (some ⟨Wb, 0, none⟩)] w') ∧ En w' base Wb VA VR VM VB VS la lr lm bs q n ∧ q.length = ss.length ∧ Caps q ∧ All vs q q.length ∧ Grew (fun k => base ≤ k) w w' := by
  have key := iter_down (f := f21.l5 C) (fun d st w1 => ∃ (i : Nat) (q : List (Value × List Value)), st = [.pointer (some ⟨Wb, 0, none⟩), .int .i64 i] ∧ i + d = ss.length ∧ q.length = ss.length ∧ Caps q ∧ All vs q i ∧ En w1 base Wb VA VR VM VB VS la lr lm bs q n ∧ Grew (fun k => base ≤ k) w w1)
    (fun r => ∃ w1 q, r = .exit 8 [.pointer (some ⟨Wb, 0, none⟩)] w1 ∧ En w1 base Wb VA VR VM VB VS la lr lm bs q n ∧ q.length = ss.length ∧ Caps q ∧ All vs q q.length ∧ Grew (fun k => base ≤ k) w w1) (by
      rintro d st w1 ⟨i, q, rfl, hi, hq, hcq, ha, E, G⟩
      obtain ⟨A, c, hV⟩ := E.form_s
      subst hV
      cases d with
      | zero =>
        obtain rfl : i = q.length := by omega
        exact .inr ⟨_, by simp [f21.l5, addL, E.hd.blk.cell_eq 4 rfl], ⟨w1, q, rfl, E, hq, hcq, ha, G⟩, by simp⟩
      | succ d =>
        have hiq : i < q.length := by omega
        obtain ⟨p, hp⟩ : ∃ p, p = q[i] := ⟨_, rfl⟩
        have hip : q[i]? = some p := by rw [hp]; exact List.getElem?_eq_getElem hiq
        obtain ⟨w2, h2, E2, G2⟩ := ends_l4 E hcq hip (by omega)
        have e1 : IntKind.i64.wrap ((i : Int) + 1) = ((i + 1 : Nat) : Int) := (wrap_i64 (by omega) (by omega)).trans (by omega)
        refine .inl ⟨d, _, w2, by omega, ?_, ⟨i + 1, q.set i (p.1, List.replicate p.2.length (vs i)), rfl, by omega, by simpa using hq, ?_, ?_, E2, G.step G2⟩⟩
        · simp (disch := omega) [f21.l5, addL, lt_t, E.hd.blk.cell_eq 4 rfl, h2, e1]
        · intro y hy
          obtain ⟨j, hj⟩ := List.getElem?_of_mem hy
          by_cases hij : i = j
          · subst hij
            rw [List.getElem?_set_self hiq] at hj
            cases hj
            have := hcq p (List.mem_of_getElem? hip)
            simpa using this
          · rw [List.getElem?_set_ne hij] at hj
            exact hcq y (List.mem_of_getElem? hj)
        · intro j y hj hy
          by_cases hij : i = j
          · subst hij
            rw [List.getElem?_set_self hiq] at hy
            cases hy
            simp
          · rw [List.getElem?_set_ne hij] at hy
            exact ha j y (by omega) hy) ss.length _ w ⟨0, ss, rfl, by omega, rfl, hc, fun j p hj => by omega, h, Grew.refl _ _⟩
  obtain ⟨r, h1, w1, q, rfl, E, hq, hcq, ha, G⟩ := key
  exact ⟨w1, q, by simpa using h1, E, hq, hcq, ha, G⟩
end
end Go.Sh.Ytocijepcfannnaa
