/- plane.New: what it answers; frames. Conditions: those of each statement. -/
import Derived.Test.YtacfghffojijaaaDoorCP2
import Derived.Test.YtacfghffojijaaaDoorShStruct
namespace Go.Sh.YtacfghffojijaaaDoor
open Go Go.Proofs Go.RowKit
set_option linter.unusedVariables false
set_option linter.unusedSimpArgs false
set_option maxRecDepth 100000
theorem alloc30 (w : World) : erun Tryd.prog (Instr.alloc 30 true (.tuple #[])) w = some (.pointer (some ⟨w.heap.size, 0, none⟩), w.alloc (.cells #[.int .i64 0, .int .i64 0, .int .i64 0, .bool false, .slice none 0 0] 30)) := id (by kernel_rfl)
theorem build30 (W H D : Int) (al : Bool) : prun Tryd.prog (Instr.build 30 #[(0, sv W H D al)]) = some (fv W H D al none 0 0) := id (by kernel_rfl)
theorem build30z : prun Tryd.prog (Instr.build 30 #[]) = some (fv 0 0 0 false none 0 0) := id (by kernel_rfl)
theorem bs28_1 (a : Option Addr) (n c : Nat) (w : World) : erun Tryd.prog (Instr.buildSlice 28 1 #[(0, .slice a n c)]) w = some (.slice (some ⟨w.heap.size, 0, none⟩) 1 1, w.alloc (.cells #[.slice a n c] 38)) := id (by kernel_rfl)
/-- a variable that holds a frame -/
abbrev fcs (W H D : Int) (al : Bool) (v : Value) : List Value := [.int .i64 W, .int .i64 H, .int .i64 D, .bool al, v]
theorem st30 {w : World} {b : Nat} {cs : List Value} (h : Blk w b 30 cs) (hl : cs.length = 5) (W H D : Int) (al : Bool) (A : Option Addr) (n c : Nat) :
    ∃ w', erun Tryd.prog (Instr.storeAt 30 (.pointer (some ⟨b, 0, none⟩)) (fv W H D al A n c)) w = some ((), w') ∧ Blk w' b 30 (fcs W H D al (.slice A n c)) ∧ w.grownBy w' (some b) := by
  refine h.storeAll (P := Tryd.prog) inf30 (vs := fcs W H D al (.slice A n c)) (by simp [Value.cells]) (by rw [size30]; rfl) (by simp [hl]) (by simp [Value.oneCell']) ?_
  have : cs.drop (0 + (fcs W H D al (.slice A n c)).length) = [] := List.drop_of_length_le (by simp [hl])
  rw [this]
  simp
theorem ld30b {w : World} {b : Nat} {e : TypeId} {W H D : Int} {al : Bool} {A : Option Addr} {n c : Nat} (h : Blk w b e (fcs W H D al (.slice A n c))) : rrun Tryd.prog (Instr.loadAt 30 (.pointer (some ⟨b, 0, none⟩))) w = some (fv W H D al A n c) :=
  ld30 (by rw [addL]; exact h.cell_eq 0 rfl) (by rw [addL]; exact h.cell_eq 1 rfl) (by rw [addL]; exact h.cell_eq 2 rfl) (by rw [addL]; exact h.cell_eq 3 rfl) (by rw [addL]; exact h.cell_eq 4 rfl)
/-- planes, each in memory of its own, in a list of its own -/
structure Fr (w : World) (base : Nat) (V : Value) (q : List (Value × List Value)) : Prop where
  row : w.ownsRow base 38 1 V q.length (q.map (·.1))
  pl : Rows w base 39 q
def frfp (V : Value) (q : List (Value × List Value)) : Nat → Prop := fun k => V.ownBlock = some k ∨ rfp q k
section
variable {w w' : World} {base : Nat} {V : Value} {q : List (Value × List Value)} {S : Nat → Prop}
theorem Fr.grew (h : Fr w base V q) (hg : Grew S w w') (hn : ∀ k, frfp V q k → ¬ S k) : Fr w' base V q := ⟨own_grew h.row hg fun k hk => hn k (.inl hk), h.pl.grew hg fun k hk => hn k (.inr hk)⟩
theorem Fr.new (h : Fr w base V q) (hg : w.grownBy w' none) : Fr w' base V q := h.grew (grew_new (S := fun _ => False) hg) fun _ _ h => h
theorem Fr.ge (h : Fr w base V q) {k : Nat} (hk : frfp V q k) : base ≤ k ∧ k < w.heap.size := by
  rcases hk with hk | hk
  · exact h.row.lt k hk
  · exact h.pl.ge hk
theorem Fr.ne_blk (h : Fr w base V q) {b : Nat} {e : TypeId} {cs : List Value} (hb : Blk w b e cs) (h1 : e ≠ 38) (h2 : e ≠ 39) : ¬ frfp V q b := by
  rintro (hk | hk)
  · exact own_blk_ne h.row hb (Ne.symm h1) hk
  · exact h.pl.ne_blk hb (Ne.symm h2) hk
/-- one plane more -/
theorem Fr.push (h : Fr w base V q) {b : Nat} {W H D : Int} {al : Bool} (hb : Blk w b 30 (fcs W H D al V)) {p : Value × List Value} (o : w.ownsRow base 39 1 p.1 p.2.length p.2) (hd : ∀ k, p.1.ownBlock = some k → ¬ rfp q k) (hl : q.length ≤ 1000000) (hbase : base ≤ w.heap.size) :
    ∃ V' w1 w2, erun Tryd.prog (Builtin.append_ #[28, 28] 28 #[V, .slice (some ⟨w.heap.size, 0, none⟩) 1 1]) (w.alloc (.cells #[p.1] 38)) = some (V', w1) ∧ erun Tryd.prog (Instr.storeAt 28 (.pointer (some ⟨b, 4, none⟩)) V') w1 = some ((), w2) ∧
      Fr w2 base V' (q ++ [p]) ∧ Blk w2 b 30 (fcs W H D al V') ∧ Grew (fun k => k = b ∨ V.ownBlock = some k) w w2 ∧ w1.cell? ⟨b, 4, none⟩ = some V ∧ (∀ k, V'.ownBlock = some k → V.ownBlock = some k ∨ w.heap.size ≤ k) := by
  obtain ⟨Ap, cp, hp, _⟩ := own_form o
  obtain ⟨V', w1, h1, o1, g1, k1⟩ := own_push (P := Tryd.prog) (ty := 28) Tryd.underlying28 inf38 zero38 size38 bytes38 rfl h.row (x := p.1) (by rw [hp]; rfl) (by simp [maxLen]; omega) (by omega) hbase
  have b1 := hb.grown g1 (own_blk_ne h.row hb (by decide))
  obtain ⟨A', c', rfl, _⟩ := own_form o1
  have s1 := st28 (v := .slice A' (q.length + 1) c') rfl rfl (b1.cell_eq 4 rfl) (b1.frozen 4)
  have G1 : Grew (fun k => k = b ∨ V.ownBlock = some k) w w1 := grew_of g1 fun k hk => .inl (.inr hk)
  have G2 : Grew (fun k => k = b ∨ V.ownBlock = some k) w (w1.setCell ⟨b, 4, none⟩ (.slice A' (q.length + 1) c')) := G1.step (grew_set _ 4 _ (.inl rfl))
  have pl' := h.pl.push o hd
  refine ⟨_, w1, _, h1, s1, ⟨?_, pl'.grew G2 fun k hk hs => ?_⟩, b1.store2 4 _ rfl, G2, b1.cell_eq 4 rfl, k1⟩
  · have := o1.kept (grown_set b 4 (.slice A' (q.length + 1) c')) (.inr (own_blk_ne o1 b1 (by decide)))
    simpa using this
  · rcases hs with rfl | hs
    · exact pl'.ne_blk hb (by decide) hk
    · exact pl'.ne_own h.row (by decide) hs hk
end
/-- a plane of noughts -/
def zp (n : Nat) (A : Option Addr) : Value × List Value := (.slice A n n, List.replicate n (.int .u16 0))
theorem made_samples (n : Nat) : (madeCells ((.int .u16 0) : Value).cells (n * 1)).toList = List.replicate n (.int .u16 0) := by simp [toList_madeCells_one, Value.cells]
theorem blank_l0 {W H D : Int} {al : Bool} (h0 : 1 ≤ W) (h1 : W ≤ 4096) (h2 : 1 ≤ H) (h3 : H ≤ 4096) {s f : Nat} (v2 : Value) {w0 : World} :
    ∀ (d : Nat) (st : List Value) (w : World), (∃ (i : Nat) (V : Value) (q : List (Value × List Value)), st = [.pointer (some ⟨s, 0, none⟩), v2, .pointer (some ⟨f, 0, none⟩), .int .i64 (pl al), .int .i64 i] ∧ i + d = pl al ∧ q.length = i ∧ (∀ p x, q[p]? = some x → ∃ (A : Option Addr) (n : Nat), (n : Int) = wd W p * H ∧ x = zp n A) ∧ Fr w w0.heap.size V q ∧ Blk w f 30 (fcs W H D al V) ∧ Blk w s 27 [.int .i64 W, .int .i64 H, .int .i64 D, .bool al] ∧ Grew (fun k => k = f) w0 w) →
    ∃ r, iter (f24.l0 C) st w = some r ∧ ∃ V q w', r = .exit 0 [v2, .pointer (some ⟨f, 0, none⟩)] w' ∧ q.length = pl al ∧ (∀ p x, q[p]? = some x → ∃ (A : Option Addr) (n : Nat), (n : Int) = wd W p * H ∧ x = zp n A) ∧ Fr w' w0.heap.size V q ∧ Blk w' f 30 (fcs W H D al V) ∧ Grew (fun k => k = f) w0 w' := by
  refine iter_down _ _ ?_
  rintro d st w ⟨i, V, q, rfl, hi, hq, hall, F, bf, bs, G⟩
  have hple := pl_le al
  cases d with
  | zero =>
    obtain rfl : i = pl al := by omega
    exact .inr ⟨_, by simp [f24.l0], ⟨V, q, w, rfl, hq, hall, F, bf, G⟩, by simp⟩
  | succ d =>
    obtain ⟨u, hu⟩ : ∃ u, u = w.drew := ⟨_, rfl⟩
    have gu : w.grownBy u none := hu ▸ grown_drew w none
    have bsu := bs.grown gu (by simp)
    have bfu := bf.grown gu (by simp)
    obtain ⟨w1, a1, g1⟩ := width_ok H D al h0 h1 i u
    have hwd := wd_le h0 h1 i
    have hm := prod_bound (a := wd W i) (b := H) (by omega) (by omega) (by omega) h3
    have e1 : IntKind.i64.wrap (wd W i * H) = wd W i * H := wrap_i64 (by omega) (by omega)
    obtain ⟨n, hn⟩ : ∃ n : Nat, (n : Int) = wd W i * H := ⟨(wd W i * H).toNat, by omega⟩
    have b1s := bsu.grown g1 (by simp)
    have b1f := bfu.grown g1 (by simp)
    obtain ⟨w2, m1, m2, m3⟩ := mk38 (w := w1) w1.heap.size n (by omega) (by simp [maxLen]; omega) (Nat.le_refl _)
    rw [made_samples] at m2
    have b2s := b1s.grown m3 (by simp)
    have b2f := b1f.grown m3 (by simp)
    have F2 := ((F.new gu).new g1).new m3
    have G2 := ((G.step (grew_new gu)).step (grew_new g1)).step (grew_new m3)
    have hlr : (List.replicate n (Value.int .u16 0)).length = n := by simp
    have G1 := (G.step (grew_new gu)).step (grew_new g1)
    obtain ⟨V', w3, w4, p1, p2, F4, b4f, G4, cV, k4⟩ := F2.push b2f (p := zp n (some ⟨w1.heap.size, 0, none⟩)) (by show w2.ownsRow w0.heap.size 39 1 (.slice (some ⟨w1.heap.size, 0, none⟩) n n) (List.replicate n (Value.int .u16 0)).length (List.replicate n (Value.int .u16 0)); rw [hlr]; exact own_base m2 G1.size) (fun k hk hf => by
      have h1 := ((F.new gu).new g1).pl.ge hf
      simp [zp, Value.ownBlock] at hk
      omega) (by omega) G2.size
    have e3 : IntKind.i64.wrap ((i : Int) + 1) = ((i + 1 : Nat) : Int) := (wrap_i64 (by omega) (by omega)).trans (by omega)
    have b4s : Blk w4 s 27 [.int .i64 W, .int .i64 H, .int .i64 D, .bool al] := b2s.grew G4 (by
      rintro (e | e)
      · subst e; have x1 := b2s; have x2 := b2f; unfold Blk at x1 x2; rw [x1] at x2; simp at x2
      · exact own_blk_ne F2.row b2s (by decide) e)
    have ca : (w2.alloc (.cells #[.slice (some ⟨w1.heap.size, 0, none⟩) n n] 38)).cell? ⟨f, 4, none⟩ = some V := (b2f.grown (World.grownBy_alloc w2 (.cells #[.slice (some ⟨w1.heap.size, 0, none⟩) n n] 38) none) (by simp)).cell_eq 4 rfl
    have cs : (w2.alloc (.cells #[.slice (some ⟨w1.heap.size, 0, none⟩) n n] 38)).cell? ⟨s, 1, none⟩ = some (.int .i64 H) := (b2s.grown (World.grownBy_alloc w2 (.cells #[.slice (some ⟨w1.heap.size, 0, none⟩) n n] 38) none) (by simp)).cell_eq 1 rfl
    refine .inl ⟨d, _, w4, by omega, ?_, ⟨i + 1, V', q ++ [zp n (some ⟨w1.heap.size, 0, none⟩)], rfl, by omega, by simp [hq], ?_, F4, b4f, b4s, ?_⟩⟩
    · unfold zp at p1
      rw [hn] at m1
      simp (disch := omega) [f24.l0, lt_t, ← hu, addL, bf.cell_eq 4 rfl, bfu.cell_eq 4 rfl, b1f.cell_eq 4 rfl, b2f.cell_eq 4 rfl, ld27b bs rfl, ld27b bsu rfl, a1, bs.cell_eq 1 rfl, bsu.cell_eq 1 rfl, b1s.cell_eq 1 rfl, e1, m1, bs28_1, p1, p2, cV, ca, cs, e3]
    · intro p x hp
      by_cases hpq : p < q.length
      · rw [List.getElem?_append_left hpq] at hp
        exact hall p x hp
      · have hpi : p = i := by have := (List.getElem?_eq_some_iff.mp hp).1; simp at this; omega
        subst hpi
        rw [List.getElem?_append_right (by omega), show p - q.length = 0 by omega] at hp
        simp at hp
        exact ⟨_, n, hn, hp.symm⟩
    · exact G2.trans G4 fun k hk => by
        rcases hk with rfl | hk
        · exact .inl rfl
        · exact .inr (F2.row.lt k hk).1
end Go.Sh.YtacfghffojijaaaDoor
