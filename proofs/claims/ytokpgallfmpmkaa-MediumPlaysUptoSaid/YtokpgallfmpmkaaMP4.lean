/- medium: Read, Overwrite, Piece and a piece's calls. Conditions: those of each statement. -/
import Derived.Test.YtokpgallfmpmkaaMP3
namespace Go.Sh.Ytokpgallfmpmkaa
open Go Go.Proofs Go.RowKit
set_option linter.unusedVariables false
set_option linter.unusedSimpArgs false
set_option maxRecDepth 100000
section
variable {w : World} {base M P : Nat} {B L : Value} {l : List UInt8} {dead : Bool} {armed keep : Int} {g : List (Int × Int)}
theorem inr_nat {i k : Int} {n : Nat} (h : inr i k n) : ∃ a b : Nat, i = a ∧ k = b ∧ a + b ≤ n := by
  obtain ⟨h1, h2, h3, h4⟩ := h
  exact ⟨i.toNat, k.toNat, by omega, by omega, by omega⟩
/-- nothing told -/
theorem tells_none {s : Pm} {r : Option (Value × World)} {e : Int} {w' : World} (h1 : r = some (.tuple #[.slice none 0 0, .int .i64 e], w')) (h2 : PMd w' base M B L s) (h3 : Grew (fp M B L) w w') : Tells (fun w B L s => PMd w base M B L s) (fp M) w B L r [] e s :=
  ⟨_, B, L, w', h1, h2, h3, fun k hk => .inl hk, cl_nil w w' 5 1, fun k _ h => by cases h⟩
theorem tells_read {s : Pm} (h : PMd w base M B L s) (hf : s.fit) (i k : Int) (hb : base ≤ w.heap.size) : Tells (fun w B L s => PMd w base M B L s) (fp M) w B L (C 16 #[.pointer (some ⟨M, 0, none⟩), .int .i64 i, .int .i64 k] w) (s.read i k).1 (s.read i k).2.1 (s.read i k).2.2 := by
  obtain ⟨l, dead, armed, keep, g⟩ := s
  have hl := hf.l
  have hg := hf.g
  simp only at hl hg
  have hg' : g.length ≤ 8000000000000 := by omega
  cases dead with
  | true =>
    obtain ⟨w', h1, h2, h3⟩ := read_dead h i k
    simp only [Pm.read, if_true]
    exact tells_none h1 h2 h3
  | false =>
    by_cases hi : inr i k l.length
    · obtain ⟨a, b, rfl, rfl, hab⟩ := inr_nat hi
      obtain ⟨v, L', w', h1, h2, h3, h4, h5, h6⟩ := read_cl h a b hab hl hg' hb
      simp only [Pm.read, hi, if_true, Bool.false_eq_true, if_false, Int.toNat_natCast]
      refine ⟨v, B, L', w', h1, h2, h3, h4, ?_, h6⟩
      have e : ((l.drop a).take b).length = b := by simp; omega
      rw [e]; exact h5
    · obtain ⟨w', h1, h2, h3⟩ := read_out h i k hi hl
      simp only [Pm.read, hi, if_false, Bool.false_eq_true]
      exact tells_none h1 h2 h3
theorem read1_out (h : Med w base M 1 B l false armed keep L g) (i k : Int) (hik : ¬ inr i k l.length) (hl : l.length ≤ 268435456) : C 30 #[.pointer (some ⟨M, 0, none⟩), .int .i64 i, .int .i64 k] w = some (.tuple #[.slice none 0 0, .int .i64 151], w) := by
  obtain ⟨A, c, rfl, hc, hcm⟩ := own_form h.row
  have hli := lies_ok i k l.length (by omega) (by omega) w
  rw [decide_eq_false (show ¬ (0 ≤ i ∧ 0 ≤ k ∧ i ≤ l.length ∧ k ≤ l.length - i) from hik)] at hli
  refine f30.run rfl ?_
  simp [f30, addL, h.cD, h.cB, hli, bool_not]
variable {i k : Nat}
theorem pread_dead (h : Med w base M 0 B l true armed keep L g) (b : Blk w P 84 [.pointer (some ⟨M, 0, none⟩), .int .i64 i, .int .i64 k]) (x y : Int) :
    ∃ w', C 93 #[.pointer (some ⟨P, 0, none⟩), .int .i64 x, .int .i64 y] w = some (.tuple #[.slice none 0 0, .int .i64 152], w') ∧ Med w' base M 0 B l true armed keep L g ∧ Grew (fp M B L) w w' := by
  obtain ⟨w1, h1, m1, g1⟩ := h.lock
  have b1 := b.grew g1 (h.neP b)
  obtain ⟨w3, h3, m3, g3⟩ := m1.unlock
  refine ⟨w3, f93.run rfl ?_, m3, g1.step g3⟩
  simp [f93, addL, b.cell_eq 0 rfl, h1, b1.cell_eq 0 rfl, m1.cD, h3, Res.after, Res.done, outcome]
theorem pread_gone (h : Med w base M 0 B l false armed keep L g) (b : Blk w P 84 [.pointer (some ⟨M, 0, none⟩), .int .i64 i, .int .i64 k]) (x y : Int) (hxy : inr x y k) (hik : i + k ≤ 268435456) (hl : l.length ≤ 268435456) (ho : ¬ inr (i + x) y l.length) :
    ∃ w', C 93 #[.pointer (some ⟨P, 0, none⟩), .int .i64 x, .int .i64 y] w = some (.tuple #[.slice none 0 0, .int .i64 151], w') ∧ Med w' base M 0 B l false armed keep L g ∧ Grew (fp M B L) w w' := by
  obtain ⟨w1, h1, m1, g1⟩ := h.lock
  have b1 := b.grew g1 (h.neP b)
  have hli := lies_ok x y k (by omega) (by omega) w1
  rw [decide_eq_true (show (0 ≤ x ∧ 0 ≤ y ∧ x ≤ k ∧ y ≤ k - x) from hxy)] at hli
  have m1' : Med w1.drew base M 1 B l false armed keep L g := ⟨m1.blk, m1.hM, m1.row, m1.log⟩
  have e1 : IntKind.i64.wrap ((i : Int) + x) = (i : Int) + x := by obtain ⟨q1, q2, q3, q4⟩ := hxy; exact wrap_i64 (by omega) (by omega)
  have h2 := read1_out m1' (i + x) y ho hl
  obtain ⟨w3, h3, m3, g3⟩ := m1'.unlock
  refine ⟨w3, f93.run rfl ?_, m3, (g1.step (Grew.drew _ _)).step g3⟩
  simp [f93, addL, b.cell_eq 0 rfl, h1, b1.cell_eq 0 rfl, m1.cD, b1.cell_eq 1 rfl, b1.cell_eq 2 rfl, hli, bool_not, e1, h2, h3, Res.after, Res.done, outcome, chkThen]
theorem pread_cl2 (h : Med w base M 0 B l false armed keep L g) (b : Blk w P 84 [.pointer (some ⟨M, 0, none⟩), .int .i64 i, .int .i64 k]) (x y : Nat) (hxy : x + y ≤ k) (hik : i + x + y ≤ l.length) (hk : k ≤ 268435456) (hl : l.length ≤ 268435456) (hg : g.length ≤ 8000000000000) (hb : base ≤ w.heap.size) :
    ∃ v L' w', C 93 #[.pointer (some ⟨P, 0, none⟩), .int .i64 x, .int .i64 y] w = some (.tuple #[v, .int .i64 0], w') ∧ Med w' base M 0 B l false armed keep L' (g ++ [(((i + x : Nat) : Int), (y : Int))]) ∧ Grew (fp M B L) w w' ∧
      (∀ j, fp M B L' j → fp M B L j ∨ w.heap.size ≤ j) ∧ Cl w w' 5 1 v y (bv ((l.drop (i + x)).take y)) ∧ (∀ j, fp M B L' j → v.ownBlock ≠ some j) := by
  obtain ⟨w1, h1, m1, g1⟩ := h.lock
  have b1 := b.grew g1 (h.neP b)
  have hli := lies_ok x y k (by omega) (by omega) w1
  have hd : decide ((0 : Int) ≤ x ∧ (0 : Int) ≤ y ∧ (x : Int) ≤ k ∧ (y : Int) ≤ k - x) = true := by simp; omega
  rw [hd] at hli
  have m1' : Med w1.drew base M 1 B l false armed keep L g := ⟨m1.blk, m1.hM, m1.row, m1.log⟩
  obtain ⟨v, L', w2, h2, m2, g2, k2, O2, d2⟩ := read_cl1 m1' (i + x) y (by omega) hl hg (Nat.le_trans hb g1.size)
  obtain ⟨w3, h3, m3, g3'⟩ := m2.unlock2
  have g3 : Grew (fp M B L') w2 w3 := g3'.weak fun k hk => .inl (.inl hk)
  have hk : ∀ j, fp M B L' j → fp M B L j ∨ w.heap.size ≤ j := by
    rintro j (h | h | h)
    · exact .inl (.inl h)
    · exact .inl (.inr (.inl h))
    · rcases k2 j h with h | h
      · exact .inl (.inr (.inr h))
      · exact .inr (Nat.le_trans g1.size h)
  have O2' : Cl w w3 5 1 v y (bv ((l.drop (i + x)).take y)) := by
    have Om : Cl w w2 5 1 v y (bv ((l.drop (i + x)).take y)) := by
      obtain ⟨A, c, a1, a2, a3⟩ := O2.out
      exact ⟨A, c, a1, a2, own_rebase a3 fun k hk => Nat.le_trans g1.size (a3.lt k hk).1⟩
    refine Om.grew g3' fun a ha _ _ hf => ?_
    have hf' : a = M := hf
    have := (O2.ge ha).1
    have e3 : w1.drew.heap.size = w1.heap.size := rfl
    have := m1.blk.lt
    omega
  have e1 : IntKind.i64.wrap ((i : Int) + x) = (i : Int) + x := wrap_i64 (by omega) (by omega)
  rw [show ((i + x : Nat) : Int) = (i : Int) + x by omega] at h2
  refine ⟨v, L', w3, f93.run rfl ?_, m3, (g1.step ((Grew.drew _ _).step g2)).trans g3 hk, hk, O2', d2⟩
  simp [f93, addL, b.cell_eq 0 rfl, h1, b1.cell_eq 0 rfl, m1.cD, b1.cell_eq 1 rfl, b1.cell_eq 2 rfl, hli, bool_not, e1, h2, h3, Res.after, Res.done, outcome, chkThen]
theorem tells_pread {s : Pm} (h : PMd w base M B L s) (hf : s.fit) (b : Blk w P 84 [.pointer (some ⟨M, 0, none⟩), .int .i64 i, .int .i64 k]) (hik : i + k ≤ 268435456) (x y : Int) (hb : base ≤ w.heap.size) : Tells (fun w B L s => PMd w base M B L s) (fp M) w B L (C 93 #[.pointer (some ⟨P, 0, none⟩), .int .i64 x, .int .i64 y] w) (s.pread i k x y).1 (s.pread i k x y).2.1 (s.pread i k x y).2.2 := by
  obtain ⟨l, dead, armed, keep, g⟩ := s
  have hl := hf.l
  have hg := hf.g
  simp only at hl hg
  have hg' : g.length ≤ 8000000000000 := by omega
  cases dead with
  | true =>
    obtain ⟨w', h1, h2, h3⟩ := pread_dead h b x y
    simp only [Pm.pread, if_true]
    exact tells_none h1 h2 h3
  | false =>
    by_cases hi : inr x y k
    · by_cases ho : inr (i + x) y l.length
      · obtain ⟨c, d, rfl, rfl, hcd⟩ := inr_nat hi
        have hcd2 : i + c + d ≤ l.length := by obtain ⟨q1, q2, q3, q4⟩ := ho; omega
        obtain ⟨v, L', w', h1, h2, h3, h4, h5, h6⟩ := pread_cl2 h b c d hcd hcd2 (by omega) hl hg' hb
        have e0 : ((i : Int) + c) = ((i + c : Nat) : Int) := by omega
        rw [e0] at ho
        simp only [Pm.pread, Pm.read, hi, ho, e0, if_true, Bool.false_eq_true, if_false, Int.toNat_natCast]
        refine ⟨v, B, L', w', h1, h2, h3, h4, ?_, h6⟩
        have e : ((l.drop (i + c)).take d).length = d := by simp; omega
        rw [e]; exact h5
      · obtain ⟨w', h1, h2, h3⟩ := pread_gone h b x y hi hik hl ho
        simp only [Pm.pread, Pm.read, hi, ho, if_true, if_false, Bool.false_eq_true]
        exact tells_none h1 h2 h3
    · obtain ⟨w', h1, h2, h3⟩ := pread_out h b x y hi (by omega)
      simp only [Pm.pread, hi, if_false, Bool.false_eq_true]
      exact tells_none h1 h2 h3
theorem piece_out (h : Med w base M 0 B l dead armed keep L g) (i k : Int) (hik : ¬ inr i k l.length) (hl : l.length ≤ 268435456) :
    ∃ w', C 15 #[.pointer (some ⟨M, 0, none⟩), .agg #[.int .i64 i, .int .i64 k]] w = some (.tuple #[.nilIface, .int .i64 151], w') ∧ Med w' base M 0 B l dead armed keep L g ∧ Grew (fp M B L) w w' := by
  obtain ⟨W0, hW0⟩ : ∃ W0, W0 = w.alloc (.cells #[.int .i64 i, .int .i64 k] 40) := ⟨_, rfl⟩
  have g0 : w.grownBy W0 none := hW0 ▸ World.grownBy_alloc w _ none
  have b0 : Blk W0 w.heap.size 40 [.int .i64 i, .int .i64 k] := hW0 ▸ Blk.new w 40 [.int .i64 i, .int .i64 k]
  have m0 := h.grew (grew_new (S := fun _ => False) g0) (fun _ _ h => h)
  obtain ⟨w1, h1, m1, g1⟩ := m0.lock
  obtain ⟨A, c, rfl, hc, hcm⟩ := own_form h.row
  have b1 := b0.grew g1 (fun hf => by have := (h.fpge _ hf).2; omega)
  have hli := lies_ok i k l.length (by omega) (by omega) w1.drew
  rw [decide_eq_false (show ¬ (0 ≤ i ∧ 0 ≤ k ∧ i ≤ l.length ∧ k ≤ l.length - i) from hik)] at hli
  have m1' : Med w1.drew base M 1 (.slice A l.length c) l dead armed keep L g := ⟨m1.blk, m1.hM, m1.row, m1.log⟩
  obtain ⟨w3, h3, m3, g3⟩ := m1'.unlock
  refine ⟨w3, f15.run rfl ?_, m3, (((grew_new g0).step g1).step (Grew.drew _ _)).step g3⟩
  rw [hW0] at h1
  simp [f15, box_any, Value.cells, addL, h1, b1.cell_eq 0 rfl, b1.cell_eq 1 rfl, m1.cB, hli, bool_not, h3, Res.after, Res.done, outcome]
end
section
variable {W w : World} {X : Asn W.heap.size} {M P : Nat} {s s' : Pm}
theorem m_read (x : Sat W (medA M s * X) w) (hf : s.fit) (i k : Int) : ∃ v w', C 16 #[.pointer (some ⟨M, 0, none⟩), .int .i64 i, .int .i64 k] w = some (.tuple #[v, .int .i64 (s.read i k).2.1], w') ∧ Sat W (clipA 5 1 v (s.read i k).1.length (bv (s.read i k).1) * (medA M (s.read i k).2.2 * X)) w' :=
  x.tells fun B L h _ => tells_read h hf i k x.size
theorem m_pread {a n : Nat} (x : Sat W (medA M s * (pcA P M a n * X)) w) (hf : s.fit) (han : a + n ≤ 268435456) (i k : Int) : ∃ v w', C 93 #[.pointer (some ⟨P, 0, none⟩), .int .i64 i, .int .i64 k] w = some (.tuple #[v, .int .i64 (s.pread a n i k).2.1], w') ∧ Sat W (clipA 5 1 v (s.pread a n i k).1.length (bv (s.pread a n i k).1) * (medA M (s.pread a n i k).2.2 * (pcA P M a n * X))) w' :=
  x.tells fun B L h _ => tells_pread h hf (x.right.blk) han i k x.size
theorem m_bytes (x : Sat W (medA M s * X) w) (hf : s.fit) : ∃ v w', C 17 #[.pointer (some ⟨M, 0, none⟩)] w = some (v, w') ∧ Sat W (clipA 5 1 v s.l.length (bv s.l) * (medA M s * X)) w' := by
  obtain ⟨v, w', h1, h2⟩ := x.tells (r := (C 17 #[.pointer (some ⟨M, 0, none⟩)] w).map fun q => (.tuple #[q.1, .int .i64 0], q.2)) (out := s.l) (e := 0) (s' := s) fun B L h _ => by
    obtain ⟨v, w', h1, h2, h3, h4⟩ := bytes_cl h hf.l
    exact ⟨v, B, L, w', by rw [h1]; rfl, h2, h3, fun k hk => .inl hk, h4, fun k hk hv => by have := (h4.ge hv).1; have := (Med.fpge h k hk).2; omega⟩
  cases hr : C 17 #[.pointer (some ⟨M, 0, none⟩)] w with
  | none => rw [hr] at h1; cases h1
  | some q =>
    rw [hr] at h1
    simp at h1
    exact ⟨v, w', by rw [← h1.1, ← h1.2], h2⟩
theorem m_log (x : Sat W (medA M s * X) w) (hf : s.fit) : ∃ v w', C 18 #[.pointer (some ⟨M, 0, none⟩)] w = some (v, w') ∧ Sat W (clipA 40 2 v s.g.length (sc s.g) * (medA M s * X)) w' := by
  obtain ⟨g, S, A, T, d, e, ⟨B, L, h, rfl⟩, q⟩ := x
  obtain ⟨v, w', h1, h2, h3, h4⟩ := log_cl h (by have := hf.g; omega)
  refine ⟨v, w', h1, g.trans h3 fun k hk => .inr (h.fpge k hk).1, fun k => v.ownBlock = some k ∨ (fp M B L k ∨ T k), fun k => v.ownBlock = some k, fun k => fp M B L k ∨ T k, fun k hv hk => ?_, rfl, ?_, fp M B L, T, d, rfl, ⟨B, L, h2, rfl⟩, X.frame q h3 fun k hT hf => d k hf hT⟩
  · have := (h4.ge hv).1
    rcases hk with hf | hT
    · have := (Med.fpge h k hf).2; omega
    · have := (X.rng q k hT).2; omega
  · obtain ⟨A, c, e1, e2, o⟩ := h4.out
    exact ⟨⟨A, c, e1, e2, own_rebase o fun k hk => Nat.le_trans g.size (o.lt k hk).1⟩, rfl⟩
theorem m_psize {a n : Nat} (x : Sat W (pcA P M a n * X) w) : C 94 #[.pointer (some ⟨P, 0, none⟩)] w = some (.int .i64 n, w) := psize_ok x.blk
theorem m_piece (x : Sat W (medA M s * X) w) (hf : s.fit) (i k : Nat) (hik : i + k ≤ s.l.length) : ∃ P w', C 15 #[.pointer (some ⟨M, 0, none⟩), .agg #[.int .i64 i, .int .i64 k]] w = some (.tuple #[.iface 82 (.pointer (some ⟨P, 0, none⟩)), .int .i64 0], w') ∧ Sat W (pcA P M i k * (medA M s * X)) w' := by
  obtain ⟨g, S, A, T, d, e, ⟨B, L, h, rfl⟩, q⟩ := x
  obtain ⟨P, w', h1, h2, h3, h4, h5⟩ := piece_ok h i k hik hf.l
  refine ⟨P, w', h1, g.trans h3 fun k hk => .inr (h.fpge k hk).1, fun k => k = P ∨ (fp M B L k ∨ T k), fun k => k = P, fun k => fp M B L k ∨ T k, fun k hv hk => ?_, rfl, ⟨h4, Nat.le_trans g.size h5, rfl⟩, fp M B L, T, d, rfl, ⟨B, L, h2, rfl⟩, X.frame q h3 fun k hT hf => d k hf hT⟩
  rcases hk with hf | hT
  · have := (Med.fpge h k hf).2; omega
  · have := (X.rng q k hT).2; omega
theorem m_piece_out (x : Sat W (medA M s * X) w) (hf : s.fit) (i k : Int) (hik : ¬ inr i k s.l.length) : ∃ w', C 15 #[.pointer (some ⟨M, 0, none⟩), .agg #[.int .i64 i, .int .i64 k]] w = some (.tuple #[.nilIface, .int .i64 151], w') ∧ Sat W (medA M s * X) w' := x.does fun B L h _ => by
  obtain ⟨w', h1, h2, h3⟩ := piece_out h i k hik hf.l
  exact ⟨B, L, w', h1, h2, h3, fun k hk => .inl hk⟩
end
end Go.Sh.Ytokpgallfmpmkaa
