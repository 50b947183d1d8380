/- medium: the program's calls, whatever lies beside the medium. Conditions: those of each statement. -/
import Derived.Test.YtokpgallfmpmkaaMP2
import Derived.Test.YtokpgallfmpmkaaShSep
namespace Go.Sh.Ytokpgallfmpmkaa
open Go Go.Proofs Go.RowKit
set_option linter.unusedVariables false
set_option linter.unusedSimpArgs false
set_option maxRecDepth 100000
/-- a medium of the program -/
def medA {base : Nat} (M : Nat) (s : Pm) : Asn base := ⟨fun S w => ∃ B L, PMd w base M B L s ∧ S = fp M B L,
  fun ⟨B, L, h, e⟩ hg hs => ⟨B, L, Med.grew h hg fun k hk => hs k (by rw [e]; exact hk), e⟩, fun ⟨B, L, h, e⟩ k hk => by rw [e] at hk; exact Med.fpge h k hk⟩
/-- a piece of the program -/
def pcA {base : Nat} (P M a n : Nat) : Asn base := blkA P 84 [.pointer (some ⟨M, 0, none⟩), .int .i64 a, .int .i64 n]
section
variable {W w : World} {X : Asn W.heap.size} {M P : Nat} {s s' : Pm}
theorem _root_.Go.Sh.Sat.med (x : Sat W (medA M s * X) w) : ∃ B L, PMd w W.heap.size M B L s := by
  obtain ⟨g, S, B, L, h, _⟩ := x.left
  exact ⟨B, L, h⟩
/-- a call that does something to a medium, and to nothing else -/
theorem _root_.Go.Sh.Sat.does (x : Sat W (medA M s * X) w) {r : Option (Value × World)} {val : Value} (hd : ∀ B L, PMd w W.heap.size M B L s → (∀ w', Grew (fp M B L) w w' → ∃ S, X.at_ S w') → Does (fun w B L s => PMd w W.heap.size M B L s) (fp M) w B L r val s') :
    ∃ w', r = some (val, w') ∧ Sat W (medA M s' * X) w' := by
  obtain ⟨g, S, A, T, d, e, ⟨B, L, h, rfl⟩, q⟩ := x
  obtain ⟨B', L', w', h1, h2, h3, h4⟩ := hd B L h fun w' hg => ⟨T, X.frame q hg fun k hk hf => d k hf hk⟩
  refine ⟨w', h1, g.trans h3 fun k hk => .inr (h.fpge k hk).1, fun k => fp M B' L' k ∨ T k, fp M B' L', T, fun k hf hT => ?_, rfl, ⟨B', L', h2, rfl⟩, X.frame q h3 fun k hT hf => d k hf hT⟩
  rcases h4 k hf with h5 | h5
  · exact d k h5 hT
  · have := (X.rng q k hT).2; omega
theorem _root_.Go.Sh.Sat.tells (x : Sat W (medA M s * X) w) {r : Option (Value × World)} {out : List UInt8} {e : Int} (hd : ∀ B L, PMd w W.heap.size M B L s → (∀ w', Grew (fp M B L) w w' → ∃ S, X.at_ S w') → Tells (fun w B L s => PMd w W.heap.size M B L s) (fp M) w B L r out e s') :
    ∃ v w', r = some (.tuple #[v, .int .i64 e], w') ∧ Sat W (clipA 5 1 v out.length (bv out) * (medA M s' * X)) w' := by
  obtain ⟨g, S, A, T, d, e, ⟨B, L, h, rfl⟩, q⟩ := x
  obtain ⟨v, B', L', w', h1, h2, h3, h4, h5, h6⟩ := hd B L h fun w' hg => ⟨T, X.frame q hg fun k hk hf => d k hf hk⟩
  refine ⟨v, w', h1, g.trans h3 fun k hk => .inr (h.fpge k hk).1, fun k => v.ownBlock = some k ∨ (fp M B' L' k ∨ T k), fun k => v.ownBlock = some k, fun k => fp M B' L' k ∨ T k, fun k hv hk => ?_, rfl, ?_, fp M B' L', T, fun k hf hT => ?_, rfl, ⟨B', L', h2, rfl⟩, X.frame q h3 fun k hT hf => d k hf hT⟩
  · rcases hk with hf | hT
    · exact h6 k hf hv
    · have := (X.rng q k hT).2
      have := (h5.ge hv).1
      omega
  · obtain ⟨A, c, e1, e2, o⟩ := h5.out
    exact ⟨⟨A, c, e1, e2, own_rebase o fun k hk => Nat.le_trans g.size (o.lt k hk).1⟩, rfl⟩
  · rcases h4 k hf with h7 | h7
    · exact d k h7 hT
    · have := (X.rng q k hT).2; omega
theorem _root_.Go.Sh.Sat.newMed (x : Sat W X w) {w' : World} (hg : w.grownBy w' none) {B L : Value} (h : PMd w' w.heap.size M B L s) : Sat W (medA M s * X) w' := by
  obtain ⟨g, S, q⟩ := x
  have h' : PMd w' W.heap.size M B L s := ⟨h.blk, Nat.le_trans g.size h.hM, own_rebase h.row fun k hk => Nat.le_trans g.size (h.row.lt k hk).1, own_rebase h.log fun k hk => Nat.le_trans g.size (h.log.lt k hk).1⟩
  refine ⟨g.step (grew_new hg), fun k => fp M B L k ∨ S k, fp M B L, S, fun k hf hs => ?_, rfl, ⟨B, L, h', rfl⟩, X.frame q (grew_new (S := fun _ => False) hg) fun k _ h => h⟩
  have := (X.rng q k hs).2
  have := (Med.fpge h k hf).1
  omega
/-- what came in is read as it was -/
theorem _root_.Go.Sh.Sat.rd (x : Sat W X w) {A : Option Addr} {cs : List Value} (hr : Rd W A cs) : Rd w A cs := hr.grew x.1 fun _ _ h => h
theorem own_rd {base e sz n c : Nat} {A : Option Addr} {xs : List Value} (h : w.ownsRow base e sz (.slice A n c) n xs) (m : Nat) : Rd w A (xs.take m) := (Rd.owned h).take m
theorem m_arm (x : Sat W (medA M s * X) w) (n k : Int) : ∃ w', C 9 #[.pointer (some ⟨M, 0, none⟩), .int .i64 n, .int .i64 k] w = some (.int .i64 (s.arm n k).1, w') ∧ Sat W (medA M (s.arm n k).2 * X) w' := x.does fun B L h _ => does_arm h n k
theorem m_revive (x : Sat W (medA M s * X) w) : ∃ w', C 13 #[.pointer (some ⟨M, 0, none⟩)] w = some (.tuple #[], w') ∧ Sat W (medA M s.revive * X) w' := x.does fun B L h _ => does_revive h
theorem m_forget (x : Sat W (medA M s * X) w) : ∃ w', C 20 #[.pointer (some ⟨M, 0, none⟩)] w = some (.tuple #[], w') ∧ Sat W (medA M s.forget * X) w' := x.does fun B L h _ => does_forget h
theorem m_cut (x : Sat W (medA M s * X) w) (hf : s.fit) (n : Int) : ∃ w', C 40 #[.pointer (some ⟨M, 0, none⟩), .int .i64 n] w = some (.int .i64 (s.cut n).1, w') ∧ Sat W (medA M (s.cut n).2 * X) w' := x.does fun B L h _ => does_cut h hf n
theorem m_size (x : Sat W (medA M s * X) w) : ∃ w', C 11 #[.pointer (some ⟨M, 0, none⟩)] w = some (.int .i64 s.l.length, w') ∧ Sat W (medA M s * X) w' := x.does fun B L h _ => by
  obtain ⟨w', h1, h2, h3⟩ := size_ok h
  exact ⟨B, L, w', h1, h2, h3, fun k hk => .inl hk⟩
theorem m_dead (x : Sat W (medA M s * X) w) : ∃ w', C 12 #[.pointer (some ⟨M, 0, none⟩)] w = some (.bool s.dead, w') ∧ Sat W (medA M s * X) w' := x.does fun B L h _ => by
  obtain ⟨w', h1, h2, h3⟩ := dead_ok h
  exact ⟨B, L, w', h1, h2, h3, fun k hk => .inl hk⟩
theorem m_append {A : Option Addr} {N c0 : Nat} {Z : List UInt8} (x : Sat W (medA M s * (rowA 5 1 (.slice A N c0) N (bv Z) * X)) w) (hf : s.fit) (hA : A ≠ none) {n c : Nat} (hn : n ≤ Z.length) (hc : n ≤ c) (hl : s.l.length + n ≤ 268435456) :
    ∃ w', C 10 #[.pointer (some ⟨M, 0, none⟩), .slice A n c] w = some (.tuple #[.int .i64 (s.append (Z.take n)).1, .int .i64 (s.append (Z.take n)).2.1], w') ∧ Sat W (medA M (s.append (Z.take n)).2.2 * (rowA 5 1 (.slice A N c0) N (bv Z) * X)) w' := x.does fun B L h hX => by
  refine does_append h hf (by rw [List.length_take]; omega) hc (fun w' hg => ?_) (fun h => absurd h hA) hl x.size
  obtain ⟨S, P, Q, d, e, ⟨p, _⟩, q⟩ := hX w' hg
  have := own_rd p n
  rwa [← bv_take] at this
theorem m_load {A : Option Addr} {N c0 : Nat} {Z : List UInt8} (x : Sat W (rowA 5 1 (.slice A N c0) N (bv Z) * X) w) (hA : A ≠ none) {n c : Nat} (hn : n ≤ Z.length) (hl : n ≤ 268435456) :
    ∃ M w', C 8 #[.slice A n c] w = some (.tuple #[.pointer (some ⟨M, 0, none⟩), .int .i64 0], w') ∧ Sat W (medA M ⟨Z.take n, false, 0, 0, []⟩ * (rowA 5 1 (.slice A N c0) N (bv Z) * X)) w' := by
  have hr := own_rd x.row n
  rw [← bv_take] at hr
  obtain ⟨M, B, w', h1, h2, h3, h4⟩ := load_ok (c := c) (by rw [List.length_take]; omega) hr (fun h => absurd h hA) hl (Nat.le_refl w.heap.size)
  exact ⟨M, w', h1, x.newMed h3 h2⟩
theorem m_new (x : Sat W X w) : ∃ M w', C 21 #[] w = some (.pointer (some ⟨M, 0, none⟩), w') ∧ Sat W (medA M ⟨[], false, 0, 0, []⟩ * X) w' := by
  obtain ⟨w', h1, h2, h3⟩ := new_ok w (Nat.le_refl w.heap.size)
  exact ⟨w.heap.size, w', h1, x.newMed h3 h2⟩
end
end Go.Sh.Ytokpgallfmpmkaa
