/- medium: the law's book: take, tells, held, heldSpans. Conditions: those of each statement. -/
import Derived.Test.YtokpgallfmpmkaaMP9
namespace Go.Sh.Ytokpgallfmpmkaa
open Go Go.Proofs Go.RowKit
set_option linter.unusedVariables false
set_option linter.unusedSimpArgs false
set_option maxRecDepth 100000
theorem bs50_1 (A : Option Addr) (n c : Nat) (w : World) : erun Try.prog (Instr.buildSlice 50 1 #[(0, .slice A n c)]) w = some (.slice (some ⟨w.heap.size, 0, none⟩) 1 1, w.alloc (.cells #[.slice A n c] 22)) := id (by kernel_rfl)
theorem bs57_1 (A : Option Addr) (n c : Nat) (w : World) : erun Try.prog (Instr.buildSlice 57 1 #[(0, .slice A n c)]) w = some (.slice (some ⟨w.heap.size, 0, none⟩) 1 1, w.alloc (.cells #[.slice A n c] 41)) := id (by kernel_rfl)
section
variable {W w : World} {X : Asn W.heap.size} {K n : Nat} {xs : List Value} {l s out told k1 k2 k3 k4 : Value}
theorem take_ok (A : Option Addr) (m c : Nat) (x : Sat W (blkA K 59 [l, s, out, told, k1, k2, k3, k4] * (rowA 22 1 out n xs * X)) w) (hn : n ≤ 4000000000) :
    ∃ out' w', C 51 #[.pointer (some ⟨K, 0, none⟩), .slice A m c] w = some (.tuple #[], w') ∧ Sat W (blkA K 59 [l, s, out', told, k1, k2, k3, k4] * (rowA 22 1 out' (n + 1) (xs ++ [.slice A m c]) * X)) w' := by
  obtain ⟨v', w1, h1, y⟩ := x.swap.push (t := 50) (ty := 50) Try.underlying50 inf22 zero22 size22 bytes22 rfl (by decide) (news := [.slice A m c]) rfl (by simp [Value.oneCell']) (by simp [maxLen]; omega) (by omega)
  have y := y.swap
  obtain ⟨A1, c1, rfl, _⟩ := own_form y.swap.row
  have s1 := st50 (v := .slice A1 (n + 1) c1) rfl rfl (y.cell 2 rfl) (y.frozen 2)
  have y2 := y.store 2 (.slice A1 (n + 1) c1) rfl
  refine ⟨_, _, f51.run rfl ?_, y2⟩
  have h1' : erun Try.prog (Builtin.append_ #[50, 50] 50 #[out, .slice (some ⟨w.heap.size, 0, none⟩) 1 1]) (w.alloc (.cells #[.slice A m c] 22)) = some (.slice A1 (n + 1) c1, w1) := h1
  simp [f51, addL, x.cell 2 rfl, bs50_1, h1', s1, Res.done, outcome]
theorem tells_ok (A : Option Addr) (m c : Nat) (x : Sat W (blkA K 59 [l, s, out, told, k1, k2, k3, k4] * (rowA 41 1 told n xs * X)) w) (hn : n ≤ 4000000000) :
    ∃ told' w', C 53 #[.pointer (some ⟨K, 0, none⟩), .slice A m c] w = some (.tuple #[], w') ∧ Sat W (blkA K 59 [l, s, out, told', k1, k2, k3, k4] * (rowA 41 1 told' (n + 1) (xs ++ [.slice A m c]) * X)) w' := by
  obtain ⟨v', w1, h1, y⟩ := x.swap.push (t := 57) (ty := 57) Try.underlying57 inf41 zero41 size41 bytes41 rfl (by decide) (news := [.slice A m c]) rfl (by simp [Value.oneCell']) (by simp [maxLen]; omega) (by omega)
  have y := y.swap
  obtain ⟨A1, c1, rfl, _⟩ := own_form y.swap.row
  have s1 := st57 (v := .slice A1 (n + 1) c1) rfl rfl (y.cell 3 rfl) (y.frozen 3)
  have y2 := y.store 3 (.slice A1 (n + 1) c1) rfl
  refine ⟨_, _, f53.run rfl ?_, y2⟩
  have h1' : erun Try.prog (Builtin.append_ #[57, 57] 57 #[told, .slice (some ⟨w.heap.size, 0, none⟩) 1 1]) (w.alloc (.cells #[.slice A m c] 41)) = some (.slice A1 (n + 1) c1, w1) := h1
  simp [f53, addL, x.cell 3 rfl, bs57_1, h1', s1, Res.done, outcome]
theorem held_ok {kl : List UInt8} (x : Sat W (blkA K 59 [l, s, out, told, k1, k2, k3, k4] * (rowA 22 1 out n xs * (clipA 5 1 k1 kl.length (bv kl) * (rowA 5 1 k2 kl.length (bv kl) * X)))) w) (hn : n ≤ 4000000000) (A1 A2 : Option Addr) (n1 n2 c1 c2 : Nat) :
    ∃ out' w', C 49 #[.pointer (some ⟨K, 0, none⟩), .slice A1 n1 c1, .slice A2 n2 c2] w = some (.bool true, w') ∧ Sat W (blkA K 59 [l, s, out', told, .slice A1 n1 c1, .slice A2 n2 c2, k3, k4] * (rowA 22 1 out' (n + 1) (xs ++ [k1]) * (clipA 5 1 k1 kl.length (bv kl) * X))) w' := by
  obtain ⟨Ak, ck, rfl, hck, ok⟩ := x.swap3.clip
  obtain ⟨Aw, cw, rfl, _⟩ := own_form (x.right.right.right.eq rfl : Sat W (rowA 5 1 k2 kl.length (bv kl) * X) w).row
  have ow := (x.right.right.right).row
  have t1 := tx22_9 (w := w.drew) (c := kl.length) rfl (Rd.owned ok : Rd w Ak (bv kl))
  have t2 := tx22_9 (w := w.drew) (c := cw) rfl (Rd.owned ow)
  have c4 := x.cell 4 rfl
  have c5 := x.cell 5 rfl
  obtain ⟨out', w1, h1, y⟩ := take_ok Ak kl.length kl.length x.drew hn
  have s1 := st22 (v := .slice A1 n1 c1) rfl rfl (y.cell 4 rfl) (y.frozen 4)
  have y1 := y.store 4 (.slice A1 n1 c1) rfl
  have s2 := st22 (v := .slice A2 n2 c2) rfl rfl (y1.cell 5 rfl) (y1.frozen 5)
  have y2 := y1.store 5 (.slice A2 n2 c2) rfl
  refine ⟨out', _, f49.run rfl ?_, (y2.eq (by ac_rfl : _ = rowA 5 1 (.slice Aw kl.length cw) kl.length (bv kl) * (blkA K 59 [l, s, out', told, .slice A1 n1 c1, .slice A2 n2 c2, k3, k4] * (rowA 22 1 out' (n + 1) (xs ++ [.slice Ak kl.length kl.length]) * (clipA 5 1 (.slice Ak kl.length kl.length) kl.length (bv kl) * X))))).right⟩
  simp [f49, addL, c4, c5, t1, t2, h1, s1, s2]
theorem heldS_ok {ks : List (Int × Int)} (x : Sat W (blkA K 59 [l, s, out, told, k1, k2, k3, k4] * (rowA 41 1 told n xs * (clipA 40 2 k3 ks.length (sc ks) * (rowA 40 2 k4 ks.length (sc ks) * X)))) w) (hn : n ≤ 4000000000) (hk : ks.length ≤ 8000000000000) (A1 A2 : Option Addr) (n1 n2 c1 c2 : Nat) :
    ∃ told' w', C 54 #[.pointer (some ⟨K, 0, none⟩), .slice A1 n1 c1, .slice A2 n2 c2] w = some (.bool true, w') ∧ Sat W (blkA K 59 [l, s, out, told', k1, k2, .slice A1 n1 c1, .slice A2 n2 c2] * (rowA 41 1 told' (n + 1) (xs ++ [k3]) * (clipA 40 2 k3 ks.length (sc ks) * X))) w' := by
  obtain ⟨Ak, ck, rfl, hck, ok⟩ := x.swap3.clip
  obtain ⟨Aw, cw, rfl, _⟩ := own_form (x.right.right.right.eq rfl : Sat W (rowA 40 2 k4 ks.length (sc ks) * X) w).row
  have ow := (x.right.right.right).row
  obtain ⟨w0, h0, g0⟩ := same_ok (w := w.drew) (c := ks.length) (c' := cw) (Rd.owned ok : Rd w Ak (sc ks)) (Rd.owned ow) hk
  have c6 := x.cell 6 rfl
  have c7 := x.cell 7 rfl
  have x0 := x.drew.grown g0
  have c6' := x0.cell 6 rfl
  obtain ⟨told', w1, h1, y⟩ := tells_ok Ak ks.length ks.length x0 hn
  have s1 := st41 (v := .slice A1 n1 c1) rfl rfl (y.cell 6 rfl) (y.frozen 6)
  have y1 := y.store 6 (.slice A1 n1 c1) rfl
  have s2 := st41 (v := .slice A2 n2 c2) rfl rfl (y1.cell 7 rfl) (y1.frozen 7)
  have y2 := y1.store 7 (.slice A2 n2 c2) rfl
  refine ⟨told', _, f54.run rfl ?_, (y2.eq (by ac_rfl : _ = rowA 40 2 (.slice Aw ks.length cw) ks.length (sc ks) * (blkA K 59 [l, s, out, told', k1, k2, .slice A1 n1 c1, .slice A2 n2 c2] * (rowA 41 1 told' (n + 1) (xs ++ [.slice Ak ks.length ks.length]) * (clipA 40 2 (.slice Ak ks.length ks.length) ks.length (sc ks) * X))))).right⟩
  simp [f54, addL, c6, c7, h0, c6', h1, s1, s2]
end
end Go.Sh.Ytokpgallfmpmkaa
