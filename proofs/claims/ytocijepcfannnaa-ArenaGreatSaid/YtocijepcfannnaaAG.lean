/- ArenaGreat: the law's function answers true. Conditions: its arguments are ints. -/
import Derived.Test.YtocijepcfannnaaAR
namespace Go.Sh.Ytocijepcfannnaa
open Go Go.Proofs Go.RowKit
set_option linter.unusedVariables false
set_option linter.unusedSimpArgs false

theorem neq4 (x y : Operand) (a b : Bool) : prun Try.prog (do eqGuard .neq 4 x y (.bool a) (.bool b); binOp .neq 4 (.bool a) (.bool b)) = some (.bool (!(a == b))) := by kernel_rfl

theorem great_ok (x y : Int) (hx : -9223372036854775808 ≤ x) (hx' : x ≤ 9223372036854775807) (hy : -9223372036854775808 ≤ y) (hy' : y ≤ 9223372036854775807) (w : World) :
    ∃ w', C 5 #[.int .i64 x, .int .i64 y] w = some (.bool true, w') ∧ w.grownBy w' none := by
  obtain ⟨w1, h1, g1⟩ := awake_ok w
  obtain ⟨n, h2, n0, nN⟩ := pick_ok x 33554432 (by omega) (by omega) hx hx' w1
  obtain ⟨l, h3, l0, l1⟩ := pick_ok y 3 (by omega) (by omega) hy hy' w1
  obtain ⟨n, rfl⟩ := Int.eq_ofNat_of_zero_le n0
  have e1 : IntKind.i64.wrap (2 * (n : Int)) = 2 * n := wrap_i64 (by omega) (by omega)
  have e2 : IntKind.i64.wrap (2 * (n : Int) - l) = 2 * n - l := wrap_i64 (by omega) (by omega)
  obtain ⟨m, hm⟩ : ∃ m : Int, m = if 2 * (n : Int) - l > 0 then 2 * (n : Int) - l else 0 := ⟨_, rfl⟩
  have m0 : 0 ≤ m := by rw [hm]; split <;> omega
  have mN : m ≤ 67108864 := by rw [hm]; split <;> omega
  have mm := max3 0 (2 * (n : Int) - l)
  rw [← hm] at mm
  obtain ⟨w2, h4, a2, g2, z2⟩ := new_ok m w1 m0 (by omega)
  have G2 := grown_trans g1 g2 (by simp)
  have hb : w.heap.size ≤ w1.heap.size := g1.size
  have e3 : IntKind.i64.wrap (0 + 1) = 1 := wrap_i64 (by omega) (by omega)
  by_cases hf : 2 * (n : Int) ≤ m
  · obtain ⟨D, w3, h5, a3, b3, s3, g3⟩ := samples_ok a2 (by omega) (by omega) (by omega) n (by omega)
    obtain ⟨w4, h6, a4, g4, z4⟩ := release_ok a3 0 (by omega) (by omega)
    obtain ⟨B, w5, h7, a5, b5, s5, g5⟩ := bytes_ok a4 (by omega) (by omega) (by omega) n (by omega)
    have h8 := given_ok a5
    have e4 : IntKind.i64.wrap (m - n) = m - n := wrap_i64 (by omega) (by omega)
    have e5 : IntKind.i64.wrap (m - n + 1) = m - n + 1 := wrap_i64 (by omega) (by omega)
    have h9 := bytes_no a5 (by omega) (by omega) (by omega) (m - n + 1) (by omega)
    have hD : D < w3.heap.size := b3.lt
    have hDb : D ≠ w1.heap.size := by omega
    have r1 := fulls_ok (w := w5.drew) (A := some ⟨D, 0, none⟩) (n := n) (cp := n) (c := 0) (by simp [maxLen]; omega) (((b3.grown g4 (by simp; omega)).grown g5 (by simp; omega)).rd)
    have r2 := full_ok (w := w5.drew) (A := some ⟨B, 0, none⟩) (n := n) (cp := n) (c := 0) (by simp [maxLen]; omega) (Blk.rd (Blk.drew b5))
    refine ⟨w5.drew, f5.run rfl ?_, grown_new G2 (grown_step g3 (grown_step g4 (grown_step g5 (grown_drew _ _)))) hb⟩
    have hnm : (n : Int) ≤ m := by omega
    simp at h4 h5 h7 h8 h9
    simp [f5, h1, h2, h3, e1, e2, mm, h4, h5, hf, neq4, h6, h7, hnm, h8, e4, e5, h9, r1, r2]
  · have h5 := samples_no a2 (by omega) (by omega) (by omega) n (by omega)
    obtain ⟨w4, h6, a4, g4, z4⟩ := release_ok (w := w2.drew) a2 0 (by omega) (by omega)
    by_cases hnm : (n : Int) ≤ m
    · obtain ⟨B, w5, h7, a5, b5, s5, g5⟩ := bytes_ok a4 (by omega) (by omega) (by omega) n (by omega)
      have h8 := given_ok a5
      have e4 : IntKind.i64.wrap (m - n) = m - n := wrap_i64 (by omega) (by omega)
      have e5 : IntKind.i64.wrap (m - n + 1) = m - n + 1 := wrap_i64 (by omega) (by omega)
      have h9 := bytes_no a5 (by omega) (by omega) (by omega) (m - n + 1) (by omega)
      have r1 := fulls_ok (w := w5.drew) (A := none) (n := 0) (cp := 0) (c := 0) (by simp [maxLen]) rfl
      have r2 := full_ok (w := w5.drew) (A := some ⟨B, 0, none⟩) (n := n) (cp := n) (c := 0) (by simp [maxLen]; omega) (Blk.rd (Blk.drew b5))
      refine ⟨w5.drew, f5.run rfl ?_, grown_new G2 (grown_step (grown_drew _ _) (grown_step g4 (grown_step g5 (grown_drew _ _)))) hb⟩
      simp at h4 h5 h7 h8 h9 r1
      simp [f5, h1, h2, h3, e1, e2, mm, h4, h5, hf, neq4, h6, h7, hnm, h8, e4, e5, h9, r1, r2]
    · have h7 := bytes_no a4 (by omega) (by omega) (by omega) n (by omega)
      have h8 := given_ok (w := w4.drew) a4
      have e4 : IntKind.i64.wrap (m - 0) = m := by rw [Int.sub_zero]; exact wrap_i64 (by omega) (by omega)
      have e5 : IntKind.i64.wrap (m + 1) = m + 1 := wrap_i64 (by omega) (by omega)
      have h9 := bytes_no (w := w4.drew) a4 (by omega) (by omega) (by omega) (m + 1) (by omega)
      have r1 := fulls_ok (w := w4.drew.drew) (A := none) (n := 0) (cp := 0) (c := 0) (by simp [maxLen]) rfl
      have r2 := full_ok (w := w4.drew.drew) (A := none) (n := 0) (cp := 0) (c := 0) (by simp [maxLen]) rfl
      refine ⟨w4.drew.drew, f5.run rfl ?_, grown_new G2 (grown_step (grown_drew _ _) (grown_step g4 (grown_step (grown_drew _ _) (grown_drew _ _)))) hb⟩
      simp at h4 h5 h7 h8 h9 r1 r2 e4
      simp [f5, h1, h2, h3, e1, e2, mm, h4, h5, hf, neq4, h6, h7, hnm, h8, e4, e5, h9, r1, r2]

theorem great_walk (W : World) (x : Int) (hx : (Lit.int .i64 x).wf = true) (y : Int) (hy : (Lit.int .i64 y).wf = true) : Calls Try.prog 5 #[.int .i64 x, .int .i64 y] W fun e w' => e = .returned (.bool true) ∧ Below W.heap.size W w' := by
  obtain ⟨x0, x1⟩ := wf_i64 hx
  obtain ⟨y0, y1⟩ := wf_i64 hy
  obtain ⟨w', h, g⟩ := great_ok x y x0 x1 y0 y1 W
  exact (calls_of_run (by kernel_rfl) noPrim_ok h).mono fun e v ⟨h1, h2⟩ => ⟨h1, h2 ▸ below_of_grown g⟩
end Go.Sh.Ytocijepcfannnaa
