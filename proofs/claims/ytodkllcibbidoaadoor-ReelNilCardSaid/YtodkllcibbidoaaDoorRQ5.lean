/- reel: a label's bytes, the orders of its effects (0 to 9). Printed by a program of this session's own. Conditions: those of each statement. -/
import Derived.Test.YtodkllcibbidoaaDoorRQ3
import Derived.Test.YtodkllcibbidoaaDoorRQ4
namespace Go.Sh.YtodkllcibbidoaaDoor
open Go Go.Proofs Go.RowKit Go.Lib
set_option linter.unusedVariables false
set_option linter.unusedSimpArgs false
set_option maxRecDepth 100000
theorem cv23 (rb : UInt8) : prun Tryd.prog (convert 23 5 (.int .i64 rb.toNat)) = some (.int .u8 rb.toNat) := by
  have h : ∀ z : Int, prun Tryd.prog (convert 23 5 (.int .i64 z)) = some (.int .u8 (IntKind.u8.wrap z)) := fun z => id (by kernel_rfl)
  have := rb.toNat_lt
  rw [h, wrap_u8n, Nat.mod_eq_of_lt (by omega)]
theorem cv3 {n : Nat} (hn : n ≤ 100) : prun Tryd.prog (convert 3 5 (.int .i64 n)) = some (.int .u8 n) := by
  have h : ∀ z : Int, prun Tryd.prog (convert 3 5 (.int .i64 z)) = some (.int .u8 (IntKind.u8.wrap z)) := fun z => id (by kernel_rfl)
  rw [h, wrap_u8n, Nat.mod_eq_of_lt (by omega)]
theorem stF {W w : World} {X : Asn W.heap.size} (x : Sat W X w) {n : Nat} (hn : n < 4294967296) : ∃ A c w', C 28 #[.int .i64 n] w = some (.slice A 4 c, w') ∧ Sat W (rowA 5 1 (.slice A 4 c) 4 (bv (be4 n)) * X) w' := by
  obtain ⟨v, w', k, x'⟩ := four_ok x hn
  obtain ⟨A, c, rfl, _, _⟩ := own_form x'.row
  exact ⟨A, c, w', k, x'⟩
section
variable {W : World} {X : Asn W.heap.size}
theorem f16_o0 {w : World} {t : List UInt8} {rb : UInt8} {s b : Nat} {Rt : List Value → World → Prop} (ht : t.length ≤ 100) (hs : s < 4294967296) (x : Sat W (blkA b 25 [st t, .int .i64 rb.toNat, .int .i64 s] * X) w) (hRt : ∀ v w', Sat W (rowA 5 1 v (t.length + 15) (bv (labelB t rb s)) * X) w' → Rt [v] w') : f16.o0 C Rt (.pointer (some ⟨b, 0, none⟩)) w := by
  have x0 := x.drew
  obtain ⟨w0, hw0⟩ : ∃ w0, w0 = w.drew := ⟨_, rfl⟩
  rw [← hw0] at x0
  have b0 := x0
  have c00 : w0.cell? ⟨b, 0, none⟩ = some (st t) := b0.cell 0 rfl
  have c01 : w0.cell? ⟨b, 1, none⟩ = some (.int .i64 rb.toNat) := b0.cell 1 rfl
  have c02 : w0.cell? ⟨b, 2, none⟩ = some (.int .i64 s) := b0.cell 2 rfl
  obtain ⟨kA, w1, k1, x1⟩ := stA x0
  have b1 := x1.eq (by ac_rfl : _ = blkA b 25 [st t, .int .i64 rb.toNat, .int .i64 s] * (blkA kA 5 (bv reelB) * X))
  have c10 : w1.cell? ⟨b, 0, none⟩ = some (st t) := b1.cell 0 rfl
  have c11 : w1.cell? ⟨b, 1, none⟩ = some (.int .i64 rb.toNat) := b1.cell 1 rfl
  have c12 : w1.cell? ⟨b, 2, none⟩ = some (.int .i64 s) := b1.cell 2 rfl
  obtain ⟨w2, k2, x2⟩ := stB x1
  have b2 := x2.eq (by ac_rfl : _ = blkA b 25 [st t, .int .i64 rb.toNat, .int .i64 s] * (litA kA (bv reelB) * X))
  have c20 : w2.cell? ⟨b, 0, none⟩ = some (st t) := b2.cell 0 rfl
  have c21 : w2.cell? ⟨b, 1, none⟩ = some (.int .i64 rb.toNat) := b2.cell 1 rfl
  have c22 : w2.cell? ⟨b, 2, none⟩ = some (.int .i64 s) := b2.cell 2 rfl
  obtain ⟨kL, w3, k3, x3⟩ := stL x2 rb t.length ht
  have b3 := x3.eq (by ac_rfl : _ = blkA b 25 [st t, .int .i64 rb.toNat, .int .i64 s] * (blkA kL 5 (bv [1, rb, UInt8.ofNat t.length]) * (litA kA (bv reelB) * X)))
  have c30 : w3.cell? ⟨b, 0, none⟩ = some (st t) := b3.cell 0 rfl
  have c31 : w3.cell? ⟨b, 1, none⟩ = some (.int .i64 rb.toNat) := b3.cell 1 rfl
  have c32 : w3.cell? ⟨b, 2, none⟩ = some (.int .i64 s) := b3.cell 2 rfl
  obtain ⟨kT, cT, w4, k4, x4⟩ := stT x3 t
  have b4 := x4.eq (by ac_rfl : _ = blkA b 25 [st t, .int .i64 rb.toNat, .int .i64 s] * (preA kT (bv t) * (blkA kL 5 (bv [1, rb, UInt8.ofNat t.length]) * (litA kA (bv reelB) * X))))
  have c40 : w4.cell? ⟨b, 0, none⟩ = some (st t) := b4.cell 0 rfl
  have c41 : w4.cell? ⟨b, 1, none⟩ = some (.int .i64 rb.toNat) := b4.cell 1 rfl
  have c42 : w4.cell? ⟨b, 2, none⟩ = some (.int .i64 s) := b4.cell 2 rfl
  obtain ⟨AF, cF, w5, k5, x5⟩ := stF x4 hs
  have b5 := x5.eq (by ac_rfl : _ = blkA b 25 [st t, .int .i64 rb.toNat, .int .i64 s] * (rowA 5 1 (.slice AF 4 cF) 4 (bv (be4 s)) * (preA kT (bv t) * (blkA kL 5 (bv [1, rb, UInt8.ofNat t.length]) * (litA kA (bv reelB) * X)))))
  have c50 : w5.cell? ⟨b, 0, none⟩ = some (st t) := b5.cell 0 rfl
  have c51 : w5.cell? ⟨b, 1, none⟩ = some (.int .i64 rb.toNat) := b5.cell 1 rfl
  have c52 : w5.cell? ⟨b, 2, none⟩ = some (.int .i64 s) := b5.cell 2 rfl
  obtain ⟨k6, w6, v, w7, k6s, k7, x7, x6⟩ := label_sum (cT := cT) ht (x5.eq (by ac_rfl : _ = litA kA (bv reelB) * (blkA kL 5 (bv [1, rb, UInt8.ofNat t.length]) * (preA kT (bv t) * (rowA 5 1 (.slice AF 4 cF) 4 (bv (be4 s)) * (blkA b 25 [st t, .int .i64 rb.toNat, .int .i64 s] * X))))))
  have hR := hRt v w7 x7.drop2
  have c60 : w6.cell? ⟨b, 0, none⟩ = some (st t) := x6.cell 0 rfl
  have c61 : w6.cell? ⟨b, 1, none⟩ = some (.int .i64 rb.toNat) := x6.cell 1 rfl
  have c62 : w6.cell? ⟨b, 2, none⟩ = some (.int .i64 s) := x6.cell 2 rfl
  have c70 : w7.cell? ⟨b, 0, none⟩ = some (st t) := x7.swap.cell 0 rfl
  have c71 : w7.cell? ⟨b, 1, none⟩ = some (.int .i64 rb.toNat) := x7.swap.cell 1 rfl
  have c72 : w7.cell? ⟨b, 2, none⟩ = some (.int .i64 s) := x7.swap.cell 2 rfl
  have e1 := cv23 rb
  have e2 := cv3 ht
  have e3 := len9 3 ⟨t.toArray⟩
  rw [st_size] at e3
  obtain ⟨n, hn⟩ : ∃ n, n = t.length := ⟨_, rfl⟩
  rw [← hn] at e2 e3 k3 k4 k6s
  unfold f16.o0
  simp [addL, ← hw0, e1, e2, e3, c00, c01, c02, k1, c10, c11, c12, k2, c20, c21, c22, k3, c30, c31, c32, k4, c40, c41, c42, k5, c50, c51, c52, k6s, k7, c60, c61, c62, c70, c71, c72, chkThen, f16.k0, after, hR]
theorem f16_o1 {w : World} {t : List UInt8} {rb : UInt8} {s b : Nat} {Rt : List Value → World → Prop} (ht : t.length ≤ 100) (hs : s < 4294967296) (x : Sat W (blkA b 25 [st t, .int .i64 rb.toNat, .int .i64 s] * X) w) (hRt : ∀ v w', Sat W (rowA 5 1 v (t.length + 15) (bv (labelB t rb s)) * X) w' → Rt [v] w') : f16.o1 C Rt (.pointer (some ⟨b, 0, none⟩)) w := by
  have x0 := x.drew
  obtain ⟨w0, hw0⟩ : ∃ w0, w0 = w.drew := ⟨_, rfl⟩
  rw [← hw0] at x0
  have b0 := x0
  have c00 : w0.cell? ⟨b, 0, none⟩ = some (st t) := b0.cell 0 rfl
  have c01 : w0.cell? ⟨b, 1, none⟩ = some (.int .i64 rb.toNat) := b0.cell 1 rfl
  have c02 : w0.cell? ⟨b, 2, none⟩ = some (.int .i64 s) := b0.cell 2 rfl
  obtain ⟨kA, w1, k1, x1⟩ := stA x0
  have b1 := x1.eq (by ac_rfl : _ = blkA b 25 [st t, .int .i64 rb.toNat, .int .i64 s] * (blkA kA 5 (bv reelB) * X))
  have c10 : w1.cell? ⟨b, 0, none⟩ = some (st t) := b1.cell 0 rfl
  have c11 : w1.cell? ⟨b, 1, none⟩ = some (.int .i64 rb.toNat) := b1.cell 1 rfl
  have c12 : w1.cell? ⟨b, 2, none⟩ = some (.int .i64 s) := b1.cell 2 rfl
  obtain ⟨w2, k2, x2⟩ := stB x1
  have b2 := x2.eq (by ac_rfl : _ = blkA b 25 [st t, .int .i64 rb.toNat, .int .i64 s] * (litA kA (bv reelB) * X))
  have c20 : w2.cell? ⟨b, 0, none⟩ = some (st t) := b2.cell 0 rfl
  have c21 : w2.cell? ⟨b, 1, none⟩ = some (.int .i64 rb.toNat) := b2.cell 1 rfl
  have c22 : w2.cell? ⟨b, 2, none⟩ = some (.int .i64 s) := b2.cell 2 rfl
  obtain ⟨kL, w3, k3, x3⟩ := stL x2 rb t.length ht
  have b3 := x3.eq (by ac_rfl : _ = blkA b 25 [st t, .int .i64 rb.toNat, .int .i64 s] * (blkA kL 5 (bv [1, rb, UInt8.ofNat t.length]) * (litA kA (bv reelB) * X)))
  have c30 : w3.cell? ⟨b, 0, none⟩ = some (st t) := b3.cell 0 rfl
  have c31 : w3.cell? ⟨b, 1, none⟩ = some (.int .i64 rb.toNat) := b3.cell 1 rfl
  have c32 : w3.cell? ⟨b, 2, none⟩ = some (.int .i64 s) := b3.cell 2 rfl
  obtain ⟨AF, cF, w4, k4, x4⟩ := stF x3 hs
  have b4 := x4.eq (by ac_rfl : _ = blkA b 25 [st t, .int .i64 rb.toNat, .int .i64 s] * (rowA 5 1 (.slice AF 4 cF) 4 (bv (be4 s)) * (blkA kL 5 (bv [1, rb, UInt8.ofNat t.length]) * (litA kA (bv reelB) * X))))
  have c40 : w4.cell? ⟨b, 0, none⟩ = some (st t) := b4.cell 0 rfl
  have c41 : w4.cell? ⟨b, 1, none⟩ = some (.int .i64 rb.toNat) := b4.cell 1 rfl
  have c42 : w4.cell? ⟨b, 2, none⟩ = some (.int .i64 s) := b4.cell 2 rfl
  obtain ⟨kT, cT, w5, k5, x5⟩ := stT x4 t
  have b5 := x5.eq (by ac_rfl : _ = blkA b 25 [st t, .int .i64 rb.toNat, .int .i64 s] * (preA kT (bv t) * (rowA 5 1 (.slice AF 4 cF) 4 (bv (be4 s)) * (blkA kL 5 (bv [1, rb, UInt8.ofNat t.length]) * (litA kA (bv reelB) * X)))))
  have c50 : w5.cell? ⟨b, 0, none⟩ = some (st t) := b5.cell 0 rfl
  have c51 : w5.cell? ⟨b, 1, none⟩ = some (.int .i64 rb.toNat) := b5.cell 1 rfl
  have c52 : w5.cell? ⟨b, 2, none⟩ = some (.int .i64 s) := b5.cell 2 rfl
  obtain ⟨k6, w6, v, w7, k6s, k7, x7, x6⟩ := label_sum (cT := cT) ht (x5.eq (by ac_rfl : _ = litA kA (bv reelB) * (blkA kL 5 (bv [1, rb, UInt8.ofNat t.length]) * (preA kT (bv t) * (rowA 5 1 (.slice AF 4 cF) 4 (bv (be4 s)) * (blkA b 25 [st t, .int .i64 rb.toNat, .int .i64 s] * X))))))
  have hR := hRt v w7 x7.drop2
  have c60 : w6.cell? ⟨b, 0, none⟩ = some (st t) := x6.cell 0 rfl
  have c61 : w6.cell? ⟨b, 1, none⟩ = some (.int .i64 rb.toNat) := x6.cell 1 rfl
  have c62 : w6.cell? ⟨b, 2, none⟩ = some (.int .i64 s) := x6.cell 2 rfl
  have c70 : w7.cell? ⟨b, 0, none⟩ = some (st t) := x7.swap.cell 0 rfl
  have c71 : w7.cell? ⟨b, 1, none⟩ = some (.int .i64 rb.toNat) := x7.swap.cell 1 rfl
  have c72 : w7.cell? ⟨b, 2, none⟩ = some (.int .i64 s) := x7.swap.cell 2 rfl
  have e1 := cv23 rb
  have e2 := cv3 ht
  have e3 := len9 3 ⟨t.toArray⟩
  rw [st_size] at e3
  obtain ⟨n, hn⟩ : ∃ n, n = t.length := ⟨_, rfl⟩
  rw [← hn] at e2 e3 k3 k5 k6s
  unfold f16.o1
  simp [addL, ← hw0, e1, e2, e3, c00, c01, c02, k1, c10, c11, c12, k2, c20, c21, c22, k3, c30, c31, c32, k4, c40, c41, c42, k5, c50, c51, c52, k6s, k7, c60, c61, c62, c70, c71, c72, chkThen, f16.k0, after, hR]
theorem f16_o2 {w : World} {t : List UInt8} {rb : UInt8} {s b : Nat} {Rt : List Value → World → Prop} (ht : t.length ≤ 100) (hs : s < 4294967296) (x : Sat W (blkA b 25 [st t, .int .i64 rb.toNat, .int .i64 s] * X) w) (hRt : ∀ v w', Sat W (rowA 5 1 v (t.length + 15) (bv (labelB t rb s)) * X) w' → Rt [v] w') : f16.o2 C Rt (.pointer (some ⟨b, 0, none⟩)) w := by
  have x0 := x.drew
  obtain ⟨w0, hw0⟩ : ∃ w0, w0 = w.drew := ⟨_, rfl⟩
  rw [← hw0] at x0
  have b0 := x0
  have c00 : w0.cell? ⟨b, 0, none⟩ = some (st t) := b0.cell 0 rfl
  have c01 : w0.cell? ⟨b, 1, none⟩ = some (.int .i64 rb.toNat) := b0.cell 1 rfl
  have c02 : w0.cell? ⟨b, 2, none⟩ = some (.int .i64 s) := b0.cell 2 rfl
  obtain ⟨kA, w1, k1, x1⟩ := stA x0
  have b1 := x1.eq (by ac_rfl : _ = blkA b 25 [st t, .int .i64 rb.toNat, .int .i64 s] * (blkA kA 5 (bv reelB) * X))
  have c10 : w1.cell? ⟨b, 0, none⟩ = some (st t) := b1.cell 0 rfl
  have c11 : w1.cell? ⟨b, 1, none⟩ = some (.int .i64 rb.toNat) := b1.cell 1 rfl
  have c12 : w1.cell? ⟨b, 2, none⟩ = some (.int .i64 s) := b1.cell 2 rfl
  obtain ⟨w2, k2, x2⟩ := stB x1
  have b2 := x2.eq (by ac_rfl : _ = blkA b 25 [st t, .int .i64 rb.toNat, .int .i64 s] * (litA kA (bv reelB) * X))
  have c20 : w2.cell? ⟨b, 0, none⟩ = some (st t) := b2.cell 0 rfl
  have c21 : w2.cell? ⟨b, 1, none⟩ = some (.int .i64 rb.toNat) := b2.cell 1 rfl
  have c22 : w2.cell? ⟨b, 2, none⟩ = some (.int .i64 s) := b2.cell 2 rfl
  obtain ⟨kT, cT, w3, k3, x3⟩ := stT x2 t
  have b3 := x3.eq (by ac_rfl : _ = blkA b 25 [st t, .int .i64 rb.toNat, .int .i64 s] * (preA kT (bv t) * (litA kA (bv reelB) * X)))
  have c30 : w3.cell? ⟨b, 0, none⟩ = some (st t) := b3.cell 0 rfl
  have c31 : w3.cell? ⟨b, 1, none⟩ = some (.int .i64 rb.toNat) := b3.cell 1 rfl
  have c32 : w3.cell? ⟨b, 2, none⟩ = some (.int .i64 s) := b3.cell 2 rfl
  obtain ⟨kL, w4, k4, x4⟩ := stL x3 rb t.length ht
  have b4 := x4.eq (by ac_rfl : _ = blkA b 25 [st t, .int .i64 rb.toNat, .int .i64 s] * (blkA kL 5 (bv [1, rb, UInt8.ofNat t.length]) * (preA kT (bv t) * (litA kA (bv reelB) * X))))
  have c40 : w4.cell? ⟨b, 0, none⟩ = some (st t) := b4.cell 0 rfl
  have c41 : w4.cell? ⟨b, 1, none⟩ = some (.int .i64 rb.toNat) := b4.cell 1 rfl
  have c42 : w4.cell? ⟨b, 2, none⟩ = some (.int .i64 s) := b4.cell 2 rfl
  obtain ⟨AF, cF, w5, k5, x5⟩ := stF x4 hs
  have b5 := x5.eq (by ac_rfl : _ = blkA b 25 [st t, .int .i64 rb.toNat, .int .i64 s] * (rowA 5 1 (.slice AF 4 cF) 4 (bv (be4 s)) * (blkA kL 5 (bv [1, rb, UInt8.ofNat t.length]) * (preA kT (bv t) * (litA kA (bv reelB) * X)))))
  have c50 : w5.cell? ⟨b, 0, none⟩ = some (st t) := b5.cell 0 rfl
  have c51 : w5.cell? ⟨b, 1, none⟩ = some (.int .i64 rb.toNat) := b5.cell 1 rfl
  have c52 : w5.cell? ⟨b, 2, none⟩ = some (.int .i64 s) := b5.cell 2 rfl
  obtain ⟨k6, w6, v, w7, k6s, k7, x7, x6⟩ := label_sum (cT := cT) ht (x5.eq (by ac_rfl : _ = litA kA (bv reelB) * (blkA kL 5 (bv [1, rb, UInt8.ofNat t.length]) * (preA kT (bv t) * (rowA 5 1 (.slice AF 4 cF) 4 (bv (be4 s)) * (blkA b 25 [st t, .int .i64 rb.toNat, .int .i64 s] * X))))))
  have hR := hRt v w7 x7.drop2
  have c60 : w6.cell? ⟨b, 0, none⟩ = some (st t) := x6.cell 0 rfl
  have c61 : w6.cell? ⟨b, 1, none⟩ = some (.int .i64 rb.toNat) := x6.cell 1 rfl
  have c62 : w6.cell? ⟨b, 2, none⟩ = some (.int .i64 s) := x6.cell 2 rfl
  have c70 : w7.cell? ⟨b, 0, none⟩ = some (st t) := x7.swap.cell 0 rfl
  have c71 : w7.cell? ⟨b, 1, none⟩ = some (.int .i64 rb.toNat) := x7.swap.cell 1 rfl
  have c72 : w7.cell? ⟨b, 2, none⟩ = some (.int .i64 s) := x7.swap.cell 2 rfl
  have e1 := cv23 rb
  have e2 := cv3 ht
  have e3 := len9 3 ⟨t.toArray⟩
  rw [st_size] at e3
  obtain ⟨n, hn⟩ : ∃ n, n = t.length := ⟨_, rfl⟩
  rw [← hn] at e2 e3 k4 k3 k6s
  unfold f16.o2
  simp [addL, ← hw0, e1, e2, e3, c00, c01, c02, k1, c10, c11, c12, k2, c20, c21, c22, k3, c30, c31, c32, k4, c40, c41, c42, k5, c50, c51, c52, k6s, k7, c60, c61, c62, c70, c71, c72, chkThen, f16.k0, after, hR]
theorem f16_o3 {w : World} {t : List UInt8} {rb : UInt8} {s b : Nat} {Rt : List Value → World → Prop} (ht : t.length ≤ 100) (hs : s < 4294967296) (x : Sat W (blkA b 25 [st t, .int .i64 rb.toNat, .int .i64 s] * X) w) (hRt : ∀ v w', Sat W (rowA 5 1 v (t.length + 15) (bv (labelB t rb s)) * X) w' → Rt [v] w') : f16.o3 C Rt (.pointer (some ⟨b, 0, none⟩)) w := by
  have x0 := x.drew
  obtain ⟨w0, hw0⟩ : ∃ w0, w0 = w.drew := ⟨_, rfl⟩
  rw [← hw0] at x0
  have b0 := x0
  have c00 : w0.cell? ⟨b, 0, none⟩ = some (st t) := b0.cell 0 rfl
  have c01 : w0.cell? ⟨b, 1, none⟩ = some (.int .i64 rb.toNat) := b0.cell 1 rfl
  have c02 : w0.cell? ⟨b, 2, none⟩ = some (.int .i64 s) := b0.cell 2 rfl
  obtain ⟨kA, w1, k1, x1⟩ := stA x0
  have b1 := x1.eq (by ac_rfl : _ = blkA b 25 [st t, .int .i64 rb.toNat, .int .i64 s] * (blkA kA 5 (bv reelB) * X))
  have c10 : w1.cell? ⟨b, 0, none⟩ = some (st t) := b1.cell 0 rfl
  have c11 : w1.cell? ⟨b, 1, none⟩ = some (.int .i64 rb.toNat) := b1.cell 1 rfl
  have c12 : w1.cell? ⟨b, 2, none⟩ = some (.int .i64 s) := b1.cell 2 rfl
  obtain ⟨w2, k2, x2⟩ := stB x1
  have b2 := x2.eq (by ac_rfl : _ = blkA b 25 [st t, .int .i64 rb.toNat, .int .i64 s] * (litA kA (bv reelB) * X))
  have c20 : w2.cell? ⟨b, 0, none⟩ = some (st t) := b2.cell 0 rfl
  have c21 : w2.cell? ⟨b, 1, none⟩ = some (.int .i64 rb.toNat) := b2.cell 1 rfl
  have c22 : w2.cell? ⟨b, 2, none⟩ = some (.int .i64 s) := b2.cell 2 rfl
  obtain ⟨kT, cT, w3, k3, x3⟩ := stT x2 t
  have b3 := x3.eq (by ac_rfl : _ = blkA b 25 [st t, .int .i64 rb.toNat, .int .i64 s] * (preA kT (bv t) * (litA kA (bv reelB) * X)))
  have c30 : w3.cell? ⟨b, 0, none⟩ = some (st t) := b3.cell 0 rfl
  have c31 : w3.cell? ⟨b, 1, none⟩ = some (.int .i64 rb.toNat) := b3.cell 1 rfl
  have c32 : w3.cell? ⟨b, 2, none⟩ = some (.int .i64 s) := b3.cell 2 rfl
  obtain ⟨AF, cF, w4, k4, x4⟩ := stF x3 hs
  have b4 := x4.eq (by ac_rfl : _ = blkA b 25 [st t, .int .i64 rb.toNat, .int .i64 s] * (rowA 5 1 (.slice AF 4 cF) 4 (bv (be4 s)) * (preA kT (bv t) * (litA kA (bv reelB) * X))))
  have c40 : w4.cell? ⟨b, 0, none⟩ = some (st t) := b4.cell 0 rfl
  have c41 : w4.cell? ⟨b, 1, none⟩ = some (.int .i64 rb.toNat) := b4.cell 1 rfl
  have c42 : w4.cell? ⟨b, 2, none⟩ = some (.int .i64 s) := b4.cell 2 rfl
  obtain ⟨kL, w5, k5, x5⟩ := stL x4 rb t.length ht
  have b5 := x5.eq (by ac_rfl : _ = blkA b 25 [st t, .int .i64 rb.toNat, .int .i64 s] * (blkA kL 5 (bv [1, rb, UInt8.ofNat t.length]) * (rowA 5 1 (.slice AF 4 cF) 4 (bv (be4 s)) * (preA kT (bv t) * (litA kA (bv reelB) * X)))))
  have c50 : w5.cell? ⟨b, 0, none⟩ = some (st t) := b5.cell 0 rfl
  have c51 : w5.cell? ⟨b, 1, none⟩ = some (.int .i64 rb.toNat) := b5.cell 1 rfl
  have c52 : w5.cell? ⟨b, 2, none⟩ = some (.int .i64 s) := b5.cell 2 rfl
  obtain ⟨k6, w6, v, w7, k6s, k7, x7, x6⟩ := label_sum (cT := cT) ht (x5.eq (by ac_rfl : _ = litA kA (bv reelB) * (blkA kL 5 (bv [1, rb, UInt8.ofNat t.length]) * (preA kT (bv t) * (rowA 5 1 (.slice AF 4 cF) 4 (bv (be4 s)) * (blkA b 25 [st t, .int .i64 rb.toNat, .int .i64 s] * X))))))
  have hR := hRt v w7 x7.drop2
  have c60 : w6.cell? ⟨b, 0, none⟩ = some (st t) := x6.cell 0 rfl
  have c61 : w6.cell? ⟨b, 1, none⟩ = some (.int .i64 rb.toNat) := x6.cell 1 rfl
  have c62 : w6.cell? ⟨b, 2, none⟩ = some (.int .i64 s) := x6.cell 2 rfl
  have c70 : w7.cell? ⟨b, 0, none⟩ = some (st t) := x7.swap.cell 0 rfl
  have c71 : w7.cell? ⟨b, 1, none⟩ = some (.int .i64 rb.toNat) := x7.swap.cell 1 rfl
  have c72 : w7.cell? ⟨b, 2, none⟩ = some (.int .i64 s) := x7.swap.cell 2 rfl
  have e1 := cv23 rb
  have e2 := cv3 ht
  have e3 := len9 3 ⟨t.toArray⟩
  rw [st_size] at e3
  obtain ⟨n, hn⟩ : ∃ n, n = t.length := ⟨_, rfl⟩
  rw [← hn] at e2 e3 k5 k3 k6s
  unfold f16.o3
  simp [addL, ← hw0, e1, e2, e3, c00, c01, c02, k1, c10, c11, c12, k2, c20, c21, c22, k3, c30, c31, c32, k4, c40, c41, c42, k5, c50, c51, c52, k6s, k7, c60, c61, c62, c70, c71, c72, chkThen, f16.k0, after, hR]
theorem f16_o4 {w : World} {t : List UInt8} {rb : UInt8} {s b : Nat} {Rt : List Value → World → Prop} (ht : t.length ≤ 100) (hs : s < 4294967296) (x : Sat W (blkA b 25 [st t, .int .i64 rb.toNat, .int .i64 s] * X) w) (hRt : ∀ v w', Sat W (rowA 5 1 v (t.length + 15) (bv (labelB t rb s)) * X) w' → Rt [v] w') : f16.o4 C Rt (.pointer (some ⟨b, 0, none⟩)) w := by
  have x0 := x.drew
  obtain ⟨w0, hw0⟩ : ∃ w0, w0 = w.drew := ⟨_, rfl⟩
  rw [← hw0] at x0
  have b0 := x0
  have c00 : w0.cell? ⟨b, 0, none⟩ = some (st t) := b0.cell 0 rfl
  have c01 : w0.cell? ⟨b, 1, none⟩ = some (.int .i64 rb.toNat) := b0.cell 1 rfl
  have c02 : w0.cell? ⟨b, 2, none⟩ = some (.int .i64 s) := b0.cell 2 rfl
  obtain ⟨kA, w1, k1, x1⟩ := stA x0
  have b1 := x1.eq (by ac_rfl : _ = blkA b 25 [st t, .int .i64 rb.toNat, .int .i64 s] * (blkA kA 5 (bv reelB) * X))
  have c10 : w1.cell? ⟨b, 0, none⟩ = some (st t) := b1.cell 0 rfl
  have c11 : w1.cell? ⟨b, 1, none⟩ = some (.int .i64 rb.toNat) := b1.cell 1 rfl
  have c12 : w1.cell? ⟨b, 2, none⟩ = some (.int .i64 s) := b1.cell 2 rfl
  obtain ⟨w2, k2, x2⟩ := stB x1
  have b2 := x2.eq (by ac_rfl : _ = blkA b 25 [st t, .int .i64 rb.toNat, .int .i64 s] * (litA kA (bv reelB) * X))
  have c20 : w2.cell? ⟨b, 0, none⟩ = some (st t) := b2.cell 0 rfl
  have c21 : w2.cell? ⟨b, 1, none⟩ = some (.int .i64 rb.toNat) := b2.cell 1 rfl
  have c22 : w2.cell? ⟨b, 2, none⟩ = some (.int .i64 s) := b2.cell 2 rfl
  obtain ⟨AF, cF, w3, k3, x3⟩ := stF x2 hs
  have b3 := x3.eq (by ac_rfl : _ = blkA b 25 [st t, .int .i64 rb.toNat, .int .i64 s] * (rowA 5 1 (.slice AF 4 cF) 4 (bv (be4 s)) * (litA kA (bv reelB) * X)))
  have c30 : w3.cell? ⟨b, 0, none⟩ = some (st t) := b3.cell 0 rfl
  have c31 : w3.cell? ⟨b, 1, none⟩ = some (.int .i64 rb.toNat) := b3.cell 1 rfl
  have c32 : w3.cell? ⟨b, 2, none⟩ = some (.int .i64 s) := b3.cell 2 rfl
  obtain ⟨kL, w4, k4, x4⟩ := stL x3 rb t.length ht
  have b4 := x4.eq (by ac_rfl : _ = blkA b 25 [st t, .int .i64 rb.toNat, .int .i64 s] * (blkA kL 5 (bv [1, rb, UInt8.ofNat t.length]) * (rowA 5 1 (.slice AF 4 cF) 4 (bv (be4 s)) * (litA kA (bv reelB) * X))))
  have c40 : w4.cell? ⟨b, 0, none⟩ = some (st t) := b4.cell 0 rfl
  have c41 : w4.cell? ⟨b, 1, none⟩ = some (.int .i64 rb.toNat) := b4.cell 1 rfl
  have c42 : w4.cell? ⟨b, 2, none⟩ = some (.int .i64 s) := b4.cell 2 rfl
  obtain ⟨kT, cT, w5, k5, x5⟩ := stT x4 t
  have b5 := x5.eq (by ac_rfl : _ = blkA b 25 [st t, .int .i64 rb.toNat, .int .i64 s] * (preA kT (bv t) * (blkA kL 5 (bv [1, rb, UInt8.ofNat t.length]) * (rowA 5 1 (.slice AF 4 cF) 4 (bv (be4 s)) * (litA kA (bv reelB) * X)))))
  have c50 : w5.cell? ⟨b, 0, none⟩ = some (st t) := b5.cell 0 rfl
  have c51 : w5.cell? ⟨b, 1, none⟩ = some (.int .i64 rb.toNat) := b5.cell 1 rfl
  have c52 : w5.cell? ⟨b, 2, none⟩ = some (.int .i64 s) := b5.cell 2 rfl
  obtain ⟨k6, w6, v, w7, k6s, k7, x7, x6⟩ := label_sum (cT := cT) ht (x5.eq (by ac_rfl : _ = litA kA (bv reelB) * (blkA kL 5 (bv [1, rb, UInt8.ofNat t.length]) * (preA kT (bv t) * (rowA 5 1 (.slice AF 4 cF) 4 (bv (be4 s)) * (blkA b 25 [st t, .int .i64 rb.toNat, .int .i64 s] * X))))))
  have hR := hRt v w7 x7.drop2
  have c60 : w6.cell? ⟨b, 0, none⟩ = some (st t) := x6.cell 0 rfl
  have c61 : w6.cell? ⟨b, 1, none⟩ = some (.int .i64 rb.toNat) := x6.cell 1 rfl
  have c62 : w6.cell? ⟨b, 2, none⟩ = some (.int .i64 s) := x6.cell 2 rfl
  have c70 : w7.cell? ⟨b, 0, none⟩ = some (st t) := x7.swap.cell 0 rfl
  have c71 : w7.cell? ⟨b, 1, none⟩ = some (.int .i64 rb.toNat) := x7.swap.cell 1 rfl
  have c72 : w7.cell? ⟨b, 2, none⟩ = some (.int .i64 s) := x7.swap.cell 2 rfl
  have e1 := cv23 rb
  have e2 := cv3 ht
  have e3 := len9 3 ⟨t.toArray⟩
  rw [st_size] at e3
  obtain ⟨n, hn⟩ : ∃ n, n = t.length := ⟨_, rfl⟩
  rw [← hn] at e2 e3 k4 k5 k6s
  unfold f16.o4
  simp [addL, ← hw0, e1, e2, e3, c00, c01, c02, k1, c10, c11, c12, k2, c20, c21, c22, k3, c30, c31, c32, k4, c40, c41, c42, k5, c50, c51, c52, k6s, k7, c60, c61, c62, c70, c71, c72, chkThen, f16.k0, after, hR]
theorem f16_o5 {w : World} {t : List UInt8} {rb : UInt8} {s b : Nat} {Rt : List Value → World → Prop} (ht : t.length ≤ 100) (hs : s < 4294967296) (x : Sat W (blkA b 25 [st t, .int .i64 rb.toNat, .int .i64 s] * X) w) (hRt : ∀ v w', Sat W (rowA 5 1 v (t.length + 15) (bv (labelB t rb s)) * X) w' → Rt [v] w') : f16.o5 C Rt (.pointer (some ⟨b, 0, none⟩)) w := by
  have x0 := x.drew
  obtain ⟨w0, hw0⟩ : ∃ w0, w0 = w.drew := ⟨_, rfl⟩
  rw [← hw0] at x0
  have b0 := x0
  have c00 : w0.cell? ⟨b, 0, none⟩ = some (st t) := b0.cell 0 rfl
  have c01 : w0.cell? ⟨b, 1, none⟩ = some (.int .i64 rb.toNat) := b0.cell 1 rfl
  have c02 : w0.cell? ⟨b, 2, none⟩ = some (.int .i64 s) := b0.cell 2 rfl
  obtain ⟨kA, w1, k1, x1⟩ := stA x0
  have b1 := x1.eq (by ac_rfl : _ = blkA b 25 [st t, .int .i64 rb.toNat, .int .i64 s] * (blkA kA 5 (bv reelB) * X))
  have c10 : w1.cell? ⟨b, 0, none⟩ = some (st t) := b1.cell 0 rfl
  have c11 : w1.cell? ⟨b, 1, none⟩ = some (.int .i64 rb.toNat) := b1.cell 1 rfl
  have c12 : w1.cell? ⟨b, 2, none⟩ = some (.int .i64 s) := b1.cell 2 rfl
  obtain ⟨w2, k2, x2⟩ := stB x1
  have b2 := x2.eq (by ac_rfl : _ = blkA b 25 [st t, .int .i64 rb.toNat, .int .i64 s] * (litA kA (bv reelB) * X))
  have c20 : w2.cell? ⟨b, 0, none⟩ = some (st t) := b2.cell 0 rfl
  have c21 : w2.cell? ⟨b, 1, none⟩ = some (.int .i64 rb.toNat) := b2.cell 1 rfl
  have c22 : w2.cell? ⟨b, 2, none⟩ = some (.int .i64 s) := b2.cell 2 rfl
  obtain ⟨AF, cF, w3, k3, x3⟩ := stF x2 hs
  have b3 := x3.eq (by ac_rfl : _ = blkA b 25 [st t, .int .i64 rb.toNat, .int .i64 s] * (rowA 5 1 (.slice AF 4 cF) 4 (bv (be4 s)) * (litA kA (bv reelB) * X)))
  have c30 : w3.cell? ⟨b, 0, none⟩ = some (st t) := b3.cell 0 rfl
  have c31 : w3.cell? ⟨b, 1, none⟩ = some (.int .i64 rb.toNat) := b3.cell 1 rfl
  have c32 : w3.cell? ⟨b, 2, none⟩ = some (.int .i64 s) := b3.cell 2 rfl
  obtain ⟨kT, cT, w4, k4, x4⟩ := stT x3 t
  have b4 := x4.eq (by ac_rfl : _ = blkA b 25 [st t, .int .i64 rb.toNat, .int .i64 s] * (preA kT (bv t) * (rowA 5 1 (.slice AF 4 cF) 4 (bv (be4 s)) * (litA kA (bv reelB) * X))))
  have c40 : w4.cell? ⟨b, 0, none⟩ = some (st t) := b4.cell 0 rfl
  have c41 : w4.cell? ⟨b, 1, none⟩ = some (.int .i64 rb.toNat) := b4.cell 1 rfl
  have c42 : w4.cell? ⟨b, 2, none⟩ = some (.int .i64 s) := b4.cell 2 rfl
  obtain ⟨kL, w5, k5, x5⟩ := stL x4 rb t.length ht
  have b5 := x5.eq (by ac_rfl : _ = blkA b 25 [st t, .int .i64 rb.toNat, .int .i64 s] * (blkA kL 5 (bv [1, rb, UInt8.ofNat t.length]) * (preA kT (bv t) * (rowA 5 1 (.slice AF 4 cF) 4 (bv (be4 s)) * (litA kA (bv reelB) * X)))))
  have c50 : w5.cell? ⟨b, 0, none⟩ = some (st t) := b5.cell 0 rfl
  have c51 : w5.cell? ⟨b, 1, none⟩ = some (.int .i64 rb.toNat) := b5.cell 1 rfl
  have c52 : w5.cell? ⟨b, 2, none⟩ = some (.int .i64 s) := b5.cell 2 rfl
  obtain ⟨k6, w6, v, w7, k6s, k7, x7, x6⟩ := label_sum (cT := cT) ht (x5.eq (by ac_rfl : _ = litA kA (bv reelB) * (blkA kL 5 (bv [1, rb, UInt8.ofNat t.length]) * (preA kT (bv t) * (rowA 5 1 (.slice AF 4 cF) 4 (bv (be4 s)) * (blkA b 25 [st t, .int .i64 rb.toNat, .int .i64 s] * X))))))
  have hR := hRt v w7 x7.drop2
  have c60 : w6.cell? ⟨b, 0, none⟩ = some (st t) := x6.cell 0 rfl
  have c61 : w6.cell? ⟨b, 1, none⟩ = some (.int .i64 rb.toNat) := x6.cell 1 rfl
  have c62 : w6.cell? ⟨b, 2, none⟩ = some (.int .i64 s) := x6.cell 2 rfl
  have c70 : w7.cell? ⟨b, 0, none⟩ = some (st t) := x7.swap.cell 0 rfl
  have c71 : w7.cell? ⟨b, 1, none⟩ = some (.int .i64 rb.toNat) := x7.swap.cell 1 rfl
  have c72 : w7.cell? ⟨b, 2, none⟩ = some (.int .i64 s) := x7.swap.cell 2 rfl
  have e1 := cv23 rb
  have e2 := cv3 ht
  have e3 := len9 3 ⟨t.toArray⟩
  rw [st_size] at e3
  obtain ⟨n, hn⟩ : ∃ n, n = t.length := ⟨_, rfl⟩
  rw [← hn] at e2 e3 k5 k4 k6s
  unfold f16.o5
  simp [addL, ← hw0, e1, e2, e3, c00, c01, c02, k1, c10, c11, c12, k2, c20, c21, c22, k3, c30, c31, c32, k4, c40, c41, c42, k5, c50, c51, c52, k6s, k7, c60, c61, c62, c70, c71, c72, chkThen, f16.k0, after, hR]
theorem f16_o6 {w : World} {t : List UInt8} {rb : UInt8} {s b : Nat} {Rt : List Value → World → Prop} (ht : t.length ≤ 100) (hs : s < 4294967296) (x : Sat W (blkA b 25 [st t, .int .i64 rb.toNat, .int .i64 s] * X) w) (hRt : ∀ v w', Sat W (rowA 5 1 v (t.length + 15) (bv (labelB t rb s)) * X) w' → Rt [v] w') : f16.o6 C Rt (.pointer (some ⟨b, 0, none⟩)) w := by
  have x0 := x.drew
  obtain ⟨w0, hw0⟩ : ∃ w0, w0 = w.drew := ⟨_, rfl⟩
  rw [← hw0] at x0
  have b0 := x0
  have c00 : w0.cell? ⟨b, 0, none⟩ = some (st t) := b0.cell 0 rfl
  have c01 : w0.cell? ⟨b, 1, none⟩ = some (.int .i64 rb.toNat) := b0.cell 1 rfl
  have c02 : w0.cell? ⟨b, 2, none⟩ = some (.int .i64 s) := b0.cell 2 rfl
  obtain ⟨kA, w1, k1, x1⟩ := stA x0
  have b1 := x1.eq (by ac_rfl : _ = blkA b 25 [st t, .int .i64 rb.toNat, .int .i64 s] * (blkA kA 5 (bv reelB) * X))
  have c10 : w1.cell? ⟨b, 0, none⟩ = some (st t) := b1.cell 0 rfl
  have c11 : w1.cell? ⟨b, 1, none⟩ = some (.int .i64 rb.toNat) := b1.cell 1 rfl
  have c12 : w1.cell? ⟨b, 2, none⟩ = some (.int .i64 s) := b1.cell 2 rfl
  obtain ⟨kL, w2, k2, x2⟩ := stL x1 rb t.length ht
  have b2 := x2.eq (by ac_rfl : _ = blkA b 25 [st t, .int .i64 rb.toNat, .int .i64 s] * (blkA kL 5 (bv [1, rb, UInt8.ofNat t.length]) * (blkA kA 5 (bv reelB) * X)))
  have c20 : w2.cell? ⟨b, 0, none⟩ = some (st t) := b2.cell 0 rfl
  have c21 : w2.cell? ⟨b, 1, none⟩ = some (.int .i64 rb.toNat) := b2.cell 1 rfl
  have c22 : w2.cell? ⟨b, 2, none⟩ = some (.int .i64 s) := b2.cell 2 rfl
  obtain ⟨w3, k3, x3⟩ := stB (x2.eq (by ac_rfl : _ = blkA kA 5 (bv reelB) * (blkA kL 5 (bv [1, rb, UInt8.ofNat t.length]) * (blkA b 25 [st t, .int .i64 rb.toNat, .int .i64 s] * X))))
  have b3 := x3.eq (by ac_rfl : _ = blkA b 25 [st t, .int .i64 rb.toNat, .int .i64 s] * (litA kA (bv reelB) * (blkA kL 5 (bv [1, rb, UInt8.ofNat t.length]) * X)))
  have c30 : w3.cell? ⟨b, 0, none⟩ = some (st t) := b3.cell 0 rfl
  have c31 : w3.cell? ⟨b, 1, none⟩ = some (.int .i64 rb.toNat) := b3.cell 1 rfl
  have c32 : w3.cell? ⟨b, 2, none⟩ = some (.int .i64 s) := b3.cell 2 rfl
  obtain ⟨kT, cT, w4, k4, x4⟩ := stT x3 t
  have b4 := x4.eq (by ac_rfl : _ = blkA b 25 [st t, .int .i64 rb.toNat, .int .i64 s] * (preA kT (bv t) * (litA kA (bv reelB) * (blkA kL 5 (bv [1, rb, UInt8.ofNat t.length]) * X))))
  have c40 : w4.cell? ⟨b, 0, none⟩ = some (st t) := b4.cell 0 rfl
  have c41 : w4.cell? ⟨b, 1, none⟩ = some (.int .i64 rb.toNat) := b4.cell 1 rfl
  have c42 : w4.cell? ⟨b, 2, none⟩ = some (.int .i64 s) := b4.cell 2 rfl
  obtain ⟨AF, cF, w5, k5, x5⟩ := stF x4 hs
  have b5 := x5.eq (by ac_rfl : _ = blkA b 25 [st t, .int .i64 rb.toNat, .int .i64 s] * (rowA 5 1 (.slice AF 4 cF) 4 (bv (be4 s)) * (preA kT (bv t) * (litA kA (bv reelB) * (blkA kL 5 (bv [1, rb, UInt8.ofNat t.length]) * X)))))
  have c50 : w5.cell? ⟨b, 0, none⟩ = some (st t) := b5.cell 0 rfl
  have c51 : w5.cell? ⟨b, 1, none⟩ = some (.int .i64 rb.toNat) := b5.cell 1 rfl
  have c52 : w5.cell? ⟨b, 2, none⟩ = some (.int .i64 s) := b5.cell 2 rfl
  obtain ⟨k6, w6, v, w7, k6s, k7, x7, x6⟩ := label_sum (cT := cT) ht (x5.eq (by ac_rfl : _ = litA kA (bv reelB) * (blkA kL 5 (bv [1, rb, UInt8.ofNat t.length]) * (preA kT (bv t) * (rowA 5 1 (.slice AF 4 cF) 4 (bv (be4 s)) * (blkA b 25 [st t, .int .i64 rb.toNat, .int .i64 s] * X))))))
  have hR := hRt v w7 x7.drop2
  have c60 : w6.cell? ⟨b, 0, none⟩ = some (st t) := x6.cell 0 rfl
  have c61 : w6.cell? ⟨b, 1, none⟩ = some (.int .i64 rb.toNat) := x6.cell 1 rfl
  have c62 : w6.cell? ⟨b, 2, none⟩ = some (.int .i64 s) := x6.cell 2 rfl
  have c70 : w7.cell? ⟨b, 0, none⟩ = some (st t) := x7.swap.cell 0 rfl
  have c71 : w7.cell? ⟨b, 1, none⟩ = some (.int .i64 rb.toNat) := x7.swap.cell 1 rfl
  have c72 : w7.cell? ⟨b, 2, none⟩ = some (.int .i64 s) := x7.swap.cell 2 rfl
  have e1 := cv23 rb
  have e2 := cv3 ht
  have e3 := len9 3 ⟨t.toArray⟩
  rw [st_size] at e3
  obtain ⟨n, hn⟩ : ∃ n, n = t.length := ⟨_, rfl⟩
  rw [← hn] at e2 e3 k2 k4 k6s
  unfold f16.o6
  simp [addL, ← hw0, e1, e2, e3, c00, c01, c02, k1, c10, c11, c12, k2, c20, c21, c22, k3, c30, c31, c32, k4, c40, c41, c42, k5, c50, c51, c52, k6s, k7, c60, c61, c62, c70, c71, c72, chkThen, f16.k0, after, hR]
theorem f16_o7 {w : World} {t : List UInt8} {rb : UInt8} {s b : Nat} {Rt : List Value → World → Prop} (ht : t.length ≤ 100) (hs : s < 4294967296) (x : Sat W (blkA b 25 [st t, .int .i64 rb.toNat, .int .i64 s] * X) w) (hRt : ∀ v w', Sat W (rowA 5 1 v (t.length + 15) (bv (labelB t rb s)) * X) w' → Rt [v] w') : f16.o7 C Rt (.pointer (some ⟨b, 0, none⟩)) w := by
  have x0 := x.drew
  obtain ⟨w0, hw0⟩ : ∃ w0, w0 = w.drew := ⟨_, rfl⟩
  rw [← hw0] at x0
  have b0 := x0
  have c00 : w0.cell? ⟨b, 0, none⟩ = some (st t) := b0.cell 0 rfl
  have c01 : w0.cell? ⟨b, 1, none⟩ = some (.int .i64 rb.toNat) := b0.cell 1 rfl
  have c02 : w0.cell? ⟨b, 2, none⟩ = some (.int .i64 s) := b0.cell 2 rfl
  obtain ⟨kA, w1, k1, x1⟩ := stA x0
  have b1 := x1.eq (by ac_rfl : _ = blkA b 25 [st t, .int .i64 rb.toNat, .int .i64 s] * (blkA kA 5 (bv reelB) * X))
  have c10 : w1.cell? ⟨b, 0, none⟩ = some (st t) := b1.cell 0 rfl
  have c11 : w1.cell? ⟨b, 1, none⟩ = some (.int .i64 rb.toNat) := b1.cell 1 rfl
  have c12 : w1.cell? ⟨b, 2, none⟩ = some (.int .i64 s) := b1.cell 2 rfl
  obtain ⟨kL, w2, k2, x2⟩ := stL x1 rb t.length ht
  have b2 := x2.eq (by ac_rfl : _ = blkA b 25 [st t, .int .i64 rb.toNat, .int .i64 s] * (blkA kL 5 (bv [1, rb, UInt8.ofNat t.length]) * (blkA kA 5 (bv reelB) * X)))
  have c20 : w2.cell? ⟨b, 0, none⟩ = some (st t) := b2.cell 0 rfl
  have c21 : w2.cell? ⟨b, 1, none⟩ = some (.int .i64 rb.toNat) := b2.cell 1 rfl
  have c22 : w2.cell? ⟨b, 2, none⟩ = some (.int .i64 s) := b2.cell 2 rfl
  obtain ⟨w3, k3, x3⟩ := stB (x2.eq (by ac_rfl : _ = blkA kA 5 (bv reelB) * (blkA kL 5 (bv [1, rb, UInt8.ofNat t.length]) * (blkA b 25 [st t, .int .i64 rb.toNat, .int .i64 s] * X))))
  have b3 := x3.eq (by ac_rfl : _ = blkA b 25 [st t, .int .i64 rb.toNat, .int .i64 s] * (litA kA (bv reelB) * (blkA kL 5 (bv [1, rb, UInt8.ofNat t.length]) * X)))
  have c30 : w3.cell? ⟨b, 0, none⟩ = some (st t) := b3.cell 0 rfl
  have c31 : w3.cell? ⟨b, 1, none⟩ = some (.int .i64 rb.toNat) := b3.cell 1 rfl
  have c32 : w3.cell? ⟨b, 2, none⟩ = some (.int .i64 s) := b3.cell 2 rfl
  obtain ⟨AF, cF, w4, k4, x4⟩ := stF x3 hs
  have b4 := x4.eq (by ac_rfl : _ = blkA b 25 [st t, .int .i64 rb.toNat, .int .i64 s] * (rowA 5 1 (.slice AF 4 cF) 4 (bv (be4 s)) * (litA kA (bv reelB) * (blkA kL 5 (bv [1, rb, UInt8.ofNat t.length]) * X))))
  have c40 : w4.cell? ⟨b, 0, none⟩ = some (st t) := b4.cell 0 rfl
  have c41 : w4.cell? ⟨b, 1, none⟩ = some (.int .i64 rb.toNat) := b4.cell 1 rfl
  have c42 : w4.cell? ⟨b, 2, none⟩ = some (.int .i64 s) := b4.cell 2 rfl
  obtain ⟨kT, cT, w5, k5, x5⟩ := stT x4 t
  have b5 := x5.eq (by ac_rfl : _ = blkA b 25 [st t, .int .i64 rb.toNat, .int .i64 s] * (preA kT (bv t) * (rowA 5 1 (.slice AF 4 cF) 4 (bv (be4 s)) * (litA kA (bv reelB) * (blkA kL 5 (bv [1, rb, UInt8.ofNat t.length]) * X)))))
  have c50 : w5.cell? ⟨b, 0, none⟩ = some (st t) := b5.cell 0 rfl
  have c51 : w5.cell? ⟨b, 1, none⟩ = some (.int .i64 rb.toNat) := b5.cell 1 rfl
  have c52 : w5.cell? ⟨b, 2, none⟩ = some (.int .i64 s) := b5.cell 2 rfl
  obtain ⟨k6, w6, v, w7, k6s, k7, x7, x6⟩ := label_sum (cT := cT) ht (x5.eq (by ac_rfl : _ = litA kA (bv reelB) * (blkA kL 5 (bv [1, rb, UInt8.ofNat t.length]) * (preA kT (bv t) * (rowA 5 1 (.slice AF 4 cF) 4 (bv (be4 s)) * (blkA b 25 [st t, .int .i64 rb.toNat, .int .i64 s] * X))))))
  have hR := hRt v w7 x7.drop2
  have c60 : w6.cell? ⟨b, 0, none⟩ = some (st t) := x6.cell 0 rfl
  have c61 : w6.cell? ⟨b, 1, none⟩ = some (.int .i64 rb.toNat) := x6.cell 1 rfl
  have c62 : w6.cell? ⟨b, 2, none⟩ = some (.int .i64 s) := x6.cell 2 rfl
  have c70 : w7.cell? ⟨b, 0, none⟩ = some (st t) := x7.swap.cell 0 rfl
  have c71 : w7.cell? ⟨b, 1, none⟩ = some (.int .i64 rb.toNat) := x7.swap.cell 1 rfl
  have c72 : w7.cell? ⟨b, 2, none⟩ = some (.int .i64 s) := x7.swap.cell 2 rfl
  have e1 := cv23 rb
  have e2 := cv3 ht
  have e3 := len9 3 ⟨t.toArray⟩
  rw [st_size] at e3
  obtain ⟨n, hn⟩ : ∃ n, n = t.length := ⟨_, rfl⟩
  rw [← hn] at e2 e3 k2 k5 k6s
  unfold f16.o7
  simp [addL, ← hw0, e1, e2, e3, c00, c01, c02, k1, c10, c11, c12, k2, c20, c21, c22, k3, c30, c31, c32, k4, c40, c41, c42, k5, c50, c51, c52, k6s, k7, c60, c61, c62, c70, c71, c72, chkThen, f16.k0, after, hR]
theorem f16_o8 {w : World} {t : List UInt8} {rb : UInt8} {s b : Nat} {Rt : List Value → World → Prop} (ht : t.length ≤ 100) (hs : s < 4294967296) (x : Sat W (blkA b 25 [st t, .int .i64 rb.toNat, .int .i64 s] * X) w) (hRt : ∀ v w', Sat W (rowA 5 1 v (t.length + 15) (bv (labelB t rb s)) * X) w' → Rt [v] w') : f16.o8 C Rt (.pointer (some ⟨b, 0, none⟩)) w := by
  have x0 := x.drew
  obtain ⟨w0, hw0⟩ : ∃ w0, w0 = w.drew := ⟨_, rfl⟩
  rw [← hw0] at x0
  have b0 := x0
  have c00 : w0.cell? ⟨b, 0, none⟩ = some (st t) := b0.cell 0 rfl
  have c01 : w0.cell? ⟨b, 1, none⟩ = some (.int .i64 rb.toNat) := b0.cell 1 rfl
  have c02 : w0.cell? ⟨b, 2, none⟩ = some (.int .i64 s) := b0.cell 2 rfl
  obtain ⟨kA, w1, k1, x1⟩ := stA x0
  have b1 := x1.eq (by ac_rfl : _ = blkA b 25 [st t, .int .i64 rb.toNat, .int .i64 s] * (blkA kA 5 (bv reelB) * X))
  have c10 : w1.cell? ⟨b, 0, none⟩ = some (st t) := b1.cell 0 rfl
  have c11 : w1.cell? ⟨b, 1, none⟩ = some (.int .i64 rb.toNat) := b1.cell 1 rfl
  have c12 : w1.cell? ⟨b, 2, none⟩ = some (.int .i64 s) := b1.cell 2 rfl
  obtain ⟨kL, w2, k2, x2⟩ := stL x1 rb t.length ht
  have b2 := x2.eq (by ac_rfl : _ = blkA b 25 [st t, .int .i64 rb.toNat, .int .i64 s] * (blkA kL 5 (bv [1, rb, UInt8.ofNat t.length]) * (blkA kA 5 (bv reelB) * X)))
  have c20 : w2.cell? ⟨b, 0, none⟩ = some (st t) := b2.cell 0 rfl
  have c21 : w2.cell? ⟨b, 1, none⟩ = some (.int .i64 rb.toNat) := b2.cell 1 rfl
  have c22 : w2.cell? ⟨b, 2, none⟩ = some (.int .i64 s) := b2.cell 2 rfl
  obtain ⟨kT, cT, w3, k3, x3⟩ := stT x2 t
  have b3 := x3.eq (by ac_rfl : _ = blkA b 25 [st t, .int .i64 rb.toNat, .int .i64 s] * (preA kT (bv t) * (blkA kL 5 (bv [1, rb, UInt8.ofNat t.length]) * (blkA kA 5 (bv reelB) * X))))
  have c30 : w3.cell? ⟨b, 0, none⟩ = some (st t) := b3.cell 0 rfl
  have c31 : w3.cell? ⟨b, 1, none⟩ = some (.int .i64 rb.toNat) := b3.cell 1 rfl
  have c32 : w3.cell? ⟨b, 2, none⟩ = some (.int .i64 s) := b3.cell 2 rfl
  obtain ⟨w4, k4, x4⟩ := stB (x3.eq (by ac_rfl : _ = blkA kA 5 (bv reelB) * (preA kT (bv t) * (blkA kL 5 (bv [1, rb, UInt8.ofNat t.length]) * (blkA b 25 [st t, .int .i64 rb.toNat, .int .i64 s] * X)))))
  have b4 := x4.eq (by ac_rfl : _ = blkA b 25 [st t, .int .i64 rb.toNat, .int .i64 s] * (litA kA (bv reelB) * (preA kT (bv t) * (blkA kL 5 (bv [1, rb, UInt8.ofNat t.length]) * X))))
  have c40 : w4.cell? ⟨b, 0, none⟩ = some (st t) := b4.cell 0 rfl
  have c41 : w4.cell? ⟨b, 1, none⟩ = some (.int .i64 rb.toNat) := b4.cell 1 rfl
  have c42 : w4.cell? ⟨b, 2, none⟩ = some (.int .i64 s) := b4.cell 2 rfl
  obtain ⟨AF, cF, w5, k5, x5⟩ := stF x4 hs
  have b5 := x5.eq (by ac_rfl : _ = blkA b 25 [st t, .int .i64 rb.toNat, .int .i64 s] * (rowA 5 1 (.slice AF 4 cF) 4 (bv (be4 s)) * (litA kA (bv reelB) * (preA kT (bv t) * (blkA kL 5 (bv [1, rb, UInt8.ofNat t.length]) * X)))))
  have c50 : w5.cell? ⟨b, 0, none⟩ = some (st t) := b5.cell 0 rfl
  have c51 : w5.cell? ⟨b, 1, none⟩ = some (.int .i64 rb.toNat) := b5.cell 1 rfl
  have c52 : w5.cell? ⟨b, 2, none⟩ = some (.int .i64 s) := b5.cell 2 rfl
  obtain ⟨k6, w6, v, w7, k6s, k7, x7, x6⟩ := label_sum (cT := cT) ht (x5.eq (by ac_rfl : _ = litA kA (bv reelB) * (blkA kL 5 (bv [1, rb, UInt8.ofNat t.length]) * (preA kT (bv t) * (rowA 5 1 (.slice AF 4 cF) 4 (bv (be4 s)) * (blkA b 25 [st t, .int .i64 rb.toNat, .int .i64 s] * X))))))
  have hR := hRt v w7 x7.drop2
  have c60 : w6.cell? ⟨b, 0, none⟩ = some (st t) := x6.cell 0 rfl
  have c61 : w6.cell? ⟨b, 1, none⟩ = some (.int .i64 rb.toNat) := x6.cell 1 rfl
  have c62 : w6.cell? ⟨b, 2, none⟩ = some (.int .i64 s) := x6.cell 2 rfl
  have c70 : w7.cell? ⟨b, 0, none⟩ = some (st t) := x7.swap.cell 0 rfl
  have c71 : w7.cell? ⟨b, 1, none⟩ = some (.int .i64 rb.toNat) := x7.swap.cell 1 rfl
  have c72 : w7.cell? ⟨b, 2, none⟩ = some (.int .i64 s) := x7.swap.cell 2 rfl
  have e1 := cv23 rb
  have e2 := cv3 ht
  have e3 := len9 3 ⟨t.toArray⟩
  rw [st_size] at e3
  obtain ⟨n, hn⟩ : ∃ n, n = t.length := ⟨_, rfl⟩
  rw [← hn] at e2 e3 k2 k3 k6s
  unfold f16.o8
  simp [addL, ← hw0, e1, e2, e3, c00, c01, c02, k1, c10, c11, c12, k2, c20, c21, c22, k3, c30, c31, c32, k4, c40, c41, c42, k5, c50, c51, c52, k6s, k7, c60, c61, c62, c70, c71, c72, chkThen, f16.k0, after, hR]
theorem f16_o9 {w : World} {t : List UInt8} {rb : UInt8} {s b : Nat} {Rt : List Value → World → Prop} (ht : t.length ≤ 100) (hs : s < 4294967296) (x : Sat W (blkA b 25 [st t, .int .i64 rb.toNat, .int .i64 s] * X) w) (hRt : ∀ v w', Sat W (rowA 5 1 v (t.length + 15) (bv (labelB t rb s)) * X) w' → Rt [v] w') : f16.o9 C Rt (.pointer (some ⟨b, 0, none⟩)) w := by
  have x0 := x.drew
  obtain ⟨w0, hw0⟩ : ∃ w0, w0 = w.drew := ⟨_, rfl⟩
  rw [← hw0] at x0
  have b0 := x0
  have c00 : w0.cell? ⟨b, 0, none⟩ = some (st t) := b0.cell 0 rfl
  have c01 : w0.cell? ⟨b, 1, none⟩ = some (.int .i64 rb.toNat) := b0.cell 1 rfl
  have c02 : w0.cell? ⟨b, 2, none⟩ = some (.int .i64 s) := b0.cell 2 rfl
  obtain ⟨kA, w1, k1, x1⟩ := stA x0
  have b1 := x1.eq (by ac_rfl : _ = blkA b 25 [st t, .int .i64 rb.toNat, .int .i64 s] * (blkA kA 5 (bv reelB) * X))
  have c10 : w1.cell? ⟨b, 0, none⟩ = some (st t) := b1.cell 0 rfl
  have c11 : w1.cell? ⟨b, 1, none⟩ = some (.int .i64 rb.toNat) := b1.cell 1 rfl
  have c12 : w1.cell? ⟨b, 2, none⟩ = some (.int .i64 s) := b1.cell 2 rfl
  obtain ⟨kL, w2, k2, x2⟩ := stL x1 rb t.length ht
  have b2 := x2.eq (by ac_rfl : _ = blkA b 25 [st t, .int .i64 rb.toNat, .int .i64 s] * (blkA kL 5 (bv [1, rb, UInt8.ofNat t.length]) * (blkA kA 5 (bv reelB) * X)))
  have c20 : w2.cell? ⟨b, 0, none⟩ = some (st t) := b2.cell 0 rfl
  have c21 : w2.cell? ⟨b, 1, none⟩ = some (.int .i64 rb.toNat) := b2.cell 1 rfl
  have c22 : w2.cell? ⟨b, 2, none⟩ = some (.int .i64 s) := b2.cell 2 rfl
  obtain ⟨kT, cT, w3, k3, x3⟩ := stT x2 t
  have b3 := x3.eq (by ac_rfl : _ = blkA b 25 [st t, .int .i64 rb.toNat, .int .i64 s] * (preA kT (bv t) * (blkA kL 5 (bv [1, rb, UInt8.ofNat t.length]) * (blkA kA 5 (bv reelB) * X))))
  have c30 : w3.cell? ⟨b, 0, none⟩ = some (st t) := b3.cell 0 rfl
  have c31 : w3.cell? ⟨b, 1, none⟩ = some (.int .i64 rb.toNat) := b3.cell 1 rfl
  have c32 : w3.cell? ⟨b, 2, none⟩ = some (.int .i64 s) := b3.cell 2 rfl
  obtain ⟨AF, cF, w4, k4, x4⟩ := stF x3 hs
  have b4 := x4.eq (by ac_rfl : _ = blkA b 25 [st t, .int .i64 rb.toNat, .int .i64 s] * (rowA 5 1 (.slice AF 4 cF) 4 (bv (be4 s)) * (preA kT (bv t) * (blkA kL 5 (bv [1, rb, UInt8.ofNat t.length]) * (blkA kA 5 (bv reelB) * X)))))
  have c40 : w4.cell? ⟨b, 0, none⟩ = some (st t) := b4.cell 0 rfl
  have c41 : w4.cell? ⟨b, 1, none⟩ = some (.int .i64 rb.toNat) := b4.cell 1 rfl
  have c42 : w4.cell? ⟨b, 2, none⟩ = some (.int .i64 s) := b4.cell 2 rfl
  obtain ⟨w5, k5, x5⟩ := stB (x4.eq (by ac_rfl : _ = blkA kA 5 (bv reelB) * (rowA 5 1 (.slice AF 4 cF) 4 (bv (be4 s)) * (preA kT (bv t) * (blkA kL 5 (bv [1, rb, UInt8.ofNat t.length]) * (blkA b 25 [st t, .int .i64 rb.toNat, .int .i64 s] * X))))))
  have b5 := x5.eq (by ac_rfl : _ = blkA b 25 [st t, .int .i64 rb.toNat, .int .i64 s] * (litA kA (bv reelB) * (rowA 5 1 (.slice AF 4 cF) 4 (bv (be4 s)) * (preA kT (bv t) * (blkA kL 5 (bv [1, rb, UInt8.ofNat t.length]) * X)))))
  have c50 : w5.cell? ⟨b, 0, none⟩ = some (st t) := b5.cell 0 rfl
  have c51 : w5.cell? ⟨b, 1, none⟩ = some (.int .i64 rb.toNat) := b5.cell 1 rfl
  have c52 : w5.cell? ⟨b, 2, none⟩ = some (.int .i64 s) := b5.cell 2 rfl
  obtain ⟨k6, w6, v, w7, k6s, k7, x7, x6⟩ := label_sum (cT := cT) ht (x5.eq (by ac_rfl : _ = litA kA (bv reelB) * (blkA kL 5 (bv [1, rb, UInt8.ofNat t.length]) * (preA kT (bv t) * (rowA 5 1 (.slice AF 4 cF) 4 (bv (be4 s)) * (blkA b 25 [st t, .int .i64 rb.toNat, .int .i64 s] * X))))))
  have hR := hRt v w7 x7.drop2
  have c60 : w6.cell? ⟨b, 0, none⟩ = some (st t) := x6.cell 0 rfl
  have c61 : w6.cell? ⟨b, 1, none⟩ = some (.int .i64 rb.toNat) := x6.cell 1 rfl
  have c62 : w6.cell? ⟨b, 2, none⟩ = some (.int .i64 s) := x6.cell 2 rfl
  have c70 : w7.cell? ⟨b, 0, none⟩ = some (st t) := x7.swap.cell 0 rfl
  have c71 : w7.cell? ⟨b, 1, none⟩ = some (.int .i64 rb.toNat) := x7.swap.cell 1 rfl
  have c72 : w7.cell? ⟨b, 2, none⟩ = some (.int .i64 s) := x7.swap.cell 2 rfl
  have e1 := cv23 rb
  have e2 := cv3 ht
  have e3 := len9 3 ⟨t.toArray⟩
  rw [st_size] at e3
  obtain ⟨n, hn⟩ : ∃ n, n = t.length := ⟨_, rfl⟩
  rw [← hn] at e2 e3 k2 k3 k6s
  unfold f16.o9
  simp [addL, ← hw0, e1, e2, e3, c00, c01, c02, k1, c10, c11, c12, k2, c20, c21, c22, k3, c30, c31, c32, k4, c40, c41, c42, k5, c50, c51, c52, k6s, k7, c60, c61, c62, c70, c71, c72, chkThen, f16.k0, after, hR]
end
end Go.Sh.YtodkllcibbidoaaDoor

namespace Go.Sh.YtodkllcibbidoaaDoor
open Go Go.Proofs Go.RowKit Go.Lib
set_option linter.unusedVariables false
set_option linter.unusedSimpArgs false
set_option maxRecDepth 100000
section
variable {W : World} {X : Asn W.heap.size}
theorem f16_o10 {w : World} {t : List UInt8} {rb : UInt8} {s b : Nat} {Rt : List Value → World → Prop} (ht : t.length ≤ 100) (hs : s < 4294967296) (x : Sat W (blkA b 25 [st t, .int .i64 rb.toNat, .int .i64 s] * X) w) (hRt : ∀ v w', Sat W (rowA 5 1 v (t.length + 15) (bv (labelB t rb s)) * X) w' → Rt [v] w') : f16.o10 C Rt (.pointer (some ⟨b, 0, none⟩)) w := by
  have x0 := x.drew
  obtain ⟨w0, hw0⟩ : ∃ w0, w0 = w.drew := ⟨_, rfl⟩
  rw [← hw0] at x0
  have b0 := x0
  have c00 : w0.cell? ⟨b, 0, none⟩ = some (st t) := b0.cell 0 rfl
  have c01 : w0.cell? ⟨b, 1, none⟩ = some (.int .i64 rb.toNat) := b0.cell 1 rfl
  have c02 : w0.cell? ⟨b, 2, none⟩ = some (.int .i64 s) := b0.cell 2 rfl
  obtain ⟨kA, w1, k1, x1⟩ := stA x0
  have b1 := x1.eq (by ac_rfl : _ = blkA b 25 [st t, .int .i64 rb.toNat, .int .i64 s] * (blkA kA 5 (bv reelB) * X))
  have c10 : w1.cell? ⟨b, 0, none⟩ = some (st t) := b1.cell 0 rfl
  have c11 : w1.cell? ⟨b, 1, none⟩ = some (.int .i64 rb.toNat) := b1.cell 1 rfl
  have c12 : w1.cell? ⟨b, 2, none⟩ = some (.int .i64 s) := b1.cell 2 rfl
  obtain ⟨kL, w2, k2, x2⟩ := stL x1 rb t.length ht
  have b2 := x2.eq (by ac_rfl : _ = blkA b 25 [st t, .int .i64 rb.toNat, .int .i64 s] * (blkA kL 5 (bv [1, rb, UInt8.ofNat t.length]) * (blkA kA 5 (bv reelB) * X)))
  have c20 : w2.cell? ⟨b, 0, none⟩ = some (st t) := b2.cell 0 rfl
  have c21 : w2.cell? ⟨b, 1, none⟩ = some (.int .i64 rb.toNat) := b2.cell 1 rfl
  have c22 : w2.cell? ⟨b, 2, none⟩ = some (.int .i64 s) := b2.cell 2 rfl
  obtain ⟨AF, cF, w3, k3, x3⟩ := stF x2 hs
  have b3 := x3.eq (by ac_rfl : _ = blkA b 25 [st t, .int .i64 rb.toNat, .int .i64 s] * (rowA 5 1 (.slice AF 4 cF) 4 (bv (be4 s)) * (blkA kL 5 (bv [1, rb, UInt8.ofNat t.length]) * (blkA kA 5 (bv reelB) * X))))
  have c30 : w3.cell? ⟨b, 0, none⟩ = some (st t) := b3.cell 0 rfl
  have c31 : w3.cell? ⟨b, 1, none⟩ = some (.int .i64 rb.toNat) := b3.cell 1 rfl
  have c32 : w3.cell? ⟨b, 2, none⟩ = some (.int .i64 s) := b3.cell 2 rfl
  obtain ⟨w4, k4, x4⟩ := stB (x3.eq (by ac_rfl : _ = blkA kA 5 (bv reelB) * (rowA 5 1 (.slice AF 4 cF) 4 (bv (be4 s)) * (blkA kL 5 (bv [1, rb, UInt8.ofNat t.length]) * (blkA b 25 [st t, .int .i64 rb.toNat, .int .i64 s] * X)))))
  have b4 := x4.eq (by ac_rfl : _ = blkA b 25 [st t, .int .i64 rb.toNat, .int .i64 s] * (litA kA (bv reelB) * (rowA 5 1 (.slice AF 4 cF) 4 (bv (be4 s)) * (blkA kL 5 (bv [1, rb, UInt8.ofNat t.length]) * X))))
  have c40 : w4.cell? ⟨b, 0, none⟩ = some (st t) := b4.cell 0 rfl
  have c41 : w4.cell? ⟨b, 1, none⟩ = some (.int .i64 rb.toNat) := b4.cell 1 rfl
  have c42 : w4.cell? ⟨b, 2, none⟩ = some (.int .i64 s) := b4.cell 2 rfl
  obtain ⟨kT, cT, w5, k5, x5⟩ := stT x4 t
  have b5 := x5.eq (by ac_rfl : _ = blkA b 25 [st t, .int .i64 rb.toNat, .int .i64 s] * (preA kT (bv t) * (litA kA (bv reelB) * (rowA 5 1 (.slice AF 4 cF) 4 (bv (be4 s)) * (blkA kL 5 (bv [1, rb, UInt8.ofNat t.length]) * X)))))
  have c50 : w5.cell? ⟨b, 0, none⟩ = some (st t) := b5.cell 0 rfl
  have c51 : w5.cell? ⟨b, 1, none⟩ = some (.int .i64 rb.toNat) := b5.cell 1 rfl
  have c52 : w5.cell? ⟨b, 2, none⟩ = some (.int .i64 s) := b5.cell 2 rfl
  obtain ⟨k6, w6, v, w7, k6s, k7, x7, x6⟩ := label_sum (cT := cT) ht (x5.eq (by ac_rfl : _ = litA kA (bv reelB) * (blkA kL 5 (bv [1, rb, UInt8.ofNat t.length]) * (preA kT (bv t) * (rowA 5 1 (.slice AF 4 cF) 4 (bv (be4 s)) * (blkA b 25 [st t, .int .i64 rb.toNat, .int .i64 s] * X))))))
  have hR := hRt v w7 x7.drop2
  have c60 : w6.cell? ⟨b, 0, none⟩ = some (st t) := x6.cell 0 rfl
  have c61 : w6.cell? ⟨b, 1, none⟩ = some (.int .i64 rb.toNat) := x6.cell 1 rfl
  have c62 : w6.cell? ⟨b, 2, none⟩ = some (.int .i64 s) := x6.cell 2 rfl
  have c70 : w7.cell? ⟨b, 0, none⟩ = some (st t) := x7.swap.cell 0 rfl
  have c71 : w7.cell? ⟨b, 1, none⟩ = some (.int .i64 rb.toNat) := x7.swap.cell 1 rfl
  have c72 : w7.cell? ⟨b, 2, none⟩ = some (.int .i64 s) := x7.swap.cell 2 rfl
  have e1 := cv23 rb
  have e2 := cv3 ht
  have e3 := len9 3 ⟨t.toArray⟩
  rw [st_size] at e3
  obtain ⟨n, hn⟩ : ∃ n, n = t.length := ⟨_, rfl⟩
  rw [← hn] at e2 e3 k2 k5 k6s
  unfold f16.o10
  simp [addL, ← hw0, e1, e2, e3, c00, c01, c02, k1, c10, c11, c12, k2, c20, c21, c22, k3, c30, c31, c32, k4, c40, c41, c42, k5, c50, c51, c52, k6s, k7, c60, c61, c62, c70, c71, c72, chkThen, f16.k0, after, hR]
theorem f16_o11 {w : World} {t : List UInt8} {rb : UInt8} {s b : Nat} {Rt : List Value → World → Prop} (ht : t.length ≤ 100) (hs : s < 4294967296) (x : Sat W (blkA b 25 [st t, .int .i64 rb.toNat, .int .i64 s] * X) w) (hRt : ∀ v w', Sat W (rowA 5 1 v (t.length + 15) (bv (labelB t rb s)) * X) w' → Rt [v] w') : f16.o11 C Rt (.pointer (some ⟨b, 0, none⟩)) w := by
  have x0 := x.drew
  obtain ⟨w0, hw0⟩ : ∃ w0, w0 = w.drew := ⟨_, rfl⟩
  rw [← hw0] at x0
  have b0 := x0
  have c00 : w0.cell? ⟨b, 0, none⟩ = some (st t) := b0.cell 0 rfl
  have c01 : w0.cell? ⟨b, 1, none⟩ = some (.int .i64 rb.toNat) := b0.cell 1 rfl
  have c02 : w0.cell? ⟨b, 2, none⟩ = some (.int .i64 s) := b0.cell 2 rfl
  obtain ⟨kA, w1, k1, x1⟩ := stA x0
  have b1 := x1.eq (by ac_rfl : _ = blkA b 25 [st t, .int .i64 rb.toNat, .int .i64 s] * (blkA kA 5 (bv reelB) * X))
  have c10 : w1.cell? ⟨b, 0, none⟩ = some (st t) := b1.cell 0 rfl
  have c11 : w1.cell? ⟨b, 1, none⟩ = some (.int .i64 rb.toNat) := b1.cell 1 rfl
  have c12 : w1.cell? ⟨b, 2, none⟩ = some (.int .i64 s) := b1.cell 2 rfl
  obtain ⟨kL, w2, k2, x2⟩ := stL x1 rb t.length ht
  have b2 := x2.eq (by ac_rfl : _ = blkA b 25 [st t, .int .i64 rb.toNat, .int .i64 s] * (blkA kL 5 (bv [1, rb, UInt8.ofNat t.length]) * (blkA kA 5 (bv reelB) * X)))
  have c20 : w2.cell? ⟨b, 0, none⟩ = some (st t) := b2.cell 0 rfl
  have c21 : w2.cell? ⟨b, 1, none⟩ = some (.int .i64 rb.toNat) := b2.cell 1 rfl
  have c22 : w2.cell? ⟨b, 2, none⟩ = some (.int .i64 s) := b2.cell 2 rfl
  obtain ⟨AF, cF, w3, k3, x3⟩ := stF x2 hs
  have b3 := x3.eq (by ac_rfl : _ = blkA b 25 [st t, .int .i64 rb.toNat, .int .i64 s] * (rowA 5 1 (.slice AF 4 cF) 4 (bv (be4 s)) * (blkA kL 5 (bv [1, rb, UInt8.ofNat t.length]) * (blkA kA 5 (bv reelB) * X))))
  have c30 : w3.cell? ⟨b, 0, none⟩ = some (st t) := b3.cell 0 rfl
  have c31 : w3.cell? ⟨b, 1, none⟩ = some (.int .i64 rb.toNat) := b3.cell 1 rfl
  have c32 : w3.cell? ⟨b, 2, none⟩ = some (.int .i64 s) := b3.cell 2 rfl
  obtain ⟨kT, cT, w4, k4, x4⟩ := stT x3 t
  have b4 := x4.eq (by ac_rfl : _ = blkA b 25 [st t, .int .i64 rb.toNat, .int .i64 s] * (preA kT (bv t) * (rowA 5 1 (.slice AF 4 cF) 4 (bv (be4 s)) * (blkA kL 5 (bv [1, rb, UInt8.ofNat t.length]) * (blkA kA 5 (bv reelB) * X)))))
  have c40 : w4.cell? ⟨b, 0, none⟩ = some (st t) := b4.cell 0 rfl
  have c41 : w4.cell? ⟨b, 1, none⟩ = some (.int .i64 rb.toNat) := b4.cell 1 rfl
  have c42 : w4.cell? ⟨b, 2, none⟩ = some (.int .i64 s) := b4.cell 2 rfl
  obtain ⟨w5, k5, x5⟩ := stB (x4.eq (by ac_rfl : _ = blkA kA 5 (bv reelB) * (preA kT (bv t) * (rowA 5 1 (.slice AF 4 cF) 4 (bv (be4 s)) * (blkA kL 5 (bv [1, rb, UInt8.ofNat t.length]) * (blkA b 25 [st t, .int .i64 rb.toNat, .int .i64 s] * X))))))
  have b5 := x5.eq (by ac_rfl : _ = blkA b 25 [st t, .int .i64 rb.toNat, .int .i64 s] * (litA kA (bv reelB) * (preA kT (bv t) * (rowA 5 1 (.slice AF 4 cF) 4 (bv (be4 s)) * (blkA kL 5 (bv [1, rb, UInt8.ofNat t.length]) * X)))))
  have c50 : w5.cell? ⟨b, 0, none⟩ = some (st t) := b5.cell 0 rfl
  have c51 : w5.cell? ⟨b, 1, none⟩ = some (.int .i64 rb.toNat) := b5.cell 1 rfl
  have c52 : w5.cell? ⟨b, 2, none⟩ = some (.int .i64 s) := b5.cell 2 rfl
  obtain ⟨k6, w6, v, w7, k6s, k7, x7, x6⟩ := label_sum (cT := cT) ht (x5.eq (by ac_rfl : _ = litA kA (bv reelB) * (blkA kL 5 (bv [1, rb, UInt8.ofNat t.length]) * (preA kT (bv t) * (rowA 5 1 (.slice AF 4 cF) 4 (bv (be4 s)) * (blkA b 25 [st t, .int .i64 rb.toNat, .int .i64 s] * X))))))
  have hR := hRt v w7 x7.drop2
  have c60 : w6.cell? ⟨b, 0, none⟩ = some (st t) := x6.cell 0 rfl
  have c61 : w6.cell? ⟨b, 1, none⟩ = some (.int .i64 rb.toNat) := x6.cell 1 rfl
  have c62 : w6.cell? ⟨b, 2, none⟩ = some (.int .i64 s) := x6.cell 2 rfl
  have c70 : w7.cell? ⟨b, 0, none⟩ = some (st t) := x7.swap.cell 0 rfl
  have c71 : w7.cell? ⟨b, 1, none⟩ = some (.int .i64 rb.toNat) := x7.swap.cell 1 rfl
  have c72 : w7.cell? ⟨b, 2, none⟩ = some (.int .i64 s) := x7.swap.cell 2 rfl
  have e1 := cv23 rb
  have e2 := cv3 ht
  have e3 := len9 3 ⟨t.toArray⟩
  rw [st_size] at e3
  obtain ⟨n, hn⟩ : ∃ n, n = t.length := ⟨_, rfl⟩
  rw [← hn] at e2 e3 k2 k4 k6s
  unfold f16.o11
  simp [addL, ← hw0, e1, e2, e3, c00, c01, c02, k1, c10, c11, c12, k2, c20, c21, c22, k3, c30, c31, c32, k4, c40, c41, c42, k5, c50, c51, c52, k6s, k7, c60, c61, c62, c70, c71, c72, chkThen, f16.k0, after, hR]
theorem f16_o12 {w : World} {t : List UInt8} {rb : UInt8} {s b : Nat} {Rt : List Value → World → Prop} (ht : t.length ≤ 100) (hs : s < 4294967296) (x : Sat W (blkA b 25 [st t, .int .i64 rb.toNat, .int .i64 s] * X) w) (hRt : ∀ v w', Sat W (rowA 5 1 v (t.length + 15) (bv (labelB t rb s)) * X) w' → Rt [v] w') : f16.o12 C Rt (.pointer (some ⟨b, 0, none⟩)) w := by
  have x0 := x.drew
  obtain ⟨w0, hw0⟩ : ∃ w0, w0 = w.drew := ⟨_, rfl⟩
  rw [← hw0] at x0
  have b0 := x0
  have c00 : w0.cell? ⟨b, 0, none⟩ = some (st t) := b0.cell 0 rfl
  have c01 : w0.cell? ⟨b, 1, none⟩ = some (.int .i64 rb.toNat) := b0.cell 1 rfl
  have c02 : w0.cell? ⟨b, 2, none⟩ = some (.int .i64 s) := b0.cell 2 rfl
  obtain ⟨kA, w1, k1, x1⟩ := stA x0
  have b1 := x1.eq (by ac_rfl : _ = blkA b 25 [st t, .int .i64 rb.toNat, .int .i64 s] * (blkA kA 5 (bv reelB) * X))
  have c10 : w1.cell? ⟨b, 0, none⟩ = some (st t) := b1.cell 0 rfl
  have c11 : w1.cell? ⟨b, 1, none⟩ = some (.int .i64 rb.toNat) := b1.cell 1 rfl
  have c12 : w1.cell? ⟨b, 2, none⟩ = some (.int .i64 s) := b1.cell 2 rfl
  obtain ⟨kT, cT, w2, k2, x2⟩ := stT x1 t
  have b2 := x2.eq (by ac_rfl : _ = blkA b 25 [st t, .int .i64 rb.toNat, .int .i64 s] * (preA kT (bv t) * (blkA kA 5 (bv reelB) * X)))
  have c20 : w2.cell? ⟨b, 0, none⟩ = some (st t) := b2.cell 0 rfl
  have c21 : w2.cell? ⟨b, 1, none⟩ = some (.int .i64 rb.toNat) := b2.cell 1 rfl
  have c22 : w2.cell? ⟨b, 2, none⟩ = some (.int .i64 s) := b2.cell 2 rfl
  obtain ⟨w3, k3, x3⟩ := stB (x2.eq (by ac_rfl : _ = blkA kA 5 (bv reelB) * (preA kT (bv t) * (blkA b 25 [st t, .int .i64 rb.toNat, .int .i64 s] * X))))
  have b3 := x3.eq (by ac_rfl : _ = blkA b 25 [st t, .int .i64 rb.toNat, .int .i64 s] * (litA kA (bv reelB) * (preA kT (bv t) * X)))
  have c30 : w3.cell? ⟨b, 0, none⟩ = some (st t) := b3.cell 0 rfl
  have c31 : w3.cell? ⟨b, 1, none⟩ = some (.int .i64 rb.toNat) := b3.cell 1 rfl
  have c32 : w3.cell? ⟨b, 2, none⟩ = some (.int .i64 s) := b3.cell 2 rfl
  obtain ⟨kL, w4, k4, x4⟩ := stL x3 rb t.length ht
  have b4 := x4.eq (by ac_rfl : _ = blkA b 25 [st t, .int .i64 rb.toNat, .int .i64 s] * (blkA kL 5 (bv [1, rb, UInt8.ofNat t.length]) * (litA kA (bv reelB) * (preA kT (bv t) * X))))
  have c40 : w4.cell? ⟨b, 0, none⟩ = some (st t) := b4.cell 0 rfl
  have c41 : w4.cell? ⟨b, 1, none⟩ = some (.int .i64 rb.toNat) := b4.cell 1 rfl
  have c42 : w4.cell? ⟨b, 2, none⟩ = some (.int .i64 s) := b4.cell 2 rfl
  obtain ⟨AF, cF, w5, k5, x5⟩ := stF x4 hs
  have b5 := x5.eq (by ac_rfl : _ = blkA b 25 [st t, .int .i64 rb.toNat, .int .i64 s] * (rowA 5 1 (.slice AF 4 cF) 4 (bv (be4 s)) * (blkA kL 5 (bv [1, rb, UInt8.ofNat t.length]) * (litA kA (bv reelB) * (preA kT (bv t) * X)))))
  have c50 : w5.cell? ⟨b, 0, none⟩ = some (st t) := b5.cell 0 rfl
  have c51 : w5.cell? ⟨b, 1, none⟩ = some (.int .i64 rb.toNat) := b5.cell 1 rfl
  have c52 : w5.cell? ⟨b, 2, none⟩ = some (.int .i64 s) := b5.cell 2 rfl
  obtain ⟨k6, w6, v, w7, k6s, k7, x7, x6⟩ := label_sum (cT := cT) ht (x5.eq (by ac_rfl : _ = litA kA (bv reelB) * (blkA kL 5 (bv [1, rb, UInt8.ofNat t.length]) * (preA kT (bv t) * (rowA 5 1 (.slice AF 4 cF) 4 (bv (be4 s)) * (blkA b 25 [st t, .int .i64 rb.toNat, .int .i64 s] * X))))))
  have hR := hRt v w7 x7.drop2
  have c60 : w6.cell? ⟨b, 0, none⟩ = some (st t) := x6.cell 0 rfl
  have c61 : w6.cell? ⟨b, 1, none⟩ = some (.int .i64 rb.toNat) := x6.cell 1 rfl
  have c62 : w6.cell? ⟨b, 2, none⟩ = some (.int .i64 s) := x6.cell 2 rfl
  have c70 : w7.cell? ⟨b, 0, none⟩ = some (st t) := x7.swap.cell 0 rfl
  have c71 : w7.cell? ⟨b, 1, none⟩ = some (.int .i64 rb.toNat) := x7.swap.cell 1 rfl
  have c72 : w7.cell? ⟨b, 2, none⟩ = some (.int .i64 s) := x7.swap.cell 2 rfl
  have e1 := cv23 rb
  have e2 := cv3 ht
  have e3 := len9 3 ⟨t.toArray⟩
  rw [st_size] at e3
  obtain ⟨n, hn⟩ : ∃ n, n = t.length := ⟨_, rfl⟩
  rw [← hn] at e2 e3 k4 k2 k6s
  unfold f16.o12
  simp [addL, ← hw0, e1, e2, e3, c00, c01, c02, k1, c10, c11, c12, k2, c20, c21, c22, k3, c30, c31, c32, k4, c40, c41, c42, k5, c50, c51, c52, k6s, k7, c60, c61, c62, c70, c71, c72, chkThen, f16.k0, after, hR]
theorem f16_o13 {w : World} {t : List UInt8} {rb : UInt8} {s b : Nat} {Rt : List Value → World → Prop} (ht : t.length ≤ 100) (hs : s < 4294967296) (x : Sat W (blkA b 25 [st t, .int .i64 rb.toNat, .int .i64 s] * X) w) (hRt : ∀ v w', Sat W (rowA 5 1 v (t.length + 15) (bv (labelB t rb s)) * X) w' → Rt [v] w') : f16.o13 C Rt (.pointer (some ⟨b, 0, none⟩)) w := by
  have x0 := x.drew
  obtain ⟨w0, hw0⟩ : ∃ w0, w0 = w.drew := ⟨_, rfl⟩
  rw [← hw0] at x0
  have b0 := x0
  have c00 : w0.cell? ⟨b, 0, none⟩ = some (st t) := b0.cell 0 rfl
  have c01 : w0.cell? ⟨b, 1, none⟩ = some (.int .i64 rb.toNat) := b0.cell 1 rfl
  have c02 : w0.cell? ⟨b, 2, none⟩ = some (.int .i64 s) := b0.cell 2 rfl
  obtain ⟨kA, w1, k1, x1⟩ := stA x0
  have b1 := x1.eq (by ac_rfl : _ = blkA b 25 [st t, .int .i64 rb.toNat, .int .i64 s] * (blkA kA 5 (bv reelB) * X))
  have c10 : w1.cell? ⟨b, 0, none⟩ = some (st t) := b1.cell 0 rfl
  have c11 : w1.cell? ⟨b, 1, none⟩ = some (.int .i64 rb.toNat) := b1.cell 1 rfl
  have c12 : w1.cell? ⟨b, 2, none⟩ = some (.int .i64 s) := b1.cell 2 rfl
  obtain ⟨kT, cT, w2, k2, x2⟩ := stT x1 t
  have b2 := x2.eq (by ac_rfl : _ = blkA b 25 [st t, .int .i64 rb.toNat, .int .i64 s] * (preA kT (bv t) * (blkA kA 5 (bv reelB) * X)))
  have c20 : w2.cell? ⟨b, 0, none⟩ = some (st t) := b2.cell 0 rfl
  have c21 : w2.cell? ⟨b, 1, none⟩ = some (.int .i64 rb.toNat) := b2.cell 1 rfl
  have c22 : w2.cell? ⟨b, 2, none⟩ = some (.int .i64 s) := b2.cell 2 rfl
  obtain ⟨w3, k3, x3⟩ := stB (x2.eq (by ac_rfl : _ = blkA kA 5 (bv reelB) * (preA kT (bv t) * (blkA b 25 [st t, .int .i64 rb.toNat, .int .i64 s] * X))))
  have b3 := x3.eq (by ac_rfl : _ = blkA b 25 [st t, .int .i64 rb.toNat, .int .i64 s] * (litA kA (bv reelB) * (preA kT (bv t) * X)))
  have c30 : w3.cell? ⟨b, 0, none⟩ = some (st t) := b3.cell 0 rfl
  have c31 : w3.cell? ⟨b, 1, none⟩ = some (.int .i64 rb.toNat) := b3.cell 1 rfl
  have c32 : w3.cell? ⟨b, 2, none⟩ = some (.int .i64 s) := b3.cell 2 rfl
  obtain ⟨AF, cF, w4, k4, x4⟩ := stF x3 hs
  have b4 := x4.eq (by ac_rfl : _ = blkA b 25 [st t, .int .i64 rb.toNat, .int .i64 s] * (rowA 5 1 (.slice AF 4 cF) 4 (bv (be4 s)) * (litA kA (bv reelB) * (preA kT (bv t) * X))))
  have c40 : w4.cell? ⟨b, 0, none⟩ = some (st t) := b4.cell 0 rfl
  have c41 : w4.cell? ⟨b, 1, none⟩ = some (.int .i64 rb.toNat) := b4.cell 1 rfl
  have c42 : w4.cell? ⟨b, 2, none⟩ = some (.int .i64 s) := b4.cell 2 rfl
  obtain ⟨kL, w5, k5, x5⟩ := stL x4 rb t.length ht
  have b5 := x5.eq (by ac_rfl : _ = blkA b 25 [st t, .int .i64 rb.toNat, .int .i64 s] * (blkA kL 5 (bv [1, rb, UInt8.ofNat t.length]) * (rowA 5 1 (.slice AF 4 cF) 4 (bv (be4 s)) * (litA kA (bv reelB) * (preA kT (bv t) * X)))))
  have c50 : w5.cell? ⟨b, 0, none⟩ = some (st t) := b5.cell 0 rfl
  have c51 : w5.cell? ⟨b, 1, none⟩ = some (.int .i64 rb.toNat) := b5.cell 1 rfl
  have c52 : w5.cell? ⟨b, 2, none⟩ = some (.int .i64 s) := b5.cell 2 rfl
  obtain ⟨k6, w6, v, w7, k6s, k7, x7, x6⟩ := label_sum (cT := cT) ht (x5.eq (by ac_rfl : _ = litA kA (bv reelB) * (blkA kL 5 (bv [1, rb, UInt8.ofNat t.length]) * (preA kT (bv t) * (rowA 5 1 (.slice AF 4 cF) 4 (bv (be4 s)) * (blkA b 25 [st t, .int .i64 rb.toNat, .int .i64 s] * X))))))
  have hR := hRt v w7 x7.drop2
  have c60 : w6.cell? ⟨b, 0, none⟩ = some (st t) := x6.cell 0 rfl
  have c61 : w6.cell? ⟨b, 1, none⟩ = some (.int .i64 rb.toNat) := x6.cell 1 rfl
  have c62 : w6.cell? ⟨b, 2, none⟩ = some (.int .i64 s) := x6.cell 2 rfl
  have c70 : w7.cell? ⟨b, 0, none⟩ = some (st t) := x7.swap.cell 0 rfl
  have c71 : w7.cell? ⟨b, 1, none⟩ = some (.int .i64 rb.toNat) := x7.swap.cell 1 rfl
  have c72 : w7.cell? ⟨b, 2, none⟩ = some (.int .i64 s) := x7.swap.cell 2 rfl
  have e1 := cv23 rb
  have e2 := cv3 ht
  have e3 := len9 3 ⟨t.toArray⟩
  rw [st_size] at e3
  obtain ⟨n, hn⟩ : ∃ n, n = t.length := ⟨_, rfl⟩
  rw [← hn] at e2 e3 k5 k2 k6s
  unfold f16.o13
  simp [addL, ← hw0, e1, e2, e3, c00, c01, c02, k1, c10, c11, c12, k2, c20, c21, c22, k3, c30, c31, c32, k4, c40, c41, c42, k5, c50, c51, c52, k6s, k7, c60, c61, c62, c70, c71, c72, chkThen, f16.k0, after, hR]
theorem f16_o14 {w : World} {t : List UInt8} {rb : UInt8} {s b : Nat} {Rt : List Value → World → Prop} (ht : t.length ≤ 100) (hs : s < 4294967296) (x : Sat W (blkA b 25 [st t, .int .i64 rb.toNat, .int .i64 s] * X) w) (hRt : ∀ v w', Sat W (rowA 5 1 v (t.length + 15) (bv (labelB t rb s)) * X) w' → Rt [v] w') : f16.o14 C Rt (.pointer (some ⟨b, 0, none⟩)) w := by
  have x0 := x.drew
  obtain ⟨w0, hw0⟩ : ∃ w0, w0 = w.drew := ⟨_, rfl⟩
  rw [← hw0] at x0
  have b0 := x0
  have c00 : w0.cell? ⟨b, 0, none⟩ = some (st t) := b0.cell 0 rfl
  have c01 : w0.cell? ⟨b, 1, none⟩ = some (.int .i64 rb.toNat) := b0.cell 1 rfl
  have c02 : w0.cell? ⟨b, 2, none⟩ = some (.int .i64 s) := b0.cell 2 rfl
  obtain ⟨kA, w1, k1, x1⟩ := stA x0
  have b1 := x1.eq (by ac_rfl : _ = blkA b 25 [st t, .int .i64 rb.toNat, .int .i64 s] * (blkA kA 5 (bv reelB) * X))
  have c10 : w1.cell? ⟨b, 0, none⟩ = some (st t) := b1.cell 0 rfl
  have c11 : w1.cell? ⟨b, 1, none⟩ = some (.int .i64 rb.toNat) := b1.cell 1 rfl
  have c12 : w1.cell? ⟨b, 2, none⟩ = some (.int .i64 s) := b1.cell 2 rfl
  obtain ⟨kT, cT, w2, k2, x2⟩ := stT x1 t
  have b2 := x2.eq (by ac_rfl : _ = blkA b 25 [st t, .int .i64 rb.toNat, .int .i64 s] * (preA kT (bv t) * (blkA kA 5 (bv reelB) * X)))
  have c20 : w2.cell? ⟨b, 0, none⟩ = some (st t) := b2.cell 0 rfl
  have c21 : w2.cell? ⟨b, 1, none⟩ = some (.int .i64 rb.toNat) := b2.cell 1 rfl
  have c22 : w2.cell? ⟨b, 2, none⟩ = some (.int .i64 s) := b2.cell 2 rfl
  obtain ⟨kL, w3, k3, x3⟩ := stL x2 rb t.length ht
  have b3 := x3.eq (by ac_rfl : _ = blkA b 25 [st t, .int .i64 rb.toNat, .int .i64 s] * (blkA kL 5 (bv [1, rb, UInt8.ofNat t.length]) * (preA kT (bv t) * (blkA kA 5 (bv reelB) * X))))
  have c30 : w3.cell? ⟨b, 0, none⟩ = some (st t) := b3.cell 0 rfl
  have c31 : w3.cell? ⟨b, 1, none⟩ = some (.int .i64 rb.toNat) := b3.cell 1 rfl
  have c32 : w3.cell? ⟨b, 2, none⟩ = some (.int .i64 s) := b3.cell 2 rfl
  obtain ⟨w4, k4, x4⟩ := stB (x3.eq (by ac_rfl : _ = blkA kA 5 (bv reelB) * (blkA kL 5 (bv [1, rb, UInt8.ofNat t.length]) * (preA kT (bv t) * (blkA b 25 [st t, .int .i64 rb.toNat, .int .i64 s] * X)))))
  have b4 := x4.eq (by ac_rfl : _ = blkA b 25 [st t, .int .i64 rb.toNat, .int .i64 s] * (litA kA (bv reelB) * (blkA kL 5 (bv [1, rb, UInt8.ofNat t.length]) * (preA kT (bv t) * X))))
  have c40 : w4.cell? ⟨b, 0, none⟩ = some (st t) := b4.cell 0 rfl
  have c41 : w4.cell? ⟨b, 1, none⟩ = some (.int .i64 rb.toNat) := b4.cell 1 rfl
  have c42 : w4.cell? ⟨b, 2, none⟩ = some (.int .i64 s) := b4.cell 2 rfl
  obtain ⟨AF, cF, w5, k5, x5⟩ := stF x4 hs
  have b5 := x5.eq (by ac_rfl : _ = blkA b 25 [st t, .int .i64 rb.toNat, .int .i64 s] * (rowA 5 1 (.slice AF 4 cF) 4 (bv (be4 s)) * (litA kA (bv reelB) * (blkA kL 5 (bv [1, rb, UInt8.ofNat t.length]) * (preA kT (bv t) * X)))))
  have c50 : w5.cell? ⟨b, 0, none⟩ = some (st t) := b5.cell 0 rfl
  have c51 : w5.cell? ⟨b, 1, none⟩ = some (.int .i64 rb.toNat) := b5.cell 1 rfl
  have c52 : w5.cell? ⟨b, 2, none⟩ = some (.int .i64 s) := b5.cell 2 rfl
  obtain ⟨k6, w6, v, w7, k6s, k7, x7, x6⟩ := label_sum (cT := cT) ht (x5.eq (by ac_rfl : _ = litA kA (bv reelB) * (blkA kL 5 (bv [1, rb, UInt8.ofNat t.length]) * (preA kT (bv t) * (rowA 5 1 (.slice AF 4 cF) 4 (bv (be4 s)) * (blkA b 25 [st t, .int .i64 rb.toNat, .int .i64 s] * X))))))
  have hR := hRt v w7 x7.drop2
  have c60 : w6.cell? ⟨b, 0, none⟩ = some (st t) := x6.cell 0 rfl
  have c61 : w6.cell? ⟨b, 1, none⟩ = some (.int .i64 rb.toNat) := x6.cell 1 rfl
  have c62 : w6.cell? ⟨b, 2, none⟩ = some (.int .i64 s) := x6.cell 2 rfl
  have c70 : w7.cell? ⟨b, 0, none⟩ = some (st t) := x7.swap.cell 0 rfl
  have c71 : w7.cell? ⟨b, 1, none⟩ = some (.int .i64 rb.toNat) := x7.swap.cell 1 rfl
  have c72 : w7.cell? ⟨b, 2, none⟩ = some (.int .i64 s) := x7.swap.cell 2 rfl
  have e1 := cv23 rb
  have e2 := cv3 ht
  have e3 := len9 3 ⟨t.toArray⟩
  rw [st_size] at e3
  obtain ⟨n, hn⟩ : ∃ n, n = t.length := ⟨_, rfl⟩
  rw [← hn] at e2 e3 k3 k2 k6s
  unfold f16.o14
  simp [addL, ← hw0, e1, e2, e3, c00, c01, c02, k1, c10, c11, c12, k2, c20, c21, c22, k3, c30, c31, c32, k4, c40, c41, c42, k5, c50, c51, c52, k6s, k7, c60, c61, c62, c70, c71, c72, chkThen, f16.k0, after, hR]
theorem f16_o15 {w : World} {t : List UInt8} {rb : UInt8} {s b : Nat} {Rt : List Value → World → Prop} (ht : t.length ≤ 100) (hs : s < 4294967296) (x : Sat W (blkA b 25 [st t, .int .i64 rb.toNat, .int .i64 s] * X) w) (hRt : ∀ v w', Sat W (rowA 5 1 v (t.length + 15) (bv (labelB t rb s)) * X) w' → Rt [v] w') : f16.o15 C Rt (.pointer (some ⟨b, 0, none⟩)) w := by
  have x0 := x.drew
  obtain ⟨w0, hw0⟩ : ∃ w0, w0 = w.drew := ⟨_, rfl⟩
  rw [← hw0] at x0
  have b0 := x0
  have c00 : w0.cell? ⟨b, 0, none⟩ = some (st t) := b0.cell 0 rfl
  have c01 : w0.cell? ⟨b, 1, none⟩ = some (.int .i64 rb.toNat) := b0.cell 1 rfl
  have c02 : w0.cell? ⟨b, 2, none⟩ = some (.int .i64 s) := b0.cell 2 rfl
  obtain ⟨kA, w1, k1, x1⟩ := stA x0
  have b1 := x1.eq (by ac_rfl : _ = blkA b 25 [st t, .int .i64 rb.toNat, .int .i64 s] * (blkA kA 5 (bv reelB) * X))
  have c10 : w1.cell? ⟨b, 0, none⟩ = some (st t) := b1.cell 0 rfl
  have c11 : w1.cell? ⟨b, 1, none⟩ = some (.int .i64 rb.toNat) := b1.cell 1 rfl
  have c12 : w1.cell? ⟨b, 2, none⟩ = some (.int .i64 s) := b1.cell 2 rfl
  obtain ⟨kT, cT, w2, k2, x2⟩ := stT x1 t
  have b2 := x2.eq (by ac_rfl : _ = blkA b 25 [st t, .int .i64 rb.toNat, .int .i64 s] * (preA kT (bv t) * (blkA kA 5 (bv reelB) * X)))
  have c20 : w2.cell? ⟨b, 0, none⟩ = some (st t) := b2.cell 0 rfl
  have c21 : w2.cell? ⟨b, 1, none⟩ = some (.int .i64 rb.toNat) := b2.cell 1 rfl
  have c22 : w2.cell? ⟨b, 2, none⟩ = some (.int .i64 s) := b2.cell 2 rfl
  obtain ⟨kL, w3, k3, x3⟩ := stL x2 rb t.length ht
  have b3 := x3.eq (by ac_rfl : _ = blkA b 25 [st t, .int .i64 rb.toNat, .int .i64 s] * (blkA kL 5 (bv [1, rb, UInt8.ofNat t.length]) * (preA kT (bv t) * (blkA kA 5 (bv reelB) * X))))
  have c30 : w3.cell? ⟨b, 0, none⟩ = some (st t) := b3.cell 0 rfl
  have c31 : w3.cell? ⟨b, 1, none⟩ = some (.int .i64 rb.toNat) := b3.cell 1 rfl
  have c32 : w3.cell? ⟨b, 2, none⟩ = some (.int .i64 s) := b3.cell 2 rfl
  obtain ⟨AF, cF, w4, k4, x4⟩ := stF x3 hs
  have b4 := x4.eq (by ac_rfl : _ = blkA b 25 [st t, .int .i64 rb.toNat, .int .i64 s] * (rowA 5 1 (.slice AF 4 cF) 4 (bv (be4 s)) * (blkA kL 5 (bv [1, rb, UInt8.ofNat t.length]) * (preA kT (bv t) * (blkA kA 5 (bv reelB) * X)))))
  have c40 : w4.cell? ⟨b, 0, none⟩ = some (st t) := b4.cell 0 rfl
  have c41 : w4.cell? ⟨b, 1, none⟩ = some (.int .i64 rb.toNat) := b4.cell 1 rfl
  have c42 : w4.cell? ⟨b, 2, none⟩ = some (.int .i64 s) := b4.cell 2 rfl
  obtain ⟨w5, k5, x5⟩ := stB (x4.eq (by ac_rfl : _ = blkA kA 5 (bv reelB) * (rowA 5 1 (.slice AF 4 cF) 4 (bv (be4 s)) * (blkA kL 5 (bv [1, rb, UInt8.ofNat t.length]) * (preA kT (bv t) * (blkA b 25 [st t, .int .i64 rb.toNat, .int .i64 s] * X))))))
  have b5 := x5.eq (by ac_rfl : _ = blkA b 25 [st t, .int .i64 rb.toNat, .int .i64 s] * (litA kA (bv reelB) * (rowA 5 1 (.slice AF 4 cF) 4 (bv (be4 s)) * (blkA kL 5 (bv [1, rb, UInt8.ofNat t.length]) * (preA kT (bv t) * X)))))
  have c50 : w5.cell? ⟨b, 0, none⟩ = some (st t) := b5.cell 0 rfl
  have c51 : w5.cell? ⟨b, 1, none⟩ = some (.int .i64 rb.toNat) := b5.cell 1 rfl
  have c52 : w5.cell? ⟨b, 2, none⟩ = some (.int .i64 s) := b5.cell 2 rfl
  obtain ⟨k6, w6, v, w7, k6s, k7, x7, x6⟩ := label_sum (cT := cT) ht (x5.eq (by ac_rfl : _ = litA kA (bv reelB) * (blkA kL 5 (bv [1, rb, UInt8.ofNat t.length]) * (preA kT (bv t) * (rowA 5 1 (.slice AF 4 cF) 4 (bv (be4 s)) * (blkA b 25 [st t, .int .i64 rb.toNat, .int .i64 s] * X))))))
  have hR := hRt v w7 x7.drop2
  have c60 : w6.cell? ⟨b, 0, none⟩ = some (st t) := x6.cell 0 rfl
  have c61 : w6.cell? ⟨b, 1, none⟩ = some (.int .i64 rb.toNat) := x6.cell 1 rfl
  have c62 : w6.cell? ⟨b, 2, none⟩ = some (.int .i64 s) := x6.cell 2 rfl
  have c70 : w7.cell? ⟨b, 0, none⟩ = some (st t) := x7.swap.cell 0 rfl
  have c71 : w7.cell? ⟨b, 1, none⟩ = some (.int .i64 rb.toNat) := x7.swap.cell 1 rfl
  have c72 : w7.cell? ⟨b, 2, none⟩ = some (.int .i64 s) := x7.swap.cell 2 rfl
  have e1 := cv23 rb
  have e2 := cv3 ht
  have e3 := len9 3 ⟨t.toArray⟩
  rw [st_size] at e3
  obtain ⟨n, hn⟩ : ∃ n, n = t.length := ⟨_, rfl⟩
  rw [← hn] at e2 e3 k3 k2 k6s
  unfold f16.o15
  simp [addL, ← hw0, e1, e2, e3, c00, c01, c02, k1, c10, c11, c12, k2, c20, c21, c22, k3, c30, c31, c32, k4, c40, c41, c42, k5, c50, c51, c52, k6s, k7, c60, c61, c62, c70, c71, c72, chkThen, f16.k0, after, hR]
theorem f16_o16 {w : World} {t : List UInt8} {rb : UInt8} {s b : Nat} {Rt : List Value → World → Prop} (ht : t.length ≤ 100) (hs : s < 4294967296) (x : Sat W (blkA b 25 [st t, .int .i64 rb.toNat, .int .i64 s] * X) w) (hRt : ∀ v w', Sat W (rowA 5 1 v (t.length + 15) (bv (labelB t rb s)) * X) w' → Rt [v] w') : f16.o16 C Rt (.pointer (some ⟨b, 0, none⟩)) w := by
  have x0 := x.drew
  obtain ⟨w0, hw0⟩ : ∃ w0, w0 = w.drew := ⟨_, rfl⟩
  rw [← hw0] at x0
  have b0 := x0
  have c00 : w0.cell? ⟨b, 0, none⟩ = some (st t) := b0.cell 0 rfl
  have c01 : w0.cell? ⟨b, 1, none⟩ = some (.int .i64 rb.toNat) := b0.cell 1 rfl
  have c02 : w0.cell? ⟨b, 2, none⟩ = some (.int .i64 s) := b0.cell 2 rfl
  obtain ⟨kA, w1, k1, x1⟩ := stA x0
  have b1 := x1.eq (by ac_rfl : _ = blkA b 25 [st t, .int .i64 rb.toNat, .int .i64 s] * (blkA kA 5 (bv reelB) * X))
  have c10 : w1.cell? ⟨b, 0, none⟩ = some (st t) := b1.cell 0 rfl
  have c11 : w1.cell? ⟨b, 1, none⟩ = some (.int .i64 rb.toNat) := b1.cell 1 rfl
  have c12 : w1.cell? ⟨b, 2, none⟩ = some (.int .i64 s) := b1.cell 2 rfl
  obtain ⟨kT, cT, w2, k2, x2⟩ := stT x1 t
  have b2 := x2.eq (by ac_rfl : _ = blkA b 25 [st t, .int .i64 rb.toNat, .int .i64 s] * (preA kT (bv t) * (blkA kA 5 (bv reelB) * X)))
  have c20 : w2.cell? ⟨b, 0, none⟩ = some (st t) := b2.cell 0 rfl
  have c21 : w2.cell? ⟨b, 1, none⟩ = some (.int .i64 rb.toNat) := b2.cell 1 rfl
  have c22 : w2.cell? ⟨b, 2, none⟩ = some (.int .i64 s) := b2.cell 2 rfl
  obtain ⟨AF, cF, w3, k3, x3⟩ := stF x2 hs
  have b3 := x3.eq (by ac_rfl : _ = blkA b 25 [st t, .int .i64 rb.toNat, .int .i64 s] * (rowA 5 1 (.slice AF 4 cF) 4 (bv (be4 s)) * (preA kT (bv t) * (blkA kA 5 (bv reelB) * X))))
  have c30 : w3.cell? ⟨b, 0, none⟩ = some (st t) := b3.cell 0 rfl
  have c31 : w3.cell? ⟨b, 1, none⟩ = some (.int .i64 rb.toNat) := b3.cell 1 rfl
  have c32 : w3.cell? ⟨b, 2, none⟩ = some (.int .i64 s) := b3.cell 2 rfl
  obtain ⟨w4, k4, x4⟩ := stB (x3.eq (by ac_rfl : _ = blkA kA 5 (bv reelB) * (rowA 5 1 (.slice AF 4 cF) 4 (bv (be4 s)) * (preA kT (bv t) * (blkA b 25 [st t, .int .i64 rb.toNat, .int .i64 s] * X)))))
  have b4 := x4.eq (by ac_rfl : _ = blkA b 25 [st t, .int .i64 rb.toNat, .int .i64 s] * (litA kA (bv reelB) * (rowA 5 1 (.slice AF 4 cF) 4 (bv (be4 s)) * (preA kT (bv t) * X))))
  have c40 : w4.cell? ⟨b, 0, none⟩ = some (st t) := b4.cell 0 rfl
  have c41 : w4.cell? ⟨b, 1, none⟩ = some (.int .i64 rb.toNat) := b4.cell 1 rfl
  have c42 : w4.cell? ⟨b, 2, none⟩ = some (.int .i64 s) := b4.cell 2 rfl
  obtain ⟨kL, w5, k5, x5⟩ := stL x4 rb t.length ht
  have b5 := x5.eq (by ac_rfl : _ = blkA b 25 [st t, .int .i64 rb.toNat, .int .i64 s] * (blkA kL 5 (bv [1, rb, UInt8.ofNat t.length]) * (litA kA (bv reelB) * (rowA 5 1 (.slice AF 4 cF) 4 (bv (be4 s)) * (preA kT (bv t) * X)))))
  have c50 : w5.cell? ⟨b, 0, none⟩ = some (st t) := b5.cell 0 rfl
  have c51 : w5.cell? ⟨b, 1, none⟩ = some (.int .i64 rb.toNat) := b5.cell 1 rfl
  have c52 : w5.cell? ⟨b, 2, none⟩ = some (.int .i64 s) := b5.cell 2 rfl
  obtain ⟨k6, w6, v, w7, k6s, k7, x7, x6⟩ := label_sum (cT := cT) ht (x5.eq (by ac_rfl : _ = litA kA (bv reelB) * (blkA kL 5 (bv [1, rb, UInt8.ofNat t.length]) * (preA kT (bv t) * (rowA 5 1 (.slice AF 4 cF) 4 (bv (be4 s)) * (blkA b 25 [st t, .int .i64 rb.toNat, .int .i64 s] * X))))))
  have hR := hRt v w7 x7.drop2
  have c60 : w6.cell? ⟨b, 0, none⟩ = some (st t) := x6.cell 0 rfl
  have c61 : w6.cell? ⟨b, 1, none⟩ = some (.int .i64 rb.toNat) := x6.cell 1 rfl
  have c62 : w6.cell? ⟨b, 2, none⟩ = some (.int .i64 s) := x6.cell 2 rfl
  have c70 : w7.cell? ⟨b, 0, none⟩ = some (st t) := x7.swap.cell 0 rfl
  have c71 : w7.cell? ⟨b, 1, none⟩ = some (.int .i64 rb.toNat) := x7.swap.cell 1 rfl
  have c72 : w7.cell? ⟨b, 2, none⟩ = some (.int .i64 s) := x7.swap.cell 2 rfl
  have e1 := cv23 rb
  have e2 := cv3 ht
  have e3 := len9 3 ⟨t.toArray⟩
  rw [st_size] at e3
  obtain ⟨n, hn⟩ : ∃ n, n = t.length := ⟨_, rfl⟩
  rw [← hn] at e2 e3 k5 k2 k6s
  unfold f16.o16
  simp [addL, ← hw0, e1, e2, e3, c00, c01, c02, k1, c10, c11, c12, k2, c20, c21, c22, k3, c30, c31, c32, k4, c40, c41, c42, k5, c50, c51, c52, k6s, k7, c60, c61, c62, c70, c71, c72, chkThen, f16.k0, after, hR]
theorem f16_o17 {w : World} {t : List UInt8} {rb : UInt8} {s b : Nat} {Rt : List Value → World → Prop} (ht : t.length ≤ 100) (hs : s < 4294967296) (x : Sat W (blkA b 25 [st t, .int .i64 rb.toNat, .int .i64 s] * X) w) (hRt : ∀ v w', Sat W (rowA 5 1 v (t.length + 15) (bv (labelB t rb s)) * X) w' → Rt [v] w') : f16.o17 C Rt (.pointer (some ⟨b, 0, none⟩)) w := by
  have x0 := x.drew
  obtain ⟨w0, hw0⟩ : ∃ w0, w0 = w.drew := ⟨_, rfl⟩
  rw [← hw0] at x0
  have b0 := x0
  have c00 : w0.cell? ⟨b, 0, none⟩ = some (st t) := b0.cell 0 rfl
  have c01 : w0.cell? ⟨b, 1, none⟩ = some (.int .i64 rb.toNat) := b0.cell 1 rfl
  have c02 : w0.cell? ⟨b, 2, none⟩ = some (.int .i64 s) := b0.cell 2 rfl
  obtain ⟨kA, w1, k1, x1⟩ := stA x0
  have b1 := x1.eq (by ac_rfl : _ = blkA b 25 [st t, .int .i64 rb.toNat, .int .i64 s] * (blkA kA 5 (bv reelB) * X))
  have c10 : w1.cell? ⟨b, 0, none⟩ = some (st t) := b1.cell 0 rfl
  have c11 : w1.cell? ⟨b, 1, none⟩ = some (.int .i64 rb.toNat) := b1.cell 1 rfl
  have c12 : w1.cell? ⟨b, 2, none⟩ = some (.int .i64 s) := b1.cell 2 rfl
  obtain ⟨kT, cT, w2, k2, x2⟩ := stT x1 t
  have b2 := x2.eq (by ac_rfl : _ = blkA b 25 [st t, .int .i64 rb.toNat, .int .i64 s] * (preA kT (bv t) * (blkA kA 5 (bv reelB) * X)))
  have c20 : w2.cell? ⟨b, 0, none⟩ = some (st t) := b2.cell 0 rfl
  have c21 : w2.cell? ⟨b, 1, none⟩ = some (.int .i64 rb.toNat) := b2.cell 1 rfl
  have c22 : w2.cell? ⟨b, 2, none⟩ = some (.int .i64 s) := b2.cell 2 rfl
  obtain ⟨AF, cF, w3, k3, x3⟩ := stF x2 hs
  have b3 := x3.eq (by ac_rfl : _ = blkA b 25 [st t, .int .i64 rb.toNat, .int .i64 s] * (rowA 5 1 (.slice AF 4 cF) 4 (bv (be4 s)) * (preA kT (bv t) * (blkA kA 5 (bv reelB) * X))))
  have c30 : w3.cell? ⟨b, 0, none⟩ = some (st t) := b3.cell 0 rfl
  have c31 : w3.cell? ⟨b, 1, none⟩ = some (.int .i64 rb.toNat) := b3.cell 1 rfl
  have c32 : w3.cell? ⟨b, 2, none⟩ = some (.int .i64 s) := b3.cell 2 rfl
  obtain ⟨kL, w4, k4, x4⟩ := stL x3 rb t.length ht
  have b4 := x4.eq (by ac_rfl : _ = blkA b 25 [st t, .int .i64 rb.toNat, .int .i64 s] * (blkA kL 5 (bv [1, rb, UInt8.ofNat t.length]) * (rowA 5 1 (.slice AF 4 cF) 4 (bv (be4 s)) * (preA kT (bv t) * (blkA kA 5 (bv reelB) * X)))))
  have c40 : w4.cell? ⟨b, 0, none⟩ = some (st t) := b4.cell 0 rfl
  have c41 : w4.cell? ⟨b, 1, none⟩ = some (.int .i64 rb.toNat) := b4.cell 1 rfl
  have c42 : w4.cell? ⟨b, 2, none⟩ = some (.int .i64 s) := b4.cell 2 rfl
  obtain ⟨w5, k5, x5⟩ := stB (x4.eq (by ac_rfl : _ = blkA kA 5 (bv reelB) * (blkA kL 5 (bv [1, rb, UInt8.ofNat t.length]) * (rowA 5 1 (.slice AF 4 cF) 4 (bv (be4 s)) * (preA kT (bv t) * (blkA b 25 [st t, .int .i64 rb.toNat, .int .i64 s] * X))))))
  have b5 := x5.eq (by ac_rfl : _ = blkA b 25 [st t, .int .i64 rb.toNat, .int .i64 s] * (litA kA (bv reelB) * (blkA kL 5 (bv [1, rb, UInt8.ofNat t.length]) * (rowA 5 1 (.slice AF 4 cF) 4 (bv (be4 s)) * (preA kT (bv t) * X)))))
  have c50 : w5.cell? ⟨b, 0, none⟩ = some (st t) := b5.cell 0 rfl
  have c51 : w5.cell? ⟨b, 1, none⟩ = some (.int .i64 rb.toNat) := b5.cell 1 rfl
  have c52 : w5.cell? ⟨b, 2, none⟩ = some (.int .i64 s) := b5.cell 2 rfl
  obtain ⟨k6, w6, v, w7, k6s, k7, x7, x6⟩ := label_sum (cT := cT) ht (x5.eq (by ac_rfl : _ = litA kA (bv reelB) * (blkA kL 5 (bv [1, rb, UInt8.ofNat t.length]) * (preA kT (bv t) * (rowA 5 1 (.slice AF 4 cF) 4 (bv (be4 s)) * (blkA b 25 [st t, .int .i64 rb.toNat, .int .i64 s] * X))))))
  have hR := hRt v w7 x7.drop2
  have c60 : w6.cell? ⟨b, 0, none⟩ = some (st t) := x6.cell 0 rfl
  have c61 : w6.cell? ⟨b, 1, none⟩ = some (.int .i64 rb.toNat) := x6.cell 1 rfl
  have c62 : w6.cell? ⟨b, 2, none⟩ = some (.int .i64 s) := x6.cell 2 rfl
  have c70 : w7.cell? ⟨b, 0, none⟩ = some (st t) := x7.swap.cell 0 rfl
  have c71 : w7.cell? ⟨b, 1, none⟩ = some (.int .i64 rb.toNat) := x7.swap.cell 1 rfl
  have c72 : w7.cell? ⟨b, 2, none⟩ = some (.int .i64 s) := x7.swap.cell 2 rfl
  have e1 := cv23 rb
  have e2 := cv3 ht
  have e3 := len9 3 ⟨t.toArray⟩
  rw [st_size] at e3
  obtain ⟨n, hn⟩ : ∃ n, n = t.length := ⟨_, rfl⟩
  rw [← hn] at e2 e3 k4 k2 k6s
  unfold f16.o17
  simp [addL, ← hw0, e1, e2, e3, c00, c01, c02, k1, c10, c11, c12, k2, c20, c21, c22, k3, c30, c31, c32, k4, c40, c41, c42, k5, c50, c51, c52, k6s, k7, c60, c61, c62, c70, c71, c72, chkThen, f16.k0, after, hR]
theorem f16_o18 {w : World} {t : List UInt8} {rb : UInt8} {s b : Nat} {Rt : List Value → World → Prop} (ht : t.length ≤ 100) (hs : s < 4294967296) (x : Sat W (blkA b 25 [st t, .int .i64 rb.toNat, .int .i64 s] * X) w) (hRt : ∀ v w', Sat W (rowA 5 1 v (t.length + 15) (bv (labelB t rb s)) * X) w' → Rt [v] w') : f16.o18 C Rt (.pointer (some ⟨b, 0, none⟩)) w := by
  have x0 := x.drew
  obtain ⟨w0, hw0⟩ : ∃ w0, w0 = w.drew := ⟨_, rfl⟩
  rw [← hw0] at x0
  have b0 := x0
  have c00 : w0.cell? ⟨b, 0, none⟩ = some (st t) := b0.cell 0 rfl
  have c01 : w0.cell? ⟨b, 1, none⟩ = some (.int .i64 rb.toNat) := b0.cell 1 rfl
  have c02 : w0.cell? ⟨b, 2, none⟩ = some (.int .i64 s) := b0.cell 2 rfl
  obtain ⟨kA, w1, k1, x1⟩ := stA x0
  have b1 := x1.eq (by ac_rfl : _ = blkA b 25 [st t, .int .i64 rb.toNat, .int .i64 s] * (blkA kA 5 (bv reelB) * X))
  have c10 : w1.cell? ⟨b, 0, none⟩ = some (st t) := b1.cell 0 rfl
  have c11 : w1.cell? ⟨b, 1, none⟩ = some (.int .i64 rb.toNat) := b1.cell 1 rfl
  have c12 : w1.cell? ⟨b, 2, none⟩ = some (.int .i64 s) := b1.cell 2 rfl
  obtain ⟨AF, cF, w2, k2, x2⟩ := stF x1 hs
  have b2 := x2.eq (by ac_rfl : _ = blkA b 25 [st t, .int .i64 rb.toNat, .int .i64 s] * (rowA 5 1 (.slice AF 4 cF) 4 (bv (be4 s)) * (blkA kA 5 (bv reelB) * X)))
  have c20 : w2.cell? ⟨b, 0, none⟩ = some (st t) := b2.cell 0 rfl
  have c21 : w2.cell? ⟨b, 1, none⟩ = some (.int .i64 rb.toNat) := b2.cell 1 rfl
  have c22 : w2.cell? ⟨b, 2, none⟩ = some (.int .i64 s) := b2.cell 2 rfl
  obtain ⟨w3, k3, x3⟩ := stB (x2.eq (by ac_rfl : _ = blkA kA 5 (bv reelB) * (rowA 5 1 (.slice AF 4 cF) 4 (bv (be4 s)) * (blkA b 25 [st t, .int .i64 rb.toNat, .int .i64 s] * X))))
  have b3 := x3.eq (by ac_rfl : _ = blkA b 25 [st t, .int .i64 rb.toNat, .int .i64 s] * (litA kA (bv reelB) * (rowA 5 1 (.slice AF 4 cF) 4 (bv (be4 s)) * X)))
  have c30 : w3.cell? ⟨b, 0, none⟩ = some (st t) := b3.cell 0 rfl
  have c31 : w3.cell? ⟨b, 1, none⟩ = some (.int .i64 rb.toNat) := b3.cell 1 rfl
  have c32 : w3.cell? ⟨b, 2, none⟩ = some (.int .i64 s) := b3.cell 2 rfl
  obtain ⟨kL, w4, k4, x4⟩ := stL x3 rb t.length ht
  have b4 := x4.eq (by ac_rfl : _ = blkA b 25 [st t, .int .i64 rb.toNat, .int .i64 s] * (blkA kL 5 (bv [1, rb, UInt8.ofNat t.length]) * (litA kA (bv reelB) * (rowA 5 1 (.slice AF 4 cF) 4 (bv (be4 s)) * X))))
  have c40 : w4.cell? ⟨b, 0, none⟩ = some (st t) := b4.cell 0 rfl
  have c41 : w4.cell? ⟨b, 1, none⟩ = some (.int .i64 rb.toNat) := b4.cell 1 rfl
  have c42 : w4.cell? ⟨b, 2, none⟩ = some (.int .i64 s) := b4.cell 2 rfl
  obtain ⟨kT, cT, w5, k5, x5⟩ := stT x4 t
  have b5 := x5.eq (by ac_rfl : _ = blkA b 25 [st t, .int .i64 rb.toNat, .int .i64 s] * (preA kT (bv t) * (blkA kL 5 (bv [1, rb, UInt8.ofNat t.length]) * (litA kA (bv reelB) * (rowA 5 1 (.slice AF 4 cF) 4 (bv (be4 s)) * X)))))
  have c50 : w5.cell? ⟨b, 0, none⟩ = some (st t) := b5.cell 0 rfl
  have c51 : w5.cell? ⟨b, 1, none⟩ = some (.int .i64 rb.toNat) := b5.cell 1 rfl
  have c52 : w5.cell? ⟨b, 2, none⟩ = some (.int .i64 s) := b5.cell 2 rfl
  obtain ⟨k6, w6, v, w7, k6s, k7, x7, x6⟩ := label_sum (cT := cT) ht (x5.eq (by ac_rfl : _ = litA kA (bv reelB) * (blkA kL 5 (bv [1, rb, UInt8.ofNat t.length]) * (preA kT (bv t) * (rowA 5 1 (.slice AF 4 cF) 4 (bv (be4 s)) * (blkA b 25 [st t, .int .i64 rb.toNat, .int .i64 s] * X))))))
  have hR := hRt v w7 x7.drop2
  have c60 : w6.cell? ⟨b, 0, none⟩ = some (st t) := x6.cell 0 rfl
  have c61 : w6.cell? ⟨b, 1, none⟩ = some (.int .i64 rb.toNat) := x6.cell 1 rfl
  have c62 : w6.cell? ⟨b, 2, none⟩ = some (.int .i64 s) := x6.cell 2 rfl
  have c70 : w7.cell? ⟨b, 0, none⟩ = some (st t) := x7.swap.cell 0 rfl
  have c71 : w7.cell? ⟨b, 1, none⟩ = some (.int .i64 rb.toNat) := x7.swap.cell 1 rfl
  have c72 : w7.cell? ⟨b, 2, none⟩ = some (.int .i64 s) := x7.swap.cell 2 rfl
  have e1 := cv23 rb
  have e2 := cv3 ht
  have e3 := len9 3 ⟨t.toArray⟩
  rw [st_size] at e3
  obtain ⟨n, hn⟩ : ∃ n, n = t.length := ⟨_, rfl⟩
  rw [← hn] at e2 e3 k4 k5 k6s
  unfold f16.o18
  simp [addL, ← hw0, e1, e2, e3, c00, c01, c02, k1, c10, c11, c12, k2, c20, c21, c22, k3, c30, c31, c32, k4, c40, c41, c42, k5, c50, c51, c52, k6s, k7, c60, c61, c62, c70, c71, c72, chkThen, f16.k0, after, hR]
theorem f16_o19 {w : World} {t : List UInt8} {rb : UInt8} {s b : Nat} {Rt : List Value → World → Prop} (ht : t.length ≤ 100) (hs : s < 4294967296) (x : Sat W (blkA b 25 [st t, .int .i64 rb.toNat, .int .i64 s] * X) w) (hRt : ∀ v w', Sat W (rowA 5 1 v (t.length + 15) (bv (labelB t rb s)) * X) w' → Rt [v] w') : f16.o19 C Rt (.pointer (some ⟨b, 0, none⟩)) w := by
  have x0 := x.drew
  obtain ⟨w0, hw0⟩ : ∃ w0, w0 = w.drew := ⟨_, rfl⟩
  rw [← hw0] at x0
  have b0 := x0
  have c00 : w0.cell? ⟨b, 0, none⟩ = some (st t) := b0.cell 0 rfl
  have c01 : w0.cell? ⟨b, 1, none⟩ = some (.int .i64 rb.toNat) := b0.cell 1 rfl
  have c02 : w0.cell? ⟨b, 2, none⟩ = some (.int .i64 s) := b0.cell 2 rfl
  obtain ⟨kA, w1, k1, x1⟩ := stA x0
  have b1 := x1.eq (by ac_rfl : _ = blkA b 25 [st t, .int .i64 rb.toNat, .int .i64 s] * (blkA kA 5 (bv reelB) * X))
  have c10 : w1.cell? ⟨b, 0, none⟩ = some (st t) := b1.cell 0 rfl
  have c11 : w1.cell? ⟨b, 1, none⟩ = some (.int .i64 rb.toNat) := b1.cell 1 rfl
  have c12 : w1.cell? ⟨b, 2, none⟩ = some (.int .i64 s) := b1.cell 2 rfl
  obtain ⟨AF, cF, w2, k2, x2⟩ := stF x1 hs
  have b2 := x2.eq (by ac_rfl : _ = blkA b 25 [st t, .int .i64 rb.toNat, .int .i64 s] * (rowA 5 1 (.slice AF 4 cF) 4 (bv (be4 s)) * (blkA kA 5 (bv reelB) * X)))
  have c20 : w2.cell? ⟨b, 0, none⟩ = some (st t) := b2.cell 0 rfl
  have c21 : w2.cell? ⟨b, 1, none⟩ = some (.int .i64 rb.toNat) := b2.cell 1 rfl
  have c22 : w2.cell? ⟨b, 2, none⟩ = some (.int .i64 s) := b2.cell 2 rfl
  obtain ⟨w3, k3, x3⟩ := stB (x2.eq (by ac_rfl : _ = blkA kA 5 (bv reelB) * (rowA 5 1 (.slice AF 4 cF) 4 (bv (be4 s)) * (blkA b 25 [st t, .int .i64 rb.toNat, .int .i64 s] * X))))
  have b3 := x3.eq (by ac_rfl : _ = blkA b 25 [st t, .int .i64 rb.toNat, .int .i64 s] * (litA kA (bv reelB) * (rowA 5 1 (.slice AF 4 cF) 4 (bv (be4 s)) * X)))
  have c30 : w3.cell? ⟨b, 0, none⟩ = some (st t) := b3.cell 0 rfl
  have c31 : w3.cell? ⟨b, 1, none⟩ = some (.int .i64 rb.toNat) := b3.cell 1 rfl
  have c32 : w3.cell? ⟨b, 2, none⟩ = some (.int .i64 s) := b3.cell 2 rfl
  obtain ⟨kT, cT, w4, k4, x4⟩ := stT x3 t
  have b4 := x4.eq (by ac_rfl : _ = blkA b 25 [st t, .int .i64 rb.toNat, .int .i64 s] * (preA kT (bv t) * (litA kA (bv reelB) * (rowA 5 1 (.slice AF 4 cF) 4 (bv (be4 s)) * X))))
  have c40 : w4.cell? ⟨b, 0, none⟩ = some (st t) := b4.cell 0 rfl
  have c41 : w4.cell? ⟨b, 1, none⟩ = some (.int .i64 rb.toNat) := b4.cell 1 rfl
  have c42 : w4.cell? ⟨b, 2, none⟩ = some (.int .i64 s) := b4.cell 2 rfl
  obtain ⟨kL, w5, k5, x5⟩ := stL x4 rb t.length ht
  have b5 := x5.eq (by ac_rfl : _ = blkA b 25 [st t, .int .i64 rb.toNat, .int .i64 s] * (blkA kL 5 (bv [1, rb, UInt8.ofNat t.length]) * (preA kT (bv t) * (litA kA (bv reelB) * (rowA 5 1 (.slice AF 4 cF) 4 (bv (be4 s)) * X)))))
  have c50 : w5.cell? ⟨b, 0, none⟩ = some (st t) := b5.cell 0 rfl
  have c51 : w5.cell? ⟨b, 1, none⟩ = some (.int .i64 rb.toNat) := b5.cell 1 rfl
  have c52 : w5.cell? ⟨b, 2, none⟩ = some (.int .i64 s) := b5.cell 2 rfl
  obtain ⟨k6, w6, v, w7, k6s, k7, x7, x6⟩ := label_sum (cT := cT) ht (x5.eq (by ac_rfl : _ = litA kA (bv reelB) * (blkA kL 5 (bv [1, rb, UInt8.ofNat t.length]) * (preA kT (bv t) * (rowA 5 1 (.slice AF 4 cF) 4 (bv (be4 s)) * (blkA b 25 [st t, .int .i64 rb.toNat, .int .i64 s] * X))))))
  have hR := hRt v w7 x7.drop2
  have c60 : w6.cell? ⟨b, 0, none⟩ = some (st t) := x6.cell 0 rfl
  have c61 : w6.cell? ⟨b, 1, none⟩ = some (.int .i64 rb.toNat) := x6.cell 1 rfl
  have c62 : w6.cell? ⟨b, 2, none⟩ = some (.int .i64 s) := x6.cell 2 rfl
  have c70 : w7.cell? ⟨b, 0, none⟩ = some (st t) := x7.swap.cell 0 rfl
  have c71 : w7.cell? ⟨b, 1, none⟩ = some (.int .i64 rb.toNat) := x7.swap.cell 1 rfl
  have c72 : w7.cell? ⟨b, 2, none⟩ = some (.int .i64 s) := x7.swap.cell 2 rfl
  have e1 := cv23 rb
  have e2 := cv3 ht
  have e3 := len9 3 ⟨t.toArray⟩
  rw [st_size] at e3
  obtain ⟨n, hn⟩ : ∃ n, n = t.length := ⟨_, rfl⟩
  rw [← hn] at e2 e3 k5 k4 k6s
  unfold f16.o19
  simp [addL, ← hw0, e1, e2, e3, c00, c01, c02, k1, c10, c11, c12, k2, c20, c21, c22, k3, c30, c31, c32, k4, c40, c41, c42, k5, c50, c51, c52, k6s, k7, c60, c61, c62, c70, c71, c72, chkThen, f16.k0, after, hR]
end
end Go.Sh.YtodkllcibbidoaaDoor

namespace Go.Sh.YtodkllcibbidoaaDoor
open Go Go.Proofs Go.RowKit Go.Lib
set_option linter.unusedVariables false
set_option linter.unusedSimpArgs false
set_option maxRecDepth 100000
section
variable {W : World} {X : Asn W.heap.size}
theorem f16_o20 {w : World} {t : List UInt8} {rb : UInt8} {s b : Nat} {Rt : List Value → World → Prop} (ht : t.length ≤ 100) (hs : s < 4294967296) (x : Sat W (blkA b 25 [st t, .int .i64 rb.toNat, .int .i64 s] * X) w) (hRt : ∀ v w', Sat W (rowA 5 1 v (t.length + 15) (bv (labelB t rb s)) * X) w' → Rt [v] w') : f16.o20 C Rt (.pointer (some ⟨b, 0, none⟩)) w := by
  have x0 := x.drew
  obtain ⟨w0, hw0⟩ : ∃ w0, w0 = w.drew := ⟨_, rfl⟩
  rw [← hw0] at x0
  have b0 := x0
  have c00 : w0.cell? ⟨b, 0, none⟩ = some (st t) := b0.cell 0 rfl
  have c01 : w0.cell? ⟨b, 1, none⟩ = some (.int .i64 rb.toNat) := b0.cell 1 rfl
  have c02 : w0.cell? ⟨b, 2, none⟩ = some (.int .i64 s) := b0.cell 2 rfl
  obtain ⟨kA, w1, k1, x1⟩ := stA x0
  have b1 := x1.eq (by ac_rfl : _ = blkA b 25 [st t, .int .i64 rb.toNat, .int .i64 s] * (blkA kA 5 (bv reelB) * X))
  have c10 : w1.cell? ⟨b, 0, none⟩ = some (st t) := b1.cell 0 rfl
  have c11 : w1.cell? ⟨b, 1, none⟩ = some (.int .i64 rb.toNat) := b1.cell 1 rfl
  have c12 : w1.cell? ⟨b, 2, none⟩ = some (.int .i64 s) := b1.cell 2 rfl
  obtain ⟨AF, cF, w2, k2, x2⟩ := stF x1 hs
  have b2 := x2.eq (by ac_rfl : _ = blkA b 25 [st t, .int .i64 rb.toNat, .int .i64 s] * (rowA 5 1 (.slice AF 4 cF) 4 (bv (be4 s)) * (blkA kA 5 (bv reelB) * X)))
  have c20 : w2.cell? ⟨b, 0, none⟩ = some (st t) := b2.cell 0 rfl
  have c21 : w2.cell? ⟨b, 1, none⟩ = some (.int .i64 rb.toNat) := b2.cell 1 rfl
  have c22 : w2.cell? ⟨b, 2, none⟩ = some (.int .i64 s) := b2.cell 2 rfl
  obtain ⟨kL, w3, k3, x3⟩ := stL x2 rb t.length ht
  have b3 := x3.eq (by ac_rfl : _ = blkA b 25 [st t, .int .i64 rb.toNat, .int .i64 s] * (blkA kL 5 (bv [1, rb, UInt8.ofNat t.length]) * (rowA 5 1 (.slice AF 4 cF) 4 (bv (be4 s)) * (blkA kA 5 (bv reelB) * X))))
  have c30 : w3.cell? ⟨b, 0, none⟩ = some (st t) := b3.cell 0 rfl
  have c31 : w3.cell? ⟨b, 1, none⟩ = some (.int .i64 rb.toNat) := b3.cell 1 rfl
  have c32 : w3.cell? ⟨b, 2, none⟩ = some (.int .i64 s) := b3.cell 2 rfl
  obtain ⟨w4, k4, x4⟩ := stB (x3.eq (by ac_rfl : _ = blkA kA 5 (bv reelB) * (blkA kL 5 (bv [1, rb, UInt8.ofNat t.length]) * (rowA 5 1 (.slice AF 4 cF) 4 (bv (be4 s)) * (blkA b 25 [st t, .int .i64 rb.toNat, .int .i64 s] * X)))))
  have b4 := x4.eq (by ac_rfl : _ = blkA b 25 [st t, .int .i64 rb.toNat, .int .i64 s] * (litA kA (bv reelB) * (blkA kL 5 (bv [1, rb, UInt8.ofNat t.length]) * (rowA 5 1 (.slice AF 4 cF) 4 (bv (be4 s)) * X))))
  have c40 : w4.cell? ⟨b, 0, none⟩ = some (st t) := b4.cell 0 rfl
  have c41 : w4.cell? ⟨b, 1, none⟩ = some (.int .i64 rb.toNat) := b4.cell 1 rfl
  have c42 : w4.cell? ⟨b, 2, none⟩ = some (.int .i64 s) := b4.cell 2 rfl
  obtain ⟨kT, cT, w5, k5, x5⟩ := stT x4 t
  have b5 := x5.eq (by ac_rfl : _ = blkA b 25 [st t, .int .i64 rb.toNat, .int .i64 s] * (preA kT (bv t) * (litA kA (bv reelB) * (blkA kL 5 (bv [1, rb, UInt8.ofNat t.length]) * (rowA 5 1 (.slice AF 4 cF) 4 (bv (be4 s)) * X)))))
  have c50 : w5.cell? ⟨b, 0, none⟩ = some (st t) := b5.cell 0 rfl
  have c51 : w5.cell? ⟨b, 1, none⟩ = some (.int .i64 rb.toNat) := b5.cell 1 rfl
  have c52 : w5.cell? ⟨b, 2, none⟩ = some (.int .i64 s) := b5.cell 2 rfl
  obtain ⟨k6, w6, v, w7, k6s, k7, x7, x6⟩ := label_sum (cT := cT) ht (x5.eq (by ac_rfl : _ = litA kA (bv reelB) * (blkA kL 5 (bv [1, rb, UInt8.ofNat t.length]) * (preA kT (bv t) * (rowA 5 1 (.slice AF 4 cF) 4 (bv (be4 s)) * (blkA b 25 [st t, .int .i64 rb.toNat, .int .i64 s] * X))))))
  have hR := hRt v w7 x7.drop2
  have c60 : w6.cell? ⟨b, 0, none⟩ = some (st t) := x6.cell 0 rfl
  have c61 : w6.cell? ⟨b, 1, none⟩ = some (.int .i64 rb.toNat) := x6.cell 1 rfl
  have c62 : w6.cell? ⟨b, 2, none⟩ = some (.int .i64 s) := x6.cell 2 rfl
  have c70 : w7.cell? ⟨b, 0, none⟩ = some (st t) := x7.swap.cell 0 rfl
  have c71 : w7.cell? ⟨b, 1, none⟩ = some (.int .i64 rb.toNat) := x7.swap.cell 1 rfl
  have c72 : w7.cell? ⟨b, 2, none⟩ = some (.int .i64 s) := x7.swap.cell 2 rfl
  have e1 := cv23 rb
  have e2 := cv3 ht
  have e3 := len9 3 ⟨t.toArray⟩
  rw [st_size] at e3
  obtain ⟨n, hn⟩ : ∃ n, n = t.length := ⟨_, rfl⟩
  rw [← hn] at e2 e3 k3 k5 k6s
  unfold f16.o20
  simp [addL, ← hw0, e1, e2, e3, c00, c01, c02, k1, c10, c11, c12, k2, c20, c21, c22, k3, c30, c31, c32, k4, c40, c41, c42, k5, c50, c51, c52, k6s, k7, c60, c61, c62, c70, c71, c72, chkThen, f16.k0, after, hR]
theorem f16_o21 {w : World} {t : List UInt8} {rb : UInt8} {s b : Nat} {Rt : List Value → World → Prop} (ht : t.length ≤ 100) (hs : s < 4294967296) (x : Sat W (blkA b 25 [st t, .int .i64 rb.toNat, .int .i64 s] * X) w) (hRt : ∀ v w', Sat W (rowA 5 1 v (t.length + 15) (bv (labelB t rb s)) * X) w' → Rt [v] w') : f16.o21 C Rt (.pointer (some ⟨b, 0, none⟩)) w := by
  have x0 := x.drew
  obtain ⟨w0, hw0⟩ : ∃ w0, w0 = w.drew := ⟨_, rfl⟩
  rw [← hw0] at x0
  have b0 := x0
  have c00 : w0.cell? ⟨b, 0, none⟩ = some (st t) := b0.cell 0 rfl
  have c01 : w0.cell? ⟨b, 1, none⟩ = some (.int .i64 rb.toNat) := b0.cell 1 rfl
  have c02 : w0.cell? ⟨b, 2, none⟩ = some (.int .i64 s) := b0.cell 2 rfl
  obtain ⟨kA, w1, k1, x1⟩ := stA x0
  have b1 := x1.eq (by ac_rfl : _ = blkA b 25 [st t, .int .i64 rb.toNat, .int .i64 s] * (blkA kA 5 (bv reelB) * X))
  have c10 : w1.cell? ⟨b, 0, none⟩ = some (st t) := b1.cell 0 rfl
  have c11 : w1.cell? ⟨b, 1, none⟩ = some (.int .i64 rb.toNat) := b1.cell 1 rfl
  have c12 : w1.cell? ⟨b, 2, none⟩ = some (.int .i64 s) := b1.cell 2 rfl
  obtain ⟨AF, cF, w2, k2, x2⟩ := stF x1 hs
  have b2 := x2.eq (by ac_rfl : _ = blkA b 25 [st t, .int .i64 rb.toNat, .int .i64 s] * (rowA 5 1 (.slice AF 4 cF) 4 (bv (be4 s)) * (blkA kA 5 (bv reelB) * X)))
  have c20 : w2.cell? ⟨b, 0, none⟩ = some (st t) := b2.cell 0 rfl
  have c21 : w2.cell? ⟨b, 1, none⟩ = some (.int .i64 rb.toNat) := b2.cell 1 rfl
  have c22 : w2.cell? ⟨b, 2, none⟩ = some (.int .i64 s) := b2.cell 2 rfl
  obtain ⟨kL, w3, k3, x3⟩ := stL x2 rb t.length ht
  have b3 := x3.eq (by ac_rfl : _ = blkA b 25 [st t, .int .i64 rb.toNat, .int .i64 s] * (blkA kL 5 (bv [1, rb, UInt8.ofNat t.length]) * (rowA 5 1 (.slice AF 4 cF) 4 (bv (be4 s)) * (blkA kA 5 (bv reelB) * X))))
  have c30 : w3.cell? ⟨b, 0, none⟩ = some (st t) := b3.cell 0 rfl
  have c31 : w3.cell? ⟨b, 1, none⟩ = some (.int .i64 rb.toNat) := b3.cell 1 rfl
  have c32 : w3.cell? ⟨b, 2, none⟩ = some (.int .i64 s) := b3.cell 2 rfl
  obtain ⟨kT, cT, w4, k4, x4⟩ := stT x3 t
  have b4 := x4.eq (by ac_rfl : _ = blkA b 25 [st t, .int .i64 rb.toNat, .int .i64 s] * (preA kT (bv t) * (blkA kL 5 (bv [1, rb, UInt8.ofNat t.length]) * (rowA 5 1 (.slice AF 4 cF) 4 (bv (be4 s)) * (blkA kA 5 (bv reelB) * X)))))
  have c40 : w4.cell? ⟨b, 0, none⟩ = some (st t) := b4.cell 0 rfl
  have c41 : w4.cell? ⟨b, 1, none⟩ = some (.int .i64 rb.toNat) := b4.cell 1 rfl
  have c42 : w4.cell? ⟨b, 2, none⟩ = some (.int .i64 s) := b4.cell 2 rfl
  obtain ⟨w5, k5, x5⟩ := stB (x4.eq (by ac_rfl : _ = blkA kA 5 (bv reelB) * (preA kT (bv t) * (blkA kL 5 (bv [1, rb, UInt8.ofNat t.length]) * (rowA 5 1 (.slice AF 4 cF) 4 (bv (be4 s)) * (blkA b 25 [st t, .int .i64 rb.toNat, .int .i64 s] * X))))))
  have b5 := x5.eq (by ac_rfl : _ = blkA b 25 [st t, .int .i64 rb.toNat, .int .i64 s] * (litA kA (bv reelB) * (preA kT (bv t) * (blkA kL 5 (bv [1, rb, UInt8.ofNat t.length]) * (rowA 5 1 (.slice AF 4 cF) 4 (bv (be4 s)) * X)))))
  have c50 : w5.cell? ⟨b, 0, none⟩ = some (st t) := b5.cell 0 rfl
  have c51 : w5.cell? ⟨b, 1, none⟩ = some (.int .i64 rb.toNat) := b5.cell 1 rfl
  have c52 : w5.cell? ⟨b, 2, none⟩ = some (.int .i64 s) := b5.cell 2 rfl
  obtain ⟨k6, w6, v, w7, k6s, k7, x7, x6⟩ := label_sum (cT := cT) ht (x5.eq (by ac_rfl : _ = litA kA (bv reelB) * (blkA kL 5 (bv [1, rb, UInt8.ofNat t.length]) * (preA kT (bv t) * (rowA 5 1 (.slice AF 4 cF) 4 (bv (be4 s)) * (blkA b 25 [st t, .int .i64 rb.toNat, .int .i64 s] * X))))))
  have hR := hRt v w7 x7.drop2
  have c60 : w6.cell? ⟨b, 0, none⟩ = some (st t) := x6.cell 0 rfl
  have c61 : w6.cell? ⟨b, 1, none⟩ = some (.int .i64 rb.toNat) := x6.cell 1 rfl
  have c62 : w6.cell? ⟨b, 2, none⟩ = some (.int .i64 s) := x6.cell 2 rfl
  have c70 : w7.cell? ⟨b, 0, none⟩ = some (st t) := x7.swap.cell 0 rfl
  have c71 : w7.cell? ⟨b, 1, none⟩ = some (.int .i64 rb.toNat) := x7.swap.cell 1 rfl
  have c72 : w7.cell? ⟨b, 2, none⟩ = some (.int .i64 s) := x7.swap.cell 2 rfl
  have e1 := cv23 rb
  have e2 := cv3 ht
  have e3 := len9 3 ⟨t.toArray⟩
  rw [st_size] at e3
  obtain ⟨n, hn⟩ : ∃ n, n = t.length := ⟨_, rfl⟩
  rw [← hn] at e2 e3 k3 k4 k6s
  unfold f16.o21
  simp [addL, ← hw0, e1, e2, e3, c00, c01, c02, k1, c10, c11, c12, k2, c20, c21, c22, k3, c30, c31, c32, k4, c40, c41, c42, k5, c50, c51, c52, k6s, k7, c60, c61, c62, c70, c71, c72, chkThen, f16.k0, after, hR]
theorem f16_o22 {w : World} {t : List UInt8} {rb : UInt8} {s b : Nat} {Rt : List Value → World → Prop} (ht : t.length ≤ 100) (hs : s < 4294967296) (x : Sat W (blkA b 25 [st t, .int .i64 rb.toNat, .int .i64 s] * X) w) (hRt : ∀ v w', Sat W (rowA 5 1 v (t.length + 15) (bv (labelB t rb s)) * X) w' → Rt [v] w') : f16.o22 C Rt (.pointer (some ⟨b, 0, none⟩)) w := by
  have x0 := x.drew
  obtain ⟨w0, hw0⟩ : ∃ w0, w0 = w.drew := ⟨_, rfl⟩
  rw [← hw0] at x0
  have b0 := x0
  have c00 : w0.cell? ⟨b, 0, none⟩ = some (st t) := b0.cell 0 rfl
  have c01 : w0.cell? ⟨b, 1, none⟩ = some (.int .i64 rb.toNat) := b0.cell 1 rfl
  have c02 : w0.cell? ⟨b, 2, none⟩ = some (.int .i64 s) := b0.cell 2 rfl
  obtain ⟨kA, w1, k1, x1⟩ := stA x0
  have b1 := x1.eq (by ac_rfl : _ = blkA b 25 [st t, .int .i64 rb.toNat, .int .i64 s] * (blkA kA 5 (bv reelB) * X))
  have c10 : w1.cell? ⟨b, 0, none⟩ = some (st t) := b1.cell 0 rfl
  have c11 : w1.cell? ⟨b, 1, none⟩ = some (.int .i64 rb.toNat) := b1.cell 1 rfl
  have c12 : w1.cell? ⟨b, 2, none⟩ = some (.int .i64 s) := b1.cell 2 rfl
  obtain ⟨AF, cF, w2, k2, x2⟩ := stF x1 hs
  have b2 := x2.eq (by ac_rfl : _ = blkA b 25 [st t, .int .i64 rb.toNat, .int .i64 s] * (rowA 5 1 (.slice AF 4 cF) 4 (bv (be4 s)) * (blkA kA 5 (bv reelB) * X)))
  have c20 : w2.cell? ⟨b, 0, none⟩ = some (st t) := b2.cell 0 rfl
  have c21 : w2.cell? ⟨b, 1, none⟩ = some (.int .i64 rb.toNat) := b2.cell 1 rfl
  have c22 : w2.cell? ⟨b, 2, none⟩ = some (.int .i64 s) := b2.cell 2 rfl
  obtain ⟨kT, cT, w3, k3, x3⟩ := stT x2 t
  have b3 := x3.eq (by ac_rfl : _ = blkA b 25 [st t, .int .i64 rb.toNat, .int .i64 s] * (preA kT (bv t) * (rowA 5 1 (.slice AF 4 cF) 4 (bv (be4 s)) * (blkA kA 5 (bv reelB) * X))))
  have c30 : w3.cell? ⟨b, 0, none⟩ = some (st t) := b3.cell 0 rfl
  have c31 : w3.cell? ⟨b, 1, none⟩ = some (.int .i64 rb.toNat) := b3.cell 1 rfl
  have c32 : w3.cell? ⟨b, 2, none⟩ = some (.int .i64 s) := b3.cell 2 rfl
  obtain ⟨w4, k4, x4⟩ := stB (x3.eq (by ac_rfl : _ = blkA kA 5 (bv reelB) * (preA kT (bv t) * (rowA 5 1 (.slice AF 4 cF) 4 (bv (be4 s)) * (blkA b 25 [st t, .int .i64 rb.toNat, .int .i64 s] * X)))))
  have b4 := x4.eq (by ac_rfl : _ = blkA b 25 [st t, .int .i64 rb.toNat, .int .i64 s] * (litA kA (bv reelB) * (preA kT (bv t) * (rowA 5 1 (.slice AF 4 cF) 4 (bv (be4 s)) * X))))
  have c40 : w4.cell? ⟨b, 0, none⟩ = some (st t) := b4.cell 0 rfl
  have c41 : w4.cell? ⟨b, 1, none⟩ = some (.int .i64 rb.toNat) := b4.cell 1 rfl
  have c42 : w4.cell? ⟨b, 2, none⟩ = some (.int .i64 s) := b4.cell 2 rfl
  obtain ⟨kL, w5, k5, x5⟩ := stL x4 rb t.length ht
  have b5 := x5.eq (by ac_rfl : _ = blkA b 25 [st t, .int .i64 rb.toNat, .int .i64 s] * (blkA kL 5 (bv [1, rb, UInt8.ofNat t.length]) * (litA kA (bv reelB) * (preA kT (bv t) * (rowA 5 1 (.slice AF 4 cF) 4 (bv (be4 s)) * X)))))
  have c50 : w5.cell? ⟨b, 0, none⟩ = some (st t) := b5.cell 0 rfl
  have c51 : w5.cell? ⟨b, 1, none⟩ = some (.int .i64 rb.toNat) := b5.cell 1 rfl
  have c52 : w5.cell? ⟨b, 2, none⟩ = some (.int .i64 s) := b5.cell 2 rfl
  obtain ⟨k6, w6, v, w7, k6s, k7, x7, x6⟩ := label_sum (cT := cT) ht (x5.eq (by ac_rfl : _ = litA kA (bv reelB) * (blkA kL 5 (bv [1, rb, UInt8.ofNat t.length]) * (preA kT (bv t) * (rowA 5 1 (.slice AF 4 cF) 4 (bv (be4 s)) * (blkA b 25 [st t, .int .i64 rb.toNat, .int .i64 s] * X))))))
  have hR := hRt v w7 x7.drop2
  have c60 : w6.cell? ⟨b, 0, none⟩ = some (st t) := x6.cell 0 rfl
  have c61 : w6.cell? ⟨b, 1, none⟩ = some (.int .i64 rb.toNat) := x6.cell 1 rfl
  have c62 : w6.cell? ⟨b, 2, none⟩ = some (.int .i64 s) := x6.cell 2 rfl
  have c70 : w7.cell? ⟨b, 0, none⟩ = some (st t) := x7.swap.cell 0 rfl
  have c71 : w7.cell? ⟨b, 1, none⟩ = some (.int .i64 rb.toNat) := x7.swap.cell 1 rfl
  have c72 : w7.cell? ⟨b, 2, none⟩ = some (.int .i64 s) := x7.swap.cell 2 rfl
  have e1 := cv23 rb
  have e2 := cv3 ht
  have e3 := len9 3 ⟨t.toArray⟩
  rw [st_size] at e3
  obtain ⟨n, hn⟩ : ∃ n, n = t.length := ⟨_, rfl⟩
  rw [← hn] at e2 e3 k5 k3 k6s
  unfold f16.o22
  simp [addL, ← hw0, e1, e2, e3, c00, c01, c02, k1, c10, c11, c12, k2, c20, c21, c22, k3, c30, c31, c32, k4, c40, c41, c42, k5, c50, c51, c52, k6s, k7, c60, c61, c62, c70, c71, c72, chkThen, f16.k0, after, hR]
theorem f16_o23 {w : World} {t : List UInt8} {rb : UInt8} {s b : Nat} {Rt : List Value → World → Prop} (ht : t.length ≤ 100) (hs : s < 4294967296) (x : Sat W (blkA b 25 [st t, .int .i64 rb.toNat, .int .i64 s] * X) w) (hRt : ∀ v w', Sat W (rowA 5 1 v (t.length + 15) (bv (labelB t rb s)) * X) w' → Rt [v] w') : f16.o23 C Rt (.pointer (some ⟨b, 0, none⟩)) w := by
  have x0 := x.drew
  obtain ⟨w0, hw0⟩ : ∃ w0, w0 = w.drew := ⟨_, rfl⟩
  rw [← hw0] at x0
  have b0 := x0
  have c00 : w0.cell? ⟨b, 0, none⟩ = some (st t) := b0.cell 0 rfl
  have c01 : w0.cell? ⟨b, 1, none⟩ = some (.int .i64 rb.toNat) := b0.cell 1 rfl
  have c02 : w0.cell? ⟨b, 2, none⟩ = some (.int .i64 s) := b0.cell 2 rfl
  obtain ⟨kA, w1, k1, x1⟩ := stA x0
  have b1 := x1.eq (by ac_rfl : _ = blkA b 25 [st t, .int .i64 rb.toNat, .int .i64 s] * (blkA kA 5 (bv reelB) * X))
  have c10 : w1.cell? ⟨b, 0, none⟩ = some (st t) := b1.cell 0 rfl
  have c11 : w1.cell? ⟨b, 1, none⟩ = some (.int .i64 rb.toNat) := b1.cell 1 rfl
  have c12 : w1.cell? ⟨b, 2, none⟩ = some (.int .i64 s) := b1.cell 2 rfl
  obtain ⟨AF, cF, w2, k2, x2⟩ := stF x1 hs
  have b2 := x2.eq (by ac_rfl : _ = blkA b 25 [st t, .int .i64 rb.toNat, .int .i64 s] * (rowA 5 1 (.slice AF 4 cF) 4 (bv (be4 s)) * (blkA kA 5 (bv reelB) * X)))
  have c20 : w2.cell? ⟨b, 0, none⟩ = some (st t) := b2.cell 0 rfl
  have c21 : w2.cell? ⟨b, 1, none⟩ = some (.int .i64 rb.toNat) := b2.cell 1 rfl
  have c22 : w2.cell? ⟨b, 2, none⟩ = some (.int .i64 s) := b2.cell 2 rfl
  obtain ⟨kT, cT, w3, k3, x3⟩ := stT x2 t
  have b3 := x3.eq (by ac_rfl : _ = blkA b 25 [st t, .int .i64 rb.toNat, .int .i64 s] * (preA kT (bv t) * (rowA 5 1 (.slice AF 4 cF) 4 (bv (be4 s)) * (blkA kA 5 (bv reelB) * X))))
  have c30 : w3.cell? ⟨b, 0, none⟩ = some (st t) := b3.cell 0 rfl
  have c31 : w3.cell? ⟨b, 1, none⟩ = some (.int .i64 rb.toNat) := b3.cell 1 rfl
  have c32 : w3.cell? ⟨b, 2, none⟩ = some (.int .i64 s) := b3.cell 2 rfl
  obtain ⟨kL, w4, k4, x4⟩ := stL x3 rb t.length ht
  have b4 := x4.eq (by ac_rfl : _ = blkA b 25 [st t, .int .i64 rb.toNat, .int .i64 s] * (blkA kL 5 (bv [1, rb, UInt8.ofNat t.length]) * (preA kT (bv t) * (rowA 5 1 (.slice AF 4 cF) 4 (bv (be4 s)) * (blkA kA 5 (bv reelB) * X)))))
  have c40 : w4.cell? ⟨b, 0, none⟩ = some (st t) := b4.cell 0 rfl
  have c41 : w4.cell? ⟨b, 1, none⟩ = some (.int .i64 rb.toNat) := b4.cell 1 rfl
  have c42 : w4.cell? ⟨b, 2, none⟩ = some (.int .i64 s) := b4.cell 2 rfl
  obtain ⟨w5, k5, x5⟩ := stB (x4.eq (by ac_rfl : _ = blkA kA 5 (bv reelB) * (blkA kL 5 (bv [1, rb, UInt8.ofNat t.length]) * (preA kT (bv t) * (rowA 5 1 (.slice AF 4 cF) 4 (bv (be4 s)) * (blkA b 25 [st t, .int .i64 rb.toNat, .int .i64 s] * X))))))
  have b5 := x5.eq (by ac_rfl : _ = blkA b 25 [st t, .int .i64 rb.toNat, .int .i64 s] * (litA kA (bv reelB) * (blkA kL 5 (bv [1, rb, UInt8.ofNat t.length]) * (preA kT (bv t) * (rowA 5 1 (.slice AF 4 cF) 4 (bv (be4 s)) * X)))))
  have c50 : w5.cell? ⟨b, 0, none⟩ = some (st t) := b5.cell 0 rfl
  have c51 : w5.cell? ⟨b, 1, none⟩ = some (.int .i64 rb.toNat) := b5.cell 1 rfl
  have c52 : w5.cell? ⟨b, 2, none⟩ = some (.int .i64 s) := b5.cell 2 rfl
  obtain ⟨k6, w6, v, w7, k6s, k7, x7, x6⟩ := label_sum (cT := cT) ht (x5.eq (by ac_rfl : _ = litA kA (bv reelB) * (blkA kL 5 (bv [1, rb, UInt8.ofNat t.length]) * (preA kT (bv t) * (rowA 5 1 (.slice AF 4 cF) 4 (bv (be4 s)) * (blkA b 25 [st t, .int .i64 rb.toNat, .int .i64 s] * X))))))
  have hR := hRt v w7 x7.drop2
  have c60 : w6.cell? ⟨b, 0, none⟩ = some (st t) := x6.cell 0 rfl
  have c61 : w6.cell? ⟨b, 1, none⟩ = some (.int .i64 rb.toNat) := x6.cell 1 rfl
  have c62 : w6.cell? ⟨b, 2, none⟩ = some (.int .i64 s) := x6.cell 2 rfl
  have c70 : w7.cell? ⟨b, 0, none⟩ = some (st t) := x7.swap.cell 0 rfl
  have c71 : w7.cell? ⟨b, 1, none⟩ = some (.int .i64 rb.toNat) := x7.swap.cell 1 rfl
  have c72 : w7.cell? ⟨b, 2, none⟩ = some (.int .i64 s) := x7.swap.cell 2 rfl
  have e1 := cv23 rb
  have e2 := cv3 ht
  have e3 := len9 3 ⟨t.toArray⟩
  rw [st_size] at e3
  obtain ⟨n, hn⟩ : ∃ n, n = t.length := ⟨_, rfl⟩
  rw [← hn] at e2 e3 k4 k3 k6s
  unfold f16.o23
  simp [addL, ← hw0, e1, e2, e3, c00, c01, c02, k1, c10, c11, c12, k2, c20, c21, c22, k3, c30, c31, c32, k4, c40, c41, c42, k5, c50, c51, c52, k6s, k7, c60, c61, c62, c70, c71, c72, chkThen, f16.k0, after, hR]
theorem f16_o24 {w : World} {t : List UInt8} {rb : UInt8} {s b : Nat} {Rt : List Value → World → Prop} (ht : t.length ≤ 100) (hs : s < 4294967296) (x : Sat W (blkA b 25 [st t, .int .i64 rb.toNat, .int .i64 s] * X) w) (hRt : ∀ v w', Sat W (rowA 5 1 v (t.length + 15) (bv (labelB t rb s)) * X) w' → Rt [v] w') : f16.o24 C Rt (.pointer (some ⟨b, 0, none⟩)) w := by
  have x0 := x.drew
  obtain ⟨w0, hw0⟩ : ∃ w0, w0 = w.drew := ⟨_, rfl⟩
  rw [← hw0] at x0
  have b0 := x0
  have c00 : w0.cell? ⟨b, 0, none⟩ = some (st t) := b0.cell 0 rfl
  have c01 : w0.cell? ⟨b, 1, none⟩ = some (.int .i64 rb.toNat) := b0.cell 1 rfl
  have c02 : w0.cell? ⟨b, 2, none⟩ = some (.int .i64 s) := b0.cell 2 rfl
  obtain ⟨kL, w1, k1, x1⟩ := stL x0 rb t.length ht
  have b1 := x1.eq (by ac_rfl : _ = blkA b 25 [st t, .int .i64 rb.toNat, .int .i64 s] * (blkA kL 5 (bv [1, rb, UInt8.ofNat t.length]) * X))
  have c10 : w1.cell? ⟨b, 0, none⟩ = some (st t) := b1.cell 0 rfl
  have c11 : w1.cell? ⟨b, 1, none⟩ = some (.int .i64 rb.toNat) := b1.cell 1 rfl
  have c12 : w1.cell? ⟨b, 2, none⟩ = some (.int .i64 s) := b1.cell 2 rfl
  obtain ⟨kA, w2, k2, x2⟩ := stA x1
  have b2 := x2.eq (by ac_rfl : _ = blkA b 25 [st t, .int .i64 rb.toNat, .int .i64 s] * (blkA kA 5 (bv reelB) * (blkA kL 5 (bv [1, rb, UInt8.ofNat t.length]) * X)))
  have c20 : w2.cell? ⟨b, 0, none⟩ = some (st t) := b2.cell 0 rfl
  have c21 : w2.cell? ⟨b, 1, none⟩ = some (.int .i64 rb.toNat) := b2.cell 1 rfl
  have c22 : w2.cell? ⟨b, 2, none⟩ = some (.int .i64 s) := b2.cell 2 rfl
  obtain ⟨w3, k3, x3⟩ := stB x2
  have b3 := x3.eq (by ac_rfl : _ = blkA b 25 [st t, .int .i64 rb.toNat, .int .i64 s] * (litA kA (bv reelB) * (blkA kL 5 (bv [1, rb, UInt8.ofNat t.length]) * X)))
  have c30 : w3.cell? ⟨b, 0, none⟩ = some (st t) := b3.cell 0 rfl
  have c31 : w3.cell? ⟨b, 1, none⟩ = some (.int .i64 rb.toNat) := b3.cell 1 rfl
  have c32 : w3.cell? ⟨b, 2, none⟩ = some (.int .i64 s) := b3.cell 2 rfl
  obtain ⟨kT, cT, w4, k4, x4⟩ := stT x3 t
  have b4 := x4.eq (by ac_rfl : _ = blkA b 25 [st t, .int .i64 rb.toNat, .int .i64 s] * (preA kT (bv t) * (litA kA (bv reelB) * (blkA kL 5 (bv [1, rb, UInt8.ofNat t.length]) * X))))
  have c40 : w4.cell? ⟨b, 0, none⟩ = some (st t) := b4.cell 0 rfl
  have c41 : w4.cell? ⟨b, 1, none⟩ = some (.int .i64 rb.toNat) := b4.cell 1 rfl
  have c42 : w4.cell? ⟨b, 2, none⟩ = some (.int .i64 s) := b4.cell 2 rfl
  obtain ⟨AF, cF, w5, k5, x5⟩ := stF x4 hs
  have b5 := x5.eq (by ac_rfl : _ = blkA b 25 [st t, .int .i64 rb.toNat, .int .i64 s] * (rowA 5 1 (.slice AF 4 cF) 4 (bv (be4 s)) * (preA kT (bv t) * (litA kA (bv reelB) * (blkA kL 5 (bv [1, rb, UInt8.ofNat t.length]) * X)))))
  have c50 : w5.cell? ⟨b, 0, none⟩ = some (st t) := b5.cell 0 rfl
  have c51 : w5.cell? ⟨b, 1, none⟩ = some (.int .i64 rb.toNat) := b5.cell 1 rfl
  have c52 : w5.cell? ⟨b, 2, none⟩ = some (.int .i64 s) := b5.cell 2 rfl
  obtain ⟨k6, w6, v, w7, k6s, k7, x7, x6⟩ := label_sum (cT := cT) ht (x5.eq (by ac_rfl : _ = litA kA (bv reelB) * (blkA kL 5 (bv [1, rb, UInt8.ofNat t.length]) * (preA kT (bv t) * (rowA 5 1 (.slice AF 4 cF) 4 (bv (be4 s)) * (blkA b 25 [st t, .int .i64 rb.toNat, .int .i64 s] * X))))))
  have hR := hRt v w7 x7.drop2
  have c60 : w6.cell? ⟨b, 0, none⟩ = some (st t) := x6.cell 0 rfl
  have c61 : w6.cell? ⟨b, 1, none⟩ = some (.int .i64 rb.toNat) := x6.cell 1 rfl
  have c62 : w6.cell? ⟨b, 2, none⟩ = some (.int .i64 s) := x6.cell 2 rfl
  have c70 : w7.cell? ⟨b, 0, none⟩ = some (st t) := x7.swap.cell 0 rfl
  have c71 : w7.cell? ⟨b, 1, none⟩ = some (.int .i64 rb.toNat) := x7.swap.cell 1 rfl
  have c72 : w7.cell? ⟨b, 2, none⟩ = some (.int .i64 s) := x7.swap.cell 2 rfl
  have e1 := cv23 rb
  have e2 := cv3 ht
  have e3 := len9 3 ⟨t.toArray⟩
  rw [st_size] at e3
  obtain ⟨n, hn⟩ : ∃ n, n = t.length := ⟨_, rfl⟩
  rw [← hn] at e2 e3 k1 k4 k6s
  unfold f16.o24
  simp [addL, ← hw0, e1, e2, e3, c00, c01, c02, k1, c10, c11, c12, k2, c20, c21, c22, k3, c30, c31, c32, k4, c40, c41, c42, k5, c50, c51, c52, k6s, k7, c60, c61, c62, c70, c71, c72, chkThen, f16.k0, after, hR]
theorem f16_o25 {w : World} {t : List UInt8} {rb : UInt8} {s b : Nat} {Rt : List Value → World → Prop} (ht : t.length ≤ 100) (hs : s < 4294967296) (x : Sat W (blkA b 25 [st t, .int .i64 rb.toNat, .int .i64 s] * X) w) (hRt : ∀ v w', Sat W (rowA 5 1 v (t.length + 15) (bv (labelB t rb s)) * X) w' → Rt [v] w') : f16.o25 C Rt (.pointer (some ⟨b, 0, none⟩)) w := by
  have x0 := x.drew
  obtain ⟨w0, hw0⟩ : ∃ w0, w0 = w.drew := ⟨_, rfl⟩
  rw [← hw0] at x0
  have b0 := x0
  have c00 : w0.cell? ⟨b, 0, none⟩ = some (st t) := b0.cell 0 rfl
  have c01 : w0.cell? ⟨b, 1, none⟩ = some (.int .i64 rb.toNat) := b0.cell 1 rfl
  have c02 : w0.cell? ⟨b, 2, none⟩ = some (.int .i64 s) := b0.cell 2 rfl
  obtain ⟨kL, w1, k1, x1⟩ := stL x0 rb t.length ht
  have b1 := x1.eq (by ac_rfl : _ = blkA b 25 [st t, .int .i64 rb.toNat, .int .i64 s] * (blkA kL 5 (bv [1, rb, UInt8.ofNat t.length]) * X))
  have c10 : w1.cell? ⟨b, 0, none⟩ = some (st t) := b1.cell 0 rfl
  have c11 : w1.cell? ⟨b, 1, none⟩ = some (.int .i64 rb.toNat) := b1.cell 1 rfl
  have c12 : w1.cell? ⟨b, 2, none⟩ = some (.int .i64 s) := b1.cell 2 rfl
  obtain ⟨kA, w2, k2, x2⟩ := stA x1
  have b2 := x2.eq (by ac_rfl : _ = blkA b 25 [st t, .int .i64 rb.toNat, .int .i64 s] * (blkA kA 5 (bv reelB) * (blkA kL 5 (bv [1, rb, UInt8.ofNat t.length]) * X)))
  have c20 : w2.cell? ⟨b, 0, none⟩ = some (st t) := b2.cell 0 rfl
  have c21 : w2.cell? ⟨b, 1, none⟩ = some (.int .i64 rb.toNat) := b2.cell 1 rfl
  have c22 : w2.cell? ⟨b, 2, none⟩ = some (.int .i64 s) := b2.cell 2 rfl
  obtain ⟨w3, k3, x3⟩ := stB x2
  have b3 := x3.eq (by ac_rfl : _ = blkA b 25 [st t, .int .i64 rb.toNat, .int .i64 s] * (litA kA (bv reelB) * (blkA kL 5 (bv [1, rb, UInt8.ofNat t.length]) * X)))
  have c30 : w3.cell? ⟨b, 0, none⟩ = some (st t) := b3.cell 0 rfl
  have c31 : w3.cell? ⟨b, 1, none⟩ = some (.int .i64 rb.toNat) := b3.cell 1 rfl
  have c32 : w3.cell? ⟨b, 2, none⟩ = some (.int .i64 s) := b3.cell 2 rfl
  obtain ⟨AF, cF, w4, k4, x4⟩ := stF x3 hs
  have b4 := x4.eq (by ac_rfl : _ = blkA b 25 [st t, .int .i64 rb.toNat, .int .i64 s] * (rowA 5 1 (.slice AF 4 cF) 4 (bv (be4 s)) * (litA kA (bv reelB) * (blkA kL 5 (bv [1, rb, UInt8.ofNat t.length]) * X))))
  have c40 : w4.cell? ⟨b, 0, none⟩ = some (st t) := b4.cell 0 rfl
  have c41 : w4.cell? ⟨b, 1, none⟩ = some (.int .i64 rb.toNat) := b4.cell 1 rfl
  have c42 : w4.cell? ⟨b, 2, none⟩ = some (.int .i64 s) := b4.cell 2 rfl
  obtain ⟨kT, cT, w5, k5, x5⟩ := stT x4 t
  have b5 := x5.eq (by ac_rfl : _ = blkA b 25 [st t, .int .i64 rb.toNat, .int .i64 s] * (preA kT (bv t) * (rowA 5 1 (.slice AF 4 cF) 4 (bv (be4 s)) * (litA kA (bv reelB) * (blkA kL 5 (bv [1, rb, UInt8.ofNat t.length]) * X)))))
  have c50 : w5.cell? ⟨b, 0, none⟩ = some (st t) := b5.cell 0 rfl
  have c51 : w5.cell? ⟨b, 1, none⟩ = some (.int .i64 rb.toNat) := b5.cell 1 rfl
  have c52 : w5.cell? ⟨b, 2, none⟩ = some (.int .i64 s) := b5.cell 2 rfl
  obtain ⟨k6, w6, v, w7, k6s, k7, x7, x6⟩ := label_sum (cT := cT) ht (x5.eq (by ac_rfl : _ = litA kA (bv reelB) * (blkA kL 5 (bv [1, rb, UInt8.ofNat t.length]) * (preA kT (bv t) * (rowA 5 1 (.slice AF 4 cF) 4 (bv (be4 s)) * (blkA b 25 [st t, .int .i64 rb.toNat, .int .i64 s] * X))))))
  have hR := hRt v w7 x7.drop2
  have c60 : w6.cell? ⟨b, 0, none⟩ = some (st t) := x6.cell 0 rfl
  have c61 : w6.cell? ⟨b, 1, none⟩ = some (.int .i64 rb.toNat) := x6.cell 1 rfl
  have c62 : w6.cell? ⟨b, 2, none⟩ = some (.int .i64 s) := x6.cell 2 rfl
  have c70 : w7.cell? ⟨b, 0, none⟩ = some (st t) := x7.swap.cell 0 rfl
  have c71 : w7.cell? ⟨b, 1, none⟩ = some (.int .i64 rb.toNat) := x7.swap.cell 1 rfl
  have c72 : w7.cell? ⟨b, 2, none⟩ = some (.int .i64 s) := x7.swap.cell 2 rfl
  have e1 := cv23 rb
  have e2 := cv3 ht
  have e3 := len9 3 ⟨t.toArray⟩
  rw [st_size] at e3
  obtain ⟨n, hn⟩ : ∃ n, n = t.length := ⟨_, rfl⟩
  rw [← hn] at e2 e3 k1 k5 k6s
  unfold f16.o25
  simp [addL, ← hw0, e1, e2, e3, c00, c01, c02, k1, c10, c11, c12, k2, c20, c21, c22, k3, c30, c31, c32, k4, c40, c41, c42, k5, c50, c51, c52, k6s, k7, c60, c61, c62, c70, c71, c72, chkThen, f16.k0, after, hR]
theorem f16_o26 {w : World} {t : List UInt8} {rb : UInt8} {s b : Nat} {Rt : List Value → World → Prop} (ht : t.length ≤ 100) (hs : s < 4294967296) (x : Sat W (blkA b 25 [st t, .int .i64 rb.toNat, .int .i64 s] * X) w) (hRt : ∀ v w', Sat W (rowA 5 1 v (t.length + 15) (bv (labelB t rb s)) * X) w' → Rt [v] w') : f16.o26 C Rt (.pointer (some ⟨b, 0, none⟩)) w := by
  have x0 := x.drew
  obtain ⟨w0, hw0⟩ : ∃ w0, w0 = w.drew := ⟨_, rfl⟩
  rw [← hw0] at x0
  have b0 := x0
  have c00 : w0.cell? ⟨b, 0, none⟩ = some (st t) := b0.cell 0 rfl
  have c01 : w0.cell? ⟨b, 1, none⟩ = some (.int .i64 rb.toNat) := b0.cell 1 rfl
  have c02 : w0.cell? ⟨b, 2, none⟩ = some (.int .i64 s) := b0.cell 2 rfl
  obtain ⟨kL, w1, k1, x1⟩ := stL x0 rb t.length ht
  have b1 := x1.eq (by ac_rfl : _ = blkA b 25 [st t, .int .i64 rb.toNat, .int .i64 s] * (blkA kL 5 (bv [1, rb, UInt8.ofNat t.length]) * X))
  have c10 : w1.cell? ⟨b, 0, none⟩ = some (st t) := b1.cell 0 rfl
  have c11 : w1.cell? ⟨b, 1, none⟩ = some (.int .i64 rb.toNat) := b1.cell 1 rfl
  have c12 : w1.cell? ⟨b, 2, none⟩ = some (.int .i64 s) := b1.cell 2 rfl
  obtain ⟨kA, w2, k2, x2⟩ := stA x1
  have b2 := x2.eq (by ac_rfl : _ = blkA b 25 [st t, .int .i64 rb.toNat, .int .i64 s] * (blkA kA 5 (bv reelB) * (blkA kL 5 (bv [1, rb, UInt8.ofNat t.length]) * X)))
  have c20 : w2.cell? ⟨b, 0, none⟩ = some (st t) := b2.cell 0 rfl
  have c21 : w2.cell? ⟨b, 1, none⟩ = some (.int .i64 rb.toNat) := b2.cell 1 rfl
  have c22 : w2.cell? ⟨b, 2, none⟩ = some (.int .i64 s) := b2.cell 2 rfl
  obtain ⟨kT, cT, w3, k3, x3⟩ := stT x2 t
  have b3 := x3.eq (by ac_rfl : _ = blkA b 25 [st t, .int .i64 rb.toNat, .int .i64 s] * (preA kT (bv t) * (blkA kA 5 (bv reelB) * (blkA kL 5 (bv [1, rb, UInt8.ofNat t.length]) * X))))
  have c30 : w3.cell? ⟨b, 0, none⟩ = some (st t) := b3.cell 0 rfl
  have c31 : w3.cell? ⟨b, 1, none⟩ = some (.int .i64 rb.toNat) := b3.cell 1 rfl
  have c32 : w3.cell? ⟨b, 2, none⟩ = some (.int .i64 s) := b3.cell 2 rfl
  obtain ⟨w4, k4, x4⟩ := stB (x3.eq (by ac_rfl : _ = blkA kA 5 (bv reelB) * (preA kT (bv t) * (blkA kL 5 (bv [1, rb, UInt8.ofNat t.length]) * (blkA b 25 [st t, .int .i64 rb.toNat, .int .i64 s] * X)))))
  have b4 := x4.eq (by ac_rfl : _ = blkA b 25 [st t, .int .i64 rb.toNat, .int .i64 s] * (litA kA (bv reelB) * (preA kT (bv t) * (blkA kL 5 (bv [1, rb, UInt8.ofNat t.length]) * X))))
  have c40 : w4.cell? ⟨b, 0, none⟩ = some (st t) := b4.cell 0 rfl
  have c41 : w4.cell? ⟨b, 1, none⟩ = some (.int .i64 rb.toNat) := b4.cell 1 rfl
  have c42 : w4.cell? ⟨b, 2, none⟩ = some (.int .i64 s) := b4.cell 2 rfl
  obtain ⟨AF, cF, w5, k5, x5⟩ := stF x4 hs
  have b5 := x5.eq (by ac_rfl : _ = blkA b 25 [st t, .int .i64 rb.toNat, .int .i64 s] * (rowA 5 1 (.slice AF 4 cF) 4 (bv (be4 s)) * (litA kA (bv reelB) * (preA kT (bv t) * (blkA kL 5 (bv [1, rb, UInt8.ofNat t.length]) * X)))))
  have c50 : w5.cell? ⟨b, 0, none⟩ = some (st t) := b5.cell 0 rfl
  have c51 : w5.cell? ⟨b, 1, none⟩ = some (.int .i64 rb.toNat) := b5.cell 1 rfl
  have c52 : w5.cell? ⟨b, 2, none⟩ = some (.int .i64 s) := b5.cell 2 rfl
  obtain ⟨k6, w6, v, w7, k6s, k7, x7, x6⟩ := label_sum (cT := cT) ht (x5.eq (by ac_rfl : _ = litA kA (bv reelB) * (blkA kL 5 (bv [1, rb, UInt8.ofNat t.length]) * (preA kT (bv t) * (rowA 5 1 (.slice AF 4 cF) 4 (bv (be4 s)) * (blkA b 25 [st t, .int .i64 rb.toNat, .int .i64 s] * X))))))
  have hR := hRt v w7 x7.drop2
  have c60 : w6.cell? ⟨b, 0, none⟩ = some (st t) := x6.cell 0 rfl
  have c61 : w6.cell? ⟨b, 1, none⟩ = some (.int .i64 rb.toNat) := x6.cell 1 rfl
  have c62 : w6.cell? ⟨b, 2, none⟩ = some (.int .i64 s) := x6.cell 2 rfl
  have c70 : w7.cell? ⟨b, 0, none⟩ = some (st t) := x7.swap.cell 0 rfl
  have c71 : w7.cell? ⟨b, 1, none⟩ = some (.int .i64 rb.toNat) := x7.swap.cell 1 rfl
  have c72 : w7.cell? ⟨b, 2, none⟩ = some (.int .i64 s) := x7.swap.cell 2 rfl
  have e1 := cv23 rb
  have e2 := cv3 ht
  have e3 := len9 3 ⟨t.toArray⟩
  rw [st_size] at e3
  obtain ⟨n, hn⟩ : ∃ n, n = t.length := ⟨_, rfl⟩
  rw [← hn] at e2 e3 k1 k3 k6s
  unfold f16.o26
  simp [addL, ← hw0, e1, e2, e3, c00, c01, c02, k1, c10, c11, c12, k2, c20, c21, c22, k3, c30, c31, c32, k4, c40, c41, c42, k5, c50, c51, c52, k6s, k7, c60, c61, c62, c70, c71, c72, chkThen, f16.k0, after, hR]
theorem f16_o27 {w : World} {t : List UInt8} {rb : UInt8} {s b : Nat} {Rt : List Value → World → Prop} (ht : t.length ≤ 100) (hs : s < 4294967296) (x : Sat W (blkA b 25 [st t, .int .i64 rb.toNat, .int .i64 s] * X) w) (hRt : ∀ v w', Sat W (rowA 5 1 v (t.length + 15) (bv (labelB t rb s)) * X) w' → Rt [v] w') : f16.o27 C Rt (.pointer (some ⟨b, 0, none⟩)) w := by
  have x0 := x.drew
  obtain ⟨w0, hw0⟩ : ∃ w0, w0 = w.drew := ⟨_, rfl⟩
  rw [← hw0] at x0
  have b0 := x0
  have c00 : w0.cell? ⟨b, 0, none⟩ = some (st t) := b0.cell 0 rfl
  have c01 : w0.cell? ⟨b, 1, none⟩ = some (.int .i64 rb.toNat) := b0.cell 1 rfl
  have c02 : w0.cell? ⟨b, 2, none⟩ = some (.int .i64 s) := b0.cell 2 rfl
  obtain ⟨kL, w1, k1, x1⟩ := stL x0 rb t.length ht
  have b1 := x1.eq (by ac_rfl : _ = blkA b 25 [st t, .int .i64 rb.toNat, .int .i64 s] * (blkA kL 5 (bv [1, rb, UInt8.ofNat t.length]) * X))
  have c10 : w1.cell? ⟨b, 0, none⟩ = some (st t) := b1.cell 0 rfl
  have c11 : w1.cell? ⟨b, 1, none⟩ = some (.int .i64 rb.toNat) := b1.cell 1 rfl
  have c12 : w1.cell? ⟨b, 2, none⟩ = some (.int .i64 s) := b1.cell 2 rfl
  obtain ⟨kA, w2, k2, x2⟩ := stA x1
  have b2 := x2.eq (by ac_rfl : _ = blkA b 25 [st t, .int .i64 rb.toNat, .int .i64 s] * (blkA kA 5 (bv reelB) * (blkA kL 5 (bv [1, rb, UInt8.ofNat t.length]) * X)))
  have c20 : w2.cell? ⟨b, 0, none⟩ = some (st t) := b2.cell 0 rfl
  have c21 : w2.cell? ⟨b, 1, none⟩ = some (.int .i64 rb.toNat) := b2.cell 1 rfl
  have c22 : w2.cell? ⟨b, 2, none⟩ = some (.int .i64 s) := b2.cell 2 rfl
  obtain ⟨kT, cT, w3, k3, x3⟩ := stT x2 t
  have b3 := x3.eq (by ac_rfl : _ = blkA b 25 [st t, .int .i64 rb.toNat, .int .i64 s] * (preA kT (bv t) * (blkA kA 5 (bv reelB) * (blkA kL 5 (bv [1, rb, UInt8.ofNat t.length]) * X))))
  have c30 : w3.cell? ⟨b, 0, none⟩ = some (st t) := b3.cell 0 rfl
  have c31 : w3.cell? ⟨b, 1, none⟩ = some (.int .i64 rb.toNat) := b3.cell 1 rfl
  have c32 : w3.cell? ⟨b, 2, none⟩ = some (.int .i64 s) := b3.cell 2 rfl
  obtain ⟨AF, cF, w4, k4, x4⟩ := stF x3 hs
  have b4 := x4.eq (by ac_rfl : _ = blkA b 25 [st t, .int .i64 rb.toNat, .int .i64 s] * (rowA 5 1 (.slice AF 4 cF) 4 (bv (be4 s)) * (preA kT (bv t) * (blkA kA 5 (bv reelB) * (blkA kL 5 (bv [1, rb, UInt8.ofNat t.length]) * X)))))
  have c40 : w4.cell? ⟨b, 0, none⟩ = some (st t) := b4.cell 0 rfl
  have c41 : w4.cell? ⟨b, 1, none⟩ = some (.int .i64 rb.toNat) := b4.cell 1 rfl
  have c42 : w4.cell? ⟨b, 2, none⟩ = some (.int .i64 s) := b4.cell 2 rfl
  obtain ⟨w5, k5, x5⟩ := stB (x4.eq (by ac_rfl : _ = blkA kA 5 (bv reelB) * (rowA 5 1 (.slice AF 4 cF) 4 (bv (be4 s)) * (preA kT (bv t) * (blkA kL 5 (bv [1, rb, UInt8.ofNat t.length]) * (blkA b 25 [st t, .int .i64 rb.toNat, .int .i64 s] * X))))))
  have b5 := x5.eq (by ac_rfl : _ = blkA b 25 [st t, .int .i64 rb.toNat, .int .i64 s] * (litA kA (bv reelB) * (rowA 5 1 (.slice AF 4 cF) 4 (bv (be4 s)) * (preA kT (bv t) * (blkA kL 5 (bv [1, rb, UInt8.ofNat t.length]) * X)))))
  have c50 : w5.cell? ⟨b, 0, none⟩ = some (st t) := b5.cell 0 rfl
  have c51 : w5.cell? ⟨b, 1, none⟩ = some (.int .i64 rb.toNat) := b5.cell 1 rfl
  have c52 : w5.cell? ⟨b, 2, none⟩ = some (.int .i64 s) := b5.cell 2 rfl
  obtain ⟨k6, w6, v, w7, k6s, k7, x7, x6⟩ := label_sum (cT := cT) ht (x5.eq (by ac_rfl : _ = litA kA (bv reelB) * (blkA kL 5 (bv [1, rb, UInt8.ofNat t.length]) * (preA kT (bv t) * (rowA 5 1 (.slice AF 4 cF) 4 (bv (be4 s)) * (blkA b 25 [st t, .int .i64 rb.toNat, .int .i64 s] * X))))))
  have hR := hRt v w7 x7.drop2
  have c60 : w6.cell? ⟨b, 0, none⟩ = some (st t) := x6.cell 0 rfl
  have c61 : w6.cell? ⟨b, 1, none⟩ = some (.int .i64 rb.toNat) := x6.cell 1 rfl
  have c62 : w6.cell? ⟨b, 2, none⟩ = some (.int .i64 s) := x6.cell 2 rfl
  have c70 : w7.cell? ⟨b, 0, none⟩ = some (st t) := x7.swap.cell 0 rfl
  have c71 : w7.cell? ⟨b, 1, none⟩ = some (.int .i64 rb.toNat) := x7.swap.cell 1 rfl
  have c72 : w7.cell? ⟨b, 2, none⟩ = some (.int .i64 s) := x7.swap.cell 2 rfl
  have e1 := cv23 rb
  have e2 := cv3 ht
  have e3 := len9 3 ⟨t.toArray⟩
  rw [st_size] at e3
  obtain ⟨n, hn⟩ : ∃ n, n = t.length := ⟨_, rfl⟩
  rw [← hn] at e2 e3 k1 k3 k6s
  unfold f16.o27
  simp [addL, ← hw0, e1, e2, e3, c00, c01, c02, k1, c10, c11, c12, k2, c20, c21, c22, k3, c30, c31, c32, k4, c40, c41, c42, k5, c50, c51, c52, k6s, k7, c60, c61, c62, c70, c71, c72, chkThen, f16.k0, after, hR]
theorem f16_o28 {w : World} {t : List UInt8} {rb : UInt8} {s b : Nat} {Rt : List Value → World → Prop} (ht : t.length ≤ 100) (hs : s < 4294967296) (x : Sat W (blkA b 25 [st t, .int .i64 rb.toNat, .int .i64 s] * X) w) (hRt : ∀ v w', Sat W (rowA 5 1 v (t.length + 15) (bv (labelB t rb s)) * X) w' → Rt [v] w') : f16.o28 C Rt (.pointer (some ⟨b, 0, none⟩)) w := by
  have x0 := x.drew
  obtain ⟨w0, hw0⟩ : ∃ w0, w0 = w.drew := ⟨_, rfl⟩
  rw [← hw0] at x0
  have b0 := x0
  have c00 : w0.cell? ⟨b, 0, none⟩ = some (st t) := b0.cell 0 rfl
  have c01 : w0.cell? ⟨b, 1, none⟩ = some (.int .i64 rb.toNat) := b0.cell 1 rfl
  have c02 : w0.cell? ⟨b, 2, none⟩ = some (.int .i64 s) := b0.cell 2 rfl
  obtain ⟨kL, w1, k1, x1⟩ := stL x0 rb t.length ht
  have b1 := x1.eq (by ac_rfl : _ = blkA b 25 [st t, .int .i64 rb.toNat, .int .i64 s] * (blkA kL 5 (bv [1, rb, UInt8.ofNat t.length]) * X))
  have c10 : w1.cell? ⟨b, 0, none⟩ = some (st t) := b1.cell 0 rfl
  have c11 : w1.cell? ⟨b, 1, none⟩ = some (.int .i64 rb.toNat) := b1.cell 1 rfl
  have c12 : w1.cell? ⟨b, 2, none⟩ = some (.int .i64 s) := b1.cell 2 rfl
  obtain ⟨kA, w2, k2, x2⟩ := stA x1
  have b2 := x2.eq (by ac_rfl : _ = blkA b 25 [st t, .int .i64 rb.toNat, .int .i64 s] * (blkA kA 5 (bv reelB) * (blkA kL 5 (bv [1, rb, UInt8.ofNat t.length]) * X)))
  have c20 : w2.cell? ⟨b, 0, none⟩ = some (st t) := b2.cell 0 rfl
  have c21 : w2.cell? ⟨b, 1, none⟩ = some (.int .i64 rb.toNat) := b2.cell 1 rfl
  have c22 : w2.cell? ⟨b, 2, none⟩ = some (.int .i64 s) := b2.cell 2 rfl
  obtain ⟨AF, cF, w3, k3, x3⟩ := stF x2 hs
  have b3 := x3.eq (by ac_rfl : _ = blkA b 25 [st t, .int .i64 rb.toNat, .int .i64 s] * (rowA 5 1 (.slice AF 4 cF) 4 (bv (be4 s)) * (blkA kA 5 (bv reelB) * (blkA kL 5 (bv [1, rb, UInt8.ofNat t.length]) * X))))
  have c30 : w3.cell? ⟨b, 0, none⟩ = some (st t) := b3.cell 0 rfl
  have c31 : w3.cell? ⟨b, 1, none⟩ = some (.int .i64 rb.toNat) := b3.cell 1 rfl
  have c32 : w3.cell? ⟨b, 2, none⟩ = some (.int .i64 s) := b3.cell 2 rfl
  obtain ⟨w4, k4, x4⟩ := stB (x3.eq (by ac_rfl : _ = blkA kA 5 (bv reelB) * (rowA 5 1 (.slice AF 4 cF) 4 (bv (be4 s)) * (blkA kL 5 (bv [1, rb, UInt8.ofNat t.length]) * (blkA b 25 [st t, .int .i64 rb.toNat, .int .i64 s] * X)))))
  have b4 := x4.eq (by ac_rfl : _ = blkA b 25 [st t, .int .i64 rb.toNat, .int .i64 s] * (litA kA (bv reelB) * (rowA 5 1 (.slice AF 4 cF) 4 (bv (be4 s)) * (blkA kL 5 (bv [1, rb, UInt8.ofNat t.length]) * X))))
  have c40 : w4.cell? ⟨b, 0, none⟩ = some (st t) := b4.cell 0 rfl
  have c41 : w4.cell? ⟨b, 1, none⟩ = some (.int .i64 rb.toNat) := b4.cell 1 rfl
  have c42 : w4.cell? ⟨b, 2, none⟩ = some (.int .i64 s) := b4.cell 2 rfl
  obtain ⟨kT, cT, w5, k5, x5⟩ := stT x4 t
  have b5 := x5.eq (by ac_rfl : _ = blkA b 25 [st t, .int .i64 rb.toNat, .int .i64 s] * (preA kT (bv t) * (litA kA (bv reelB) * (rowA 5 1 (.slice AF 4 cF) 4 (bv (be4 s)) * (blkA kL 5 (bv [1, rb, UInt8.ofNat t.length]) * X)))))
  have c50 : w5.cell? ⟨b, 0, none⟩ = some (st t) := b5.cell 0 rfl
  have c51 : w5.cell? ⟨b, 1, none⟩ = some (.int .i64 rb.toNat) := b5.cell 1 rfl
  have c52 : w5.cell? ⟨b, 2, none⟩ = some (.int .i64 s) := b5.cell 2 rfl
  obtain ⟨k6, w6, v, w7, k6s, k7, x7, x6⟩ := label_sum (cT := cT) ht (x5.eq (by ac_rfl : _ = litA kA (bv reelB) * (blkA kL 5 (bv [1, rb, UInt8.ofNat t.length]) * (preA kT (bv t) * (rowA 5 1 (.slice AF 4 cF) 4 (bv (be4 s)) * (blkA b 25 [st t, .int .i64 rb.toNat, .int .i64 s] * X))))))
  have hR := hRt v w7 x7.drop2
  have c60 : w6.cell? ⟨b, 0, none⟩ = some (st t) := x6.cell 0 rfl
  have c61 : w6.cell? ⟨b, 1, none⟩ = some (.int .i64 rb.toNat) := x6.cell 1 rfl
  have c62 : w6.cell? ⟨b, 2, none⟩ = some (.int .i64 s) := x6.cell 2 rfl
  have c70 : w7.cell? ⟨b, 0, none⟩ = some (st t) := x7.swap.cell 0 rfl
  have c71 : w7.cell? ⟨b, 1, none⟩ = some (.int .i64 rb.toNat) := x7.swap.cell 1 rfl
  have c72 : w7.cell? ⟨b, 2, none⟩ = some (.int .i64 s) := x7.swap.cell 2 rfl
  have e1 := cv23 rb
  have e2 := cv3 ht
  have e3 := len9 3 ⟨t.toArray⟩
  rw [st_size] at e3
  obtain ⟨n, hn⟩ : ∃ n, n = t.length := ⟨_, rfl⟩
  rw [← hn] at e2 e3 k1 k5 k6s
  unfold f16.o28
  simp [addL, ← hw0, e1, e2, e3, c00, c01, c02, k1, c10, c11, c12, k2, c20, c21, c22, k3, c30, c31, c32, k4, c40, c41, c42, k5, c50, c51, c52, k6s, k7, c60, c61, c62, c70, c71, c72, chkThen, f16.k0, after, hR]
theorem f16_o29 {w : World} {t : List UInt8} {rb : UInt8} {s b : Nat} {Rt : List Value → World → Prop} (ht : t.length ≤ 100) (hs : s < 4294967296) (x : Sat W (blkA b 25 [st t, .int .i64 rb.toNat, .int .i64 s] * X) w) (hRt : ∀ v w', Sat W (rowA 5 1 v (t.length + 15) (bv (labelB t rb s)) * X) w' → Rt [v] w') : f16.o29 C Rt (.pointer (some ⟨b, 0, none⟩)) w := by
  have x0 := x.drew
  obtain ⟨w0, hw0⟩ : ∃ w0, w0 = w.drew := ⟨_, rfl⟩
  rw [← hw0] at x0
  have b0 := x0
  have c00 : w0.cell? ⟨b, 0, none⟩ = some (st t) := b0.cell 0 rfl
  have c01 : w0.cell? ⟨b, 1, none⟩ = some (.int .i64 rb.toNat) := b0.cell 1 rfl
  have c02 : w0.cell? ⟨b, 2, none⟩ = some (.int .i64 s) := b0.cell 2 rfl
  obtain ⟨kL, w1, k1, x1⟩ := stL x0 rb t.length ht
  have b1 := x1.eq (by ac_rfl : _ = blkA b 25 [st t, .int .i64 rb.toNat, .int .i64 s] * (blkA kL 5 (bv [1, rb, UInt8.ofNat t.length]) * X))
  have c10 : w1.cell? ⟨b, 0, none⟩ = some (st t) := b1.cell 0 rfl
  have c11 : w1.cell? ⟨b, 1, none⟩ = some (.int .i64 rb.toNat) := b1.cell 1 rfl
  have c12 : w1.cell? ⟨b, 2, none⟩ = some (.int .i64 s) := b1.cell 2 rfl
  obtain ⟨kA, w2, k2, x2⟩ := stA x1
  have b2 := x2.eq (by ac_rfl : _ = blkA b 25 [st t, .int .i64 rb.toNat, .int .i64 s] * (blkA kA 5 (bv reelB) * (blkA kL 5 (bv [1, rb, UInt8.ofNat t.length]) * X)))
  have c20 : w2.cell? ⟨b, 0, none⟩ = some (st t) := b2.cell 0 rfl
  have c21 : w2.cell? ⟨b, 1, none⟩ = some (.int .i64 rb.toNat) := b2.cell 1 rfl
  have c22 : w2.cell? ⟨b, 2, none⟩ = some (.int .i64 s) := b2.cell 2 rfl
  obtain ⟨AF, cF, w3, k3, x3⟩ := stF x2 hs
  have b3 := x3.eq (by ac_rfl : _ = blkA b 25 [st t, .int .i64 rb.toNat, .int .i64 s] * (rowA 5 1 (.slice AF 4 cF) 4 (bv (be4 s)) * (blkA kA 5 (bv reelB) * (blkA kL 5 (bv [1, rb, UInt8.ofNat t.length]) * X))))
  have c30 : w3.cell? ⟨b, 0, none⟩ = some (st t) := b3.cell 0 rfl
  have c31 : w3.cell? ⟨b, 1, none⟩ = some (.int .i64 rb.toNat) := b3.cell 1 rfl
  have c32 : w3.cell? ⟨b, 2, none⟩ = some (.int .i64 s) := b3.cell 2 rfl
  obtain ⟨kT, cT, w4, k4, x4⟩ := stT x3 t
  have b4 := x4.eq (by ac_rfl : _ = blkA b 25 [st t, .int .i64 rb.toNat, .int .i64 s] * (preA kT (bv t) * (rowA 5 1 (.slice AF 4 cF) 4 (bv (be4 s)) * (blkA kA 5 (bv reelB) * (blkA kL 5 (bv [1, rb, UInt8.ofNat t.length]) * X)))))
  have c40 : w4.cell? ⟨b, 0, none⟩ = some (st t) := b4.cell 0 rfl
  have c41 : w4.cell? ⟨b, 1, none⟩ = some (.int .i64 rb.toNat) := b4.cell 1 rfl
  have c42 : w4.cell? ⟨b, 2, none⟩ = some (.int .i64 s) := b4.cell 2 rfl
  obtain ⟨w5, k5, x5⟩ := stB (x4.eq (by ac_rfl : _ = blkA kA 5 (bv reelB) * (preA kT (bv t) * (rowA 5 1 (.slice AF 4 cF) 4 (bv (be4 s)) * (blkA kL 5 (bv [1, rb, UInt8.ofNat t.length]) * (blkA b 25 [st t, .int .i64 rb.toNat, .int .i64 s] * X))))))
  have b5 := x5.eq (by ac_rfl : _ = blkA b 25 [st t, .int .i64 rb.toNat, .int .i64 s] * (litA kA (bv reelB) * (preA kT (bv t) * (rowA 5 1 (.slice AF 4 cF) 4 (bv (be4 s)) * (blkA kL 5 (bv [1, rb, UInt8.ofNat t.length]) * X)))))
  have c50 : w5.cell? ⟨b, 0, none⟩ = some (st t) := b5.cell 0 rfl
  have c51 : w5.cell? ⟨b, 1, none⟩ = some (.int .i64 rb.toNat) := b5.cell 1 rfl
  have c52 : w5.cell? ⟨b, 2, none⟩ = some (.int .i64 s) := b5.cell 2 rfl
  obtain ⟨k6, w6, v, w7, k6s, k7, x7, x6⟩ := label_sum (cT := cT) ht (x5.eq (by ac_rfl : _ = litA kA (bv reelB) * (blkA kL 5 (bv [1, rb, UInt8.ofNat t.length]) * (preA kT (bv t) * (rowA 5 1 (.slice AF 4 cF) 4 (bv (be4 s)) * (blkA b 25 [st t, .int .i64 rb.toNat, .int .i64 s] * X))))))
  have hR := hRt v w7 x7.drop2
  have c60 : w6.cell? ⟨b, 0, none⟩ = some (st t) := x6.cell 0 rfl
  have c61 : w6.cell? ⟨b, 1, none⟩ = some (.int .i64 rb.toNat) := x6.cell 1 rfl
  have c62 : w6.cell? ⟨b, 2, none⟩ = some (.int .i64 s) := x6.cell 2 rfl
  have c70 : w7.cell? ⟨b, 0, none⟩ = some (st t) := x7.swap.cell 0 rfl
  have c71 : w7.cell? ⟨b, 1, none⟩ = some (.int .i64 rb.toNat) := x7.swap.cell 1 rfl
  have c72 : w7.cell? ⟨b, 2, none⟩ = some (.int .i64 s) := x7.swap.cell 2 rfl
  have e1 := cv23 rb
  have e2 := cv3 ht
  have e3 := len9 3 ⟨t.toArray⟩
  rw [st_size] at e3
  obtain ⟨n, hn⟩ : ∃ n, n = t.length := ⟨_, rfl⟩
  rw [← hn] at e2 e3 k1 k4 k6s
  unfold f16.o29
  simp [addL, ← hw0, e1, e2, e3, c00, c01, c02, k1, c10, c11, c12, k2, c20, c21, c22, k3, c30, c31, c32, k4, c40, c41, c42, k5, c50, c51, c52, k6s, k7, c60, c61, c62, c70, c71, c72, chkThen, f16.k0, after, hR]
end
end Go.Sh.YtodkllcibbidoaaDoor

