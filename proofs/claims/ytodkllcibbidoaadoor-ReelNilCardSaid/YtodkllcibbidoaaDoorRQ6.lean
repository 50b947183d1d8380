/- reel: a label's bytes, the orders of its effects (30 to 39). Printed by a program of this session's own. Conditions: those of each statement. -/
import Derived.Test.YtodkllcibbidoaaDoorRQ4
import Derived.Test.YtodkllcibbidoaaDoorRQ5
namespace Go.Sh.YtodkllcibbidoaaDoor
open Go Go.Proofs Go.RowKit Go.Lib
set_option linter.unusedVariables false
set_option linter.unusedSimpArgs false
set_option maxRecDepth 100000
section
variable {W : World} {X : Asn W.heap.size}
theorem f16_o30 {w : World} {t : List UInt8} {rb : UInt8} {s b : Nat} {Rt : List Value → World → Prop} (ht : t.length ≤ 100) (hs : s < 4294967296) (x : Sat W (blkA b 25 [st t, .int .i64 rb.toNat, .int .i64 s] * X) w) (hRt : ∀ v w', Sat W (rowA 5 1 v (t.length + 15) (bv (labelB t rb s)) * X) w' → Rt [v] w') : f16.o30 C Rt (.pointer (some ⟨b, 0, none⟩)) w := by
  have x0 := x.drew
  obtain ⟨w0, hw0⟩ : ∃ w0, w0 = w.drew := ⟨_, rfl⟩
  rw [← hw0] at x0
  have b0 := x0
  have c00 : w0.cell? ⟨b, 0, none⟩ = some (st t) := b0.cell 0 rfl
  have c01 : w0.cell? ⟨b, 1, none⟩ = some (.int .i64 rb.toNat) := b0.cell 1 rfl
  have c02 : w0.cell? ⟨b, 2, none⟩ = some (.int .i64 s) := b0.cell 2 rfl
  obtain ⟨kL, w1, k1, x1⟩ := stL x0 rb t.length ht
  have b1 := x1.eq (by ac_rfl : _ = blkA b 25 [st t, .int .i64 rb.toNat, .int .i64 s] * (blkA kL 5 (bv [1, rb, UInt8.ofNat t.length]) * X))
  have c10 : w1.cell? ⟨b, 0, none⟩ = some (st t) := b1.cell 0 rfl
  have c11 : w1.cell? ⟨b, 1, none⟩ = some (.int .i64 rb.toNat) := b1.cell 1 rfl
  have c12 : w1.cell? ⟨b, 2, none⟩ = some (.int .i64 s) := b1.cell 2 rfl
  obtain ⟨kT, cT, w2, k2, x2⟩ := stT x1 t
  have b2 := x2.eq (by ac_rfl : _ = blkA b 25 [st t, .int .i64 rb.toNat, .int .i64 s] * (preA kT (bv t) * (blkA kL 5 (bv [1, rb, UInt8.ofNat t.length]) * X)))
  have c20 : w2.cell? ⟨b, 0, none⟩ = some (st t) := b2.cell 0 rfl
  have c21 : w2.cell? ⟨b, 1, none⟩ = some (.int .i64 rb.toNat) := b2.cell 1 rfl
  have c22 : w2.cell? ⟨b, 2, none⟩ = some (.int .i64 s) := b2.cell 2 rfl
  obtain ⟨kA, w3, k3, x3⟩ := stA x2
  have b3 := x3.eq (by ac_rfl : _ = blkA b 25 [st t, .int .i64 rb.toNat, .int .i64 s] * (blkA kA 5 (bv reelB) * (preA kT (bv t) * (blkA kL 5 (bv [1, rb, UInt8.ofNat t.length]) * X))))
  have c30 : w3.cell? ⟨b, 0, none⟩ = some (st t) := b3.cell 0 rfl
  have c31 : w3.cell? ⟨b, 1, none⟩ = some (.int .i64 rb.toNat) := b3.cell 1 rfl
  have c32 : w3.cell? ⟨b, 2, none⟩ = some (.int .i64 s) := b3.cell 2 rfl
  obtain ⟨w4, k4, x4⟩ := stB x3
  have b4 := x4.eq (by ac_rfl : _ = blkA b 25 [st t, .int .i64 rb.toNat, .int .i64 s] * (litA kA (bv reelB) * (preA kT (bv t) * (blkA kL 5 (bv [1, rb, UInt8.ofNat t.length]) * X))))
  have c40 : w4.cell? ⟨b, 0, none⟩ = some (st t) := b4.cell 0 rfl
  have c41 : w4.cell? ⟨b, 1, none⟩ = some (.int .i64 rb.toNat) := b4.cell 1 rfl
  have c42 : w4.cell? ⟨b, 2, none⟩ = some (.int .i64 s) := b4.cell 2 rfl
  obtain ⟨AF, cF, w5, k5, x5⟩ := stF x4 hs
  have b5 := x5.eq (by ac_rfl : _ = blkA b 25 [st t, .int .i64 rb.toNat, .int .i64 s] * (rowA 5 1 (.slice AF 4 cF) 4 (bv (be4 s)) * (litA kA (bv reelB) * (preA kT (bv t) * (blkA kL 5 (bv [1, rb, UInt8.ofNat t.length]) * X)))))
  have c50 : w5.cell? ⟨b, 0, none⟩ = some (st t) := b5.cell 0 rfl
  have c51 : w5.cell? ⟨b, 1, none⟩ = some (.int .i64 rb.toNat) := b5.cell 1 rfl
  have c52 : w5.cell? ⟨b, 2, none⟩ = some (.int .i64 s) := b5.cell 2 rfl
  obtain ⟨k6, w6, v, w7, k6s, k7, x7, x6⟩ := label_sum (cT := cT) ht (x5.eq (by ac_rfl : _ = litA kA (bv reelB) * (blkA kL 5 (bv [1, rb, UInt8.ofNat t.length]) * (preA kT (bv t) * (rowA 5 1 (.slice AF 4 cF) 4 (bv (be4 s)) * (blkA b 25 [st t, .int .i64 rb.toNat, .int .i64 s] * X))))))
  have hR := hRt v w7 x7.drop2
  have c60 : w6.cell? ⟨b, 0, none⟩ = some (st t) := x6.cell 0 rfl
  have c61 : w6.cell? ⟨b, 1, none⟩ = some (.int .i64 rb.toNat) := x6.cell 1 rfl
  have c62 : w6.cell? ⟨b, 2, none⟩ = some (.int .i64 s) := x6.cell 2 rfl
  have c70 : w7.cell? ⟨b, 0, none⟩ = some (st t) := x7.swap.cell 0 rfl
  have c71 : w7.cell? ⟨b, 1, none⟩ = some (.int .i64 rb.toNat) := x7.swap.cell 1 rfl
  have c72 : w7.cell? ⟨b, 2, none⟩ = some (.int .i64 s) := x7.swap.cell 2 rfl
  have e1 := cv23 rb
  have e2 := cv3 ht
  have e3 := len9 3 ⟨t.toArray⟩
  rw [st_size] at e3
  obtain ⟨n, hn⟩ : ∃ n, n = t.length := ⟨_, rfl⟩
  rw [← hn] at e2 e3 k1 k2 k6s
  unfold f16.o30
  simp [addL, ← hw0, e1, e2, e3, c00, c01, c02, k1, c10, c11, c12, k2, c20, c21, c22, k3, c30, c31, c32, k4, c40, c41, c42, k5, c50, c51, c52, k6s, k7, c60, c61, c62, c70, c71, c72, chkThen, f16.k0, after, hR]
theorem f16_o31 {w : World} {t : List UInt8} {rb : UInt8} {s b : Nat} {Rt : List Value → World → Prop} (ht : t.length ≤ 100) (hs : s < 4294967296) (x : Sat W (blkA b 25 [st t, .int .i64 rb.toNat, .int .i64 s] * X) w) (hRt : ∀ v w', Sat W (rowA 5 1 v (t.length + 15) (bv (labelB t rb s)) * X) w' → Rt [v] w') : f16.o31 C Rt (.pointer (some ⟨b, 0, none⟩)) w := by
  have x0 := x.drew
  obtain ⟨w0, hw0⟩ : ∃ w0, w0 = w.drew := ⟨_, rfl⟩
  rw [← hw0] at x0
  have b0 := x0
  have c00 : w0.cell? ⟨b, 0, none⟩ = some (st t) := b0.cell 0 rfl
  have c01 : w0.cell? ⟨b, 1, none⟩ = some (.int .i64 rb.toNat) := b0.cell 1 rfl
  have c02 : w0.cell? ⟨b, 2, none⟩ = some (.int .i64 s) := b0.cell 2 rfl
  obtain ⟨kL, w1, k1, x1⟩ := stL x0 rb t.length ht
  have b1 := x1.eq (by ac_rfl : _ = blkA b 25 [st t, .int .i64 rb.toNat, .int .i64 s] * (blkA kL 5 (bv [1, rb, UInt8.ofNat t.length]) * X))
  have c10 : w1.cell? ⟨b, 0, none⟩ = some (st t) := b1.cell 0 rfl
  have c11 : w1.cell? ⟨b, 1, none⟩ = some (.int .i64 rb.toNat) := b1.cell 1 rfl
  have c12 : w1.cell? ⟨b, 2, none⟩ = some (.int .i64 s) := b1.cell 2 rfl
  obtain ⟨kT, cT, w2, k2, x2⟩ := stT x1 t
  have b2 := x2.eq (by ac_rfl : _ = blkA b 25 [st t, .int .i64 rb.toNat, .int .i64 s] * (preA kT (bv t) * (blkA kL 5 (bv [1, rb, UInt8.ofNat t.length]) * X)))
  have c20 : w2.cell? ⟨b, 0, none⟩ = some (st t) := b2.cell 0 rfl
  have c21 : w2.cell? ⟨b, 1, none⟩ = some (.int .i64 rb.toNat) := b2.cell 1 rfl
  have c22 : w2.cell? ⟨b, 2, none⟩ = some (.int .i64 s) := b2.cell 2 rfl
  obtain ⟨kA, w3, k3, x3⟩ := stA x2
  have b3 := x3.eq (by ac_rfl : _ = blkA b 25 [st t, .int .i64 rb.toNat, .int .i64 s] * (blkA kA 5 (bv reelB) * (preA kT (bv t) * (blkA kL 5 (bv [1, rb, UInt8.ofNat t.length]) * X))))
  have c30 : w3.cell? ⟨b, 0, none⟩ = some (st t) := b3.cell 0 rfl
  have c31 : w3.cell? ⟨b, 1, none⟩ = some (.int .i64 rb.toNat) := b3.cell 1 rfl
  have c32 : w3.cell? ⟨b, 2, none⟩ = some (.int .i64 s) := b3.cell 2 rfl
  obtain ⟨AF, cF, w4, k4, x4⟩ := stF x3 hs
  have b4 := x4.eq (by ac_rfl : _ = blkA b 25 [st t, .int .i64 rb.toNat, .int .i64 s] * (rowA 5 1 (.slice AF 4 cF) 4 (bv (be4 s)) * (blkA kA 5 (bv reelB) * (preA kT (bv t) * (blkA kL 5 (bv [1, rb, UInt8.ofNat t.length]) * X)))))
  have c40 : w4.cell? ⟨b, 0, none⟩ = some (st t) := b4.cell 0 rfl
  have c41 : w4.cell? ⟨b, 1, none⟩ = some (.int .i64 rb.toNat) := b4.cell 1 rfl
  have c42 : w4.cell? ⟨b, 2, none⟩ = some (.int .i64 s) := b4.cell 2 rfl
  obtain ⟨w5, k5, x5⟩ := stB (x4.eq (by ac_rfl : _ = blkA kA 5 (bv reelB) * (rowA 5 1 (.slice AF 4 cF) 4 (bv (be4 s)) * (preA kT (bv t) * (blkA kL 5 (bv [1, rb, UInt8.ofNat t.length]) * (blkA b 25 [st t, .int .i64 rb.toNat, .int .i64 s] * X))))))
  have b5 := x5.eq (by ac_rfl : _ = blkA b 25 [st t, .int .i64 rb.toNat, .int .i64 s] * (litA kA (bv reelB) * (rowA 5 1 (.slice AF 4 cF) 4 (bv (be4 s)) * (preA kT (bv t) * (blkA kL 5 (bv [1, rb, UInt8.ofNat t.length]) * X)))))
  have c50 : w5.cell? ⟨b, 0, none⟩ = some (st t) := b5.cell 0 rfl
  have c51 : w5.cell? ⟨b, 1, none⟩ = some (.int .i64 rb.toNat) := b5.cell 1 rfl
  have c52 : w5.cell? ⟨b, 2, none⟩ = some (.int .i64 s) := b5.cell 2 rfl
  obtain ⟨k6, w6, v, w7, k6s, k7, x7, x6⟩ := label_sum (cT := cT) ht (x5.eq (by ac_rfl : _ = litA kA (bv reelB) * (blkA kL 5 (bv [1, rb, UInt8.ofNat t.length]) * (preA kT (bv t) * (rowA 5 1 (.slice AF 4 cF) 4 (bv (be4 s)) * (blkA b 25 [st t, .int .i64 rb.toNat, .int .i64 s] * X))))))
  have hR := hRt v w7 x7.drop2
  have c60 : w6.cell? ⟨b, 0, none⟩ = some (st t) := x6.cell 0 rfl
  have c61 : w6.cell? ⟨b, 1, none⟩ = some (.int .i64 rb.toNat) := x6.cell 1 rfl
  have c62 : w6.cell? ⟨b, 2, none⟩ = some (.int .i64 s) := x6.cell 2 rfl
  have c70 : w7.cell? ⟨b, 0, none⟩ = some (st t) := x7.swap.cell 0 rfl
  have c71 : w7.cell? ⟨b, 1, none⟩ = some (.int .i64 rb.toNat) := x7.swap.cell 1 rfl
  have c72 : w7.cell? ⟨b, 2, none⟩ = some (.int .i64 s) := x7.swap.cell 2 rfl
  have e1 := cv23 rb
  have e2 := cv3 ht
  have e3 := len9 3 ⟨t.toArray⟩
  rw [st_size] at e3
  obtain ⟨n, hn⟩ : ∃ n, n = t.length := ⟨_, rfl⟩
  rw [← hn] at e2 e3 k1 k2 k6s
  unfold f16.o31
  simp [addL, ← hw0, e1, e2, e3, c00, c01, c02, k1, c10, c11, c12, k2, c20, c21, c22, k3, c30, c31, c32, k4, c40, c41, c42, k5, c50, c51, c52, k6s, k7, c60, c61, c62, c70, c71, c72, chkThen, f16.k0, after, hR]
theorem f16_o32 {w : World} {t : List UInt8} {rb : UInt8} {s b : Nat} {Rt : List Value → World → Prop} (ht : t.length ≤ 100) (hs : s < 4294967296) (x : Sat W (blkA b 25 [st t, .int .i64 rb.toNat, .int .i64 s] * X) w) (hRt : ∀ v w', Sat W (rowA 5 1 v (t.length + 15) (bv (labelB t rb s)) * X) w' → Rt [v] w') : f16.o32 C Rt (.pointer (some ⟨b, 0, none⟩)) w := by
  have x0 := x.drew
  obtain ⟨w0, hw0⟩ : ∃ w0, w0 = w.drew := ⟨_, rfl⟩
  rw [← hw0] at x0
  have b0 := x0
  have c00 : w0.cell? ⟨b, 0, none⟩ = some (st t) := b0.cell 0 rfl
  have c01 : w0.cell? ⟨b, 1, none⟩ = some (.int .i64 rb.toNat) := b0.cell 1 rfl
  have c02 : w0.cell? ⟨b, 2, none⟩ = some (.int .i64 s) := b0.cell 2 rfl
  obtain ⟨kL, w1, k1, x1⟩ := stL x0 rb t.length ht
  have b1 := x1.eq (by ac_rfl : _ = blkA b 25 [st t, .int .i64 rb.toNat, .int .i64 s] * (blkA kL 5 (bv [1, rb, UInt8.ofNat t.length]) * X))
  have c10 : w1.cell? ⟨b, 0, none⟩ = some (st t) := b1.cell 0 rfl
  have c11 : w1.cell? ⟨b, 1, none⟩ = some (.int .i64 rb.toNat) := b1.cell 1 rfl
  have c12 : w1.cell? ⟨b, 2, none⟩ = some (.int .i64 s) := b1.cell 2 rfl
  obtain ⟨kT, cT, w2, k2, x2⟩ := stT x1 t
  have b2 := x2.eq (by ac_rfl : _ = blkA b 25 [st t, .int .i64 rb.toNat, .int .i64 s] * (preA kT (bv t) * (blkA kL 5 (bv [1, rb, UInt8.ofNat t.length]) * X)))
  have c20 : w2.cell? ⟨b, 0, none⟩ = some (st t) := b2.cell 0 rfl
  have c21 : w2.cell? ⟨b, 1, none⟩ = some (.int .i64 rb.toNat) := b2.cell 1 rfl
  have c22 : w2.cell? ⟨b, 2, none⟩ = some (.int .i64 s) := b2.cell 2 rfl
  obtain ⟨AF, cF, w3, k3, x3⟩ := stF x2 hs
  have b3 := x3.eq (by ac_rfl : _ = blkA b 25 [st t, .int .i64 rb.toNat, .int .i64 s] * (rowA 5 1 (.slice AF 4 cF) 4 (bv (be4 s)) * (preA kT (bv t) * (blkA kL 5 (bv [1, rb, UInt8.ofNat t.length]) * X))))
  have c30 : w3.cell? ⟨b, 0, none⟩ = some (st t) := b3.cell 0 rfl
  have c31 : w3.cell? ⟨b, 1, none⟩ = some (.int .i64 rb.toNat) := b3.cell 1 rfl
  have c32 : w3.cell? ⟨b, 2, none⟩ = some (.int .i64 s) := b3.cell 2 rfl
  obtain ⟨kA, w4, k4, x4⟩ := stA x3
  have b4 := x4.eq (by ac_rfl : _ = blkA b 25 [st t, .int .i64 rb.toNat, .int .i64 s] * (blkA kA 5 (bv reelB) * (rowA 5 1 (.slice AF 4 cF) 4 (bv (be4 s)) * (preA kT (bv t) * (blkA kL 5 (bv [1, rb, UInt8.ofNat t.length]) * X)))))
  have c40 : w4.cell? ⟨b, 0, none⟩ = some (st t) := b4.cell 0 rfl
  have c41 : w4.cell? ⟨b, 1, none⟩ = some (.int .i64 rb.toNat) := b4.cell 1 rfl
  have c42 : w4.cell? ⟨b, 2, none⟩ = some (.int .i64 s) := b4.cell 2 rfl
  obtain ⟨w5, k5, x5⟩ := stB x4
  have b5 := x5.eq (by ac_rfl : _ = blkA b 25 [st t, .int .i64 rb.toNat, .int .i64 s] * (litA kA (bv reelB) * (rowA 5 1 (.slice AF 4 cF) 4 (bv (be4 s)) * (preA kT (bv t) * (blkA kL 5 (bv [1, rb, UInt8.ofNat t.length]) * X)))))
  have c50 : w5.cell? ⟨b, 0, none⟩ = some (st t) := b5.cell 0 rfl
  have c51 : w5.cell? ⟨b, 1, none⟩ = some (.int .i64 rb.toNat) := b5.cell 1 rfl
  have c52 : w5.cell? ⟨b, 2, none⟩ = some (.int .i64 s) := b5.cell 2 rfl
  obtain ⟨k6, w6, v, w7, k6s, k7, x7, x6⟩ := label_sum (cT := cT) ht (x5.eq (by ac_rfl : _ = litA kA (bv reelB) * (blkA kL 5 (bv [1, rb, UInt8.ofNat t.length]) * (preA kT (bv t) * (rowA 5 1 (.slice AF 4 cF) 4 (bv (be4 s)) * (blkA b 25 [st t, .int .i64 rb.toNat, .int .i64 s] * X))))))
  have hR := hRt v w7 x7.drop2
  have c60 : w6.cell? ⟨b, 0, none⟩ = some (st t) := x6.cell 0 rfl
  have c61 : w6.cell? ⟨b, 1, none⟩ = some (.int .i64 rb.toNat) := x6.cell 1 rfl
  have c62 : w6.cell? ⟨b, 2, none⟩ = some (.int .i64 s) := x6.cell 2 rfl
  have c70 : w7.cell? ⟨b, 0, none⟩ = some (st t) := x7.swap.cell 0 rfl
  have c71 : w7.cell? ⟨b, 1, none⟩ = some (.int .i64 rb.toNat) := x7.swap.cell 1 rfl
  have c72 : w7.cell? ⟨b, 2, none⟩ = some (.int .i64 s) := x7.swap.cell 2 rfl
  have e1 := cv23 rb
  have e2 := cv3 ht
  have e3 := len9 3 ⟨t.toArray⟩
  rw [st_size] at e3
  obtain ⟨n, hn⟩ : ∃ n, n = t.length := ⟨_, rfl⟩
  rw [← hn] at e2 e3 k1 k2 k6s
  unfold f16.o32
  simp [addL, ← hw0, e1, e2, e3, c00, c01, c02, k1, c10, c11, c12, k2, c20, c21, c22, k3, c30, c31, c32, k4, c40, c41, c42, k5, c50, c51, c52, k6s, k7, c60, c61, c62, c70, c71, c72, chkThen, f16.k0, after, hR]
theorem f16_o33 {w : World} {t : List UInt8} {rb : UInt8} {s b : Nat} {Rt : List Value → World → Prop} (ht : t.length ≤ 100) (hs : s < 4294967296) (x : Sat W (blkA b 25 [st t, .int .i64 rb.toNat, .int .i64 s] * X) w) (hRt : ∀ v w', Sat W (rowA 5 1 v (t.length + 15) (bv (labelB t rb s)) * X) w' → Rt [v] w') : f16.o33 C Rt (.pointer (some ⟨b, 0, none⟩)) w := by
  have x0 := x.drew
  obtain ⟨w0, hw0⟩ : ∃ w0, w0 = w.drew := ⟨_, rfl⟩
  rw [← hw0] at x0
  have b0 := x0
  have c00 : w0.cell? ⟨b, 0, none⟩ = some (st t) := b0.cell 0 rfl
  have c01 : w0.cell? ⟨b, 1, none⟩ = some (.int .i64 rb.toNat) := b0.cell 1 rfl
  have c02 : w0.cell? ⟨b, 2, none⟩ = some (.int .i64 s) := b0.cell 2 rfl
  obtain ⟨kL, w1, k1, x1⟩ := stL x0 rb t.length ht
  have b1 := x1.eq (by ac_rfl : _ = blkA b 25 [st t, .int .i64 rb.toNat, .int .i64 s] * (blkA kL 5 (bv [1, rb, UInt8.ofNat t.length]) * X))
  have c10 : w1.cell? ⟨b, 0, none⟩ = some (st t) := b1.cell 0 rfl
  have c11 : w1.cell? ⟨b, 1, none⟩ = some (.int .i64 rb.toNat) := b1.cell 1 rfl
  have c12 : w1.cell? ⟨b, 2, none⟩ = some (.int .i64 s) := b1.cell 2 rfl
  obtain ⟨AF, cF, w2, k2, x2⟩ := stF x1 hs
  have b2 := x2.eq (by ac_rfl : _ = blkA b 25 [st t, .int .i64 rb.toNat, .int .i64 s] * (rowA 5 1 (.slice AF 4 cF) 4 (bv (be4 s)) * (blkA kL 5 (bv [1, rb, UInt8.ofNat t.length]) * X)))
  have c20 : w2.cell? ⟨b, 0, none⟩ = some (st t) := b2.cell 0 rfl
  have c21 : w2.cell? ⟨b, 1, none⟩ = some (.int .i64 rb.toNat) := b2.cell 1 rfl
  have c22 : w2.cell? ⟨b, 2, none⟩ = some (.int .i64 s) := b2.cell 2 rfl
  obtain ⟨kA, w3, k3, x3⟩ := stA x2
  have b3 := x3.eq (by ac_rfl : _ = blkA b 25 [st t, .int .i64 rb.toNat, .int .i64 s] * (blkA kA 5 (bv reelB) * (rowA 5 1 (.slice AF 4 cF) 4 (bv (be4 s)) * (blkA kL 5 (bv [1, rb, UInt8.ofNat t.length]) * X))))
  have c30 : w3.cell? ⟨b, 0, none⟩ = some (st t) := b3.cell 0 rfl
  have c31 : w3.cell? ⟨b, 1, none⟩ = some (.int .i64 rb.toNat) := b3.cell 1 rfl
  have c32 : w3.cell? ⟨b, 2, none⟩ = some (.int .i64 s) := b3.cell 2 rfl
  obtain ⟨w4, k4, x4⟩ := stB x3
  have b4 := x4.eq (by ac_rfl : _ = blkA b 25 [st t, .int .i64 rb.toNat, .int .i64 s] * (litA kA (bv reelB) * (rowA 5 1 (.slice AF 4 cF) 4 (bv (be4 s)) * (blkA kL 5 (bv [1, rb, UInt8.ofNat t.length]) * X))))
  have c40 : w4.cell? ⟨b, 0, none⟩ = some (st t) := b4.cell 0 rfl
  have c41 : w4.cell? ⟨b, 1, none⟩ = some (.int .i64 rb.toNat) := b4.cell 1 rfl
  have c42 : w4.cell? ⟨b, 2, none⟩ = some (.int .i64 s) := b4.cell 2 rfl
  obtain ⟨kT, cT, w5, k5, x5⟩ := stT x4 t
  have b5 := x5.eq (by ac_rfl : _ = blkA b 25 [st t, .int .i64 rb.toNat, .int .i64 s] * (preA kT (bv t) * (litA kA (bv reelB) * (rowA 5 1 (.slice AF 4 cF) 4 (bv (be4 s)) * (blkA kL 5 (bv [1, rb, UInt8.ofNat t.length]) * X)))))
  have c50 : w5.cell? ⟨b, 0, none⟩ = some (st t) := b5.cell 0 rfl
  have c51 : w5.cell? ⟨b, 1, none⟩ = some (.int .i64 rb.toNat) := b5.cell 1 rfl
  have c52 : w5.cell? ⟨b, 2, none⟩ = some (.int .i64 s) := b5.cell 2 rfl
  obtain ⟨k6, w6, v, w7, k6s, k7, x7, x6⟩ := label_sum (cT := cT) ht (x5.eq (by ac_rfl : _ = litA kA (bv reelB) * (blkA kL 5 (bv [1, rb, UInt8.ofNat t.length]) * (preA kT (bv t) * (rowA 5 1 (.slice AF 4 cF) 4 (bv (be4 s)) * (blkA b 25 [st t, .int .i64 rb.toNat, .int .i64 s] * X))))))
  have hR := hRt v w7 x7.drop2
  have c60 : w6.cell? ⟨b, 0, none⟩ = some (st t) := x6.cell 0 rfl
  have c61 : w6.cell? ⟨b, 1, none⟩ = some (.int .i64 rb.toNat) := x6.cell 1 rfl
  have c62 : w6.cell? ⟨b, 2, none⟩ = some (.int .i64 s) := x6.cell 2 rfl
  have c70 : w7.cell? ⟨b, 0, none⟩ = some (st t) := x7.swap.cell 0 rfl
  have c71 : w7.cell? ⟨b, 1, none⟩ = some (.int .i64 rb.toNat) := x7.swap.cell 1 rfl
  have c72 : w7.cell? ⟨b, 2, none⟩ = some (.int .i64 s) := x7.swap.cell 2 rfl
  have e1 := cv23 rb
  have e2 := cv3 ht
  have e3 := len9 3 ⟨t.toArray⟩
  rw [st_size] at e3
  obtain ⟨n, hn⟩ : ∃ n, n = t.length := ⟨_, rfl⟩
  rw [← hn] at e2 e3 k1 k5 k6s
  unfold f16.o33
  simp [addL, ← hw0, e1, e2, e3, c00, c01, c02, k1, c10, c11, c12, k2, c20, c21, c22, k3, c30, c31, c32, k4, c40, c41, c42, k5, c50, c51, c52, k6s, k7, c60, c61, c62, c70, c71, c72, chkThen, f16.k0, after, hR]
theorem f16_o34 {w : World} {t : List UInt8} {rb : UInt8} {s b : Nat} {Rt : List Value → World → Prop} (ht : t.length ≤ 100) (hs : s < 4294967296) (x : Sat W (blkA b 25 [st t, .int .i64 rb.toNat, .int .i64 s] * X) w) (hRt : ∀ v w', Sat W (rowA 5 1 v (t.length + 15) (bv (labelB t rb s)) * X) w' → Rt [v] w') : f16.o34 C Rt (.pointer (some ⟨b, 0, none⟩)) w := by
  have x0 := x.drew
  obtain ⟨w0, hw0⟩ : ∃ w0, w0 = w.drew := ⟨_, rfl⟩
  rw [← hw0] at x0
  have b0 := x0
  have c00 : w0.cell? ⟨b, 0, none⟩ = some (st t) := b0.cell 0 rfl
  have c01 : w0.cell? ⟨b, 1, none⟩ = some (.int .i64 rb.toNat) := b0.cell 1 rfl
  have c02 : w0.cell? ⟨b, 2, none⟩ = some (.int .i64 s) := b0.cell 2 rfl
  obtain ⟨kL, w1, k1, x1⟩ := stL x0 rb t.length ht
  have b1 := x1.eq (by ac_rfl : _ = blkA b 25 [st t, .int .i64 rb.toNat, .int .i64 s] * (blkA kL 5 (bv [1, rb, UInt8.ofNat t.length]) * X))
  have c10 : w1.cell? ⟨b, 0, none⟩ = some (st t) := b1.cell 0 rfl
  have c11 : w1.cell? ⟨b, 1, none⟩ = some (.int .i64 rb.toNat) := b1.cell 1 rfl
  have c12 : w1.cell? ⟨b, 2, none⟩ = some (.int .i64 s) := b1.cell 2 rfl
  obtain ⟨AF, cF, w2, k2, x2⟩ := stF x1 hs
  have b2 := x2.eq (by ac_rfl : _ = blkA b 25 [st t, .int .i64 rb.toNat, .int .i64 s] * (rowA 5 1 (.slice AF 4 cF) 4 (bv (be4 s)) * (blkA kL 5 (bv [1, rb, UInt8.ofNat t.length]) * X)))
  have c20 : w2.cell? ⟨b, 0, none⟩ = some (st t) := b2.cell 0 rfl
  have c21 : w2.cell? ⟨b, 1, none⟩ = some (.int .i64 rb.toNat) := b2.cell 1 rfl
  have c22 : w2.cell? ⟨b, 2, none⟩ = some (.int .i64 s) := b2.cell 2 rfl
  obtain ⟨kA, w3, k3, x3⟩ := stA x2
  have b3 := x3.eq (by ac_rfl : _ = blkA b 25 [st t, .int .i64 rb.toNat, .int .i64 s] * (blkA kA 5 (bv reelB) * (rowA 5 1 (.slice AF 4 cF) 4 (bv (be4 s)) * (blkA kL 5 (bv [1, rb, UInt8.ofNat t.length]) * X))))
  have c30 : w3.cell? ⟨b, 0, none⟩ = some (st t) := b3.cell 0 rfl
  have c31 : w3.cell? ⟨b, 1, none⟩ = some (.int .i64 rb.toNat) := b3.cell 1 rfl
  have c32 : w3.cell? ⟨b, 2, none⟩ = some (.int .i64 s) := b3.cell 2 rfl
  obtain ⟨kT, cT, w4, k4, x4⟩ := stT x3 t
  have b4 := x4.eq (by ac_rfl : _ = blkA b 25 [st t, .int .i64 rb.toNat, .int .i64 s] * (preA kT (bv t) * (blkA kA 5 (bv reelB) * (rowA 5 1 (.slice AF 4 cF) 4 (bv (be4 s)) * (blkA kL 5 (bv [1, rb, UInt8.ofNat t.length]) * X)))))
  have c40 : w4.cell? ⟨b, 0, none⟩ = some (st t) := b4.cell 0 rfl
  have c41 : w4.cell? ⟨b, 1, none⟩ = some (.int .i64 rb.toNat) := b4.cell 1 rfl
  have c42 : w4.cell? ⟨b, 2, none⟩ = some (.int .i64 s) := b4.cell 2 rfl
  obtain ⟨w5, k5, x5⟩ := stB (x4.eq (by ac_rfl : _ = blkA kA 5 (bv reelB) * (preA kT (bv t) * (rowA 5 1 (.slice AF 4 cF) 4 (bv (be4 s)) * (blkA kL 5 (bv [1, rb, UInt8.ofNat t.length]) * (blkA b 25 [st t, .int .i64 rb.toNat, .int .i64 s] * X))))))
  have b5 := x5.eq (by ac_rfl : _ = blkA b 25 [st t, .int .i64 rb.toNat, .int .i64 s] * (litA kA (bv reelB) * (preA kT (bv t) * (rowA 5 1 (.slice AF 4 cF) 4 (bv (be4 s)) * (blkA kL 5 (bv [1, rb, UInt8.ofNat t.length]) * X)))))
  have c50 : w5.cell? ⟨b, 0, none⟩ = some (st t) := b5.cell 0 rfl
  have c51 : w5.cell? ⟨b, 1, none⟩ = some (.int .i64 rb.toNat) := b5.cell 1 rfl
  have c52 : w5.cell? ⟨b, 2, none⟩ = some (.int .i64 s) := b5.cell 2 rfl
  obtain ⟨k6, w6, v, w7, k6s, k7, x7, x6⟩ := label_sum (cT := cT) ht (x5.eq (by ac_rfl : _ = litA kA (bv reelB) * (blkA kL 5 (bv [1, rb, UInt8.ofNat t.length]) * (preA kT (bv t) * (rowA 5 1 (.slice AF 4 cF) 4 (bv (be4 s)) * (blkA b 25 [st t, .int .i64 rb.toNat, .int .i64 s] * X))))))
  have hR := hRt v w7 x7.drop2
  have c60 : w6.cell? ⟨b, 0, none⟩ = some (st t) := x6.cell 0 rfl
  have c61 : w6.cell? ⟨b, 1, none⟩ = some (.int .i64 rb.toNat) := x6.cell 1 rfl
  have c62 : w6.cell? ⟨b, 2, none⟩ = some (.int .i64 s) := x6.cell 2 rfl
  have c70 : w7.cell? ⟨b, 0, none⟩ = some (st t) := x7.swap.cell 0 rfl
  have c71 : w7.cell? ⟨b, 1, none⟩ = some (.int .i64 rb.toNat) := x7.swap.cell 1 rfl
  have c72 : w7.cell? ⟨b, 2, none⟩ = some (.int .i64 s) := x7.swap.cell 2 rfl
  have e1 := cv23 rb
  have e2 := cv3 ht
  have e3 := len9 3 ⟨t.toArray⟩
  rw [st_size] at e3
  obtain ⟨n, hn⟩ : ∃ n, n = t.length := ⟨_, rfl⟩
  rw [← hn] at e2 e3 k1 k4 k6s
  unfold f16.o34
  simp [addL, ← hw0, e1, e2, e3, c00, c01, c02, k1, c10, c11, c12, k2, c20, c21, c22, k3, c30, c31, c32, k4, c40, c41, c42, k5, c50, c51, c52, k6s, k7, c60, c61, c62, c70, c71, c72, chkThen, f16.k0, after, hR]
theorem f16_o35 {w : World} {t : List UInt8} {rb : UInt8} {s b : Nat} {Rt : List Value → World → Prop} (ht : t.length ≤ 100) (hs : s < 4294967296) (x : Sat W (blkA b 25 [st t, .int .i64 rb.toNat, .int .i64 s] * X) w) (hRt : ∀ v w', Sat W (rowA 5 1 v (t.length + 15) (bv (labelB t rb s)) * X) w' → Rt [v] w') : f16.o35 C Rt (.pointer (some ⟨b, 0, none⟩)) w := by
  have x0 := x.drew
  obtain ⟨w0, hw0⟩ : ∃ w0, w0 = w.drew := ⟨_, rfl⟩
  rw [← hw0] at x0
  have b0 := x0
  have c00 : w0.cell? ⟨b, 0, none⟩ = some (st t) := b0.cell 0 rfl
  have c01 : w0.cell? ⟨b, 1, none⟩ = some (.int .i64 rb.toNat) := b0.cell 1 rfl
  have c02 : w0.cell? ⟨b, 2, none⟩ = some (.int .i64 s) := b0.cell 2 rfl
  obtain ⟨kL, w1, k1, x1⟩ := stL x0 rb t.length ht
  have b1 := x1.eq (by ac_rfl : _ = blkA b 25 [st t, .int .i64 rb.toNat, .int .i64 s] * (blkA kL 5 (bv [1, rb, UInt8.ofNat t.length]) * X))
  have c10 : w1.cell? ⟨b, 0, none⟩ = some (st t) := b1.cell 0 rfl
  have c11 : w1.cell? ⟨b, 1, none⟩ = some (.int .i64 rb.toNat) := b1.cell 1 rfl
  have c12 : w1.cell? ⟨b, 2, none⟩ = some (.int .i64 s) := b1.cell 2 rfl
  obtain ⟨AF, cF, w2, k2, x2⟩ := stF x1 hs
  have b2 := x2.eq (by ac_rfl : _ = blkA b 25 [st t, .int .i64 rb.toNat, .int .i64 s] * (rowA 5 1 (.slice AF 4 cF) 4 (bv (be4 s)) * (blkA kL 5 (bv [1, rb, UInt8.ofNat t.length]) * X)))
  have c20 : w2.cell? ⟨b, 0, none⟩ = some (st t) := b2.cell 0 rfl
  have c21 : w2.cell? ⟨b, 1, none⟩ = some (.int .i64 rb.toNat) := b2.cell 1 rfl
  have c22 : w2.cell? ⟨b, 2, none⟩ = some (.int .i64 s) := b2.cell 2 rfl
  obtain ⟨kT, cT, w3, k3, x3⟩ := stT x2 t
  have b3 := x3.eq (by ac_rfl : _ = blkA b 25 [st t, .int .i64 rb.toNat, .int .i64 s] * (preA kT (bv t) * (rowA 5 1 (.slice AF 4 cF) 4 (bv (be4 s)) * (blkA kL 5 (bv [1, rb, UInt8.ofNat t.length]) * X))))
  have c30 : w3.cell? ⟨b, 0, none⟩ = some (st t) := b3.cell 0 rfl
  have c31 : w3.cell? ⟨b, 1, none⟩ = some (.int .i64 rb.toNat) := b3.cell 1 rfl
  have c32 : w3.cell? ⟨b, 2, none⟩ = some (.int .i64 s) := b3.cell 2 rfl
  obtain ⟨kA, w4, k4, x4⟩ := stA x3
  have b4 := x4.eq (by ac_rfl : _ = blkA b 25 [st t, .int .i64 rb.toNat, .int .i64 s] * (blkA kA 5 (bv reelB) * (preA kT (bv t) * (rowA 5 1 (.slice AF 4 cF) 4 (bv (be4 s)) * (blkA kL 5 (bv [1, rb, UInt8.ofNat t.length]) * X)))))
  have c40 : w4.cell? ⟨b, 0, none⟩ = some (st t) := b4.cell 0 rfl
  have c41 : w4.cell? ⟨b, 1, none⟩ = some (.int .i64 rb.toNat) := b4.cell 1 rfl
  have c42 : w4.cell? ⟨b, 2, none⟩ = some (.int .i64 s) := b4.cell 2 rfl
  obtain ⟨w5, k5, x5⟩ := stB x4
  have b5 := x5.eq (by ac_rfl : _ = blkA b 25 [st t, .int .i64 rb.toNat, .int .i64 s] * (litA kA (bv reelB) * (preA kT (bv t) * (rowA 5 1 (.slice AF 4 cF) 4 (bv (be4 s)) * (blkA kL 5 (bv [1, rb, UInt8.ofNat t.length]) * X)))))
  have c50 : w5.cell? ⟨b, 0, none⟩ = some (st t) := b5.cell 0 rfl
  have c51 : w5.cell? ⟨b, 1, none⟩ = some (.int .i64 rb.toNat) := b5.cell 1 rfl
  have c52 : w5.cell? ⟨b, 2, none⟩ = some (.int .i64 s) := b5.cell 2 rfl
  obtain ⟨k6, w6, v, w7, k6s, k7, x7, x6⟩ := label_sum (cT := cT) ht (x5.eq (by ac_rfl : _ = litA kA (bv reelB) * (blkA kL 5 (bv [1, rb, UInt8.ofNat t.length]) * (preA kT (bv t) * (rowA 5 1 (.slice AF 4 cF) 4 (bv (be4 s)) * (blkA b 25 [st t, .int .i64 rb.toNat, .int .i64 s] * X))))))
  have hR := hRt v w7 x7.drop2
  have c60 : w6.cell? ⟨b, 0, none⟩ = some (st t) := x6.cell 0 rfl
  have c61 : w6.cell? ⟨b, 1, none⟩ = some (.int .i64 rb.toNat) := x6.cell 1 rfl
  have c62 : w6.cell? ⟨b, 2, none⟩ = some (.int .i64 s) := x6.cell 2 rfl
  have c70 : w7.cell? ⟨b, 0, none⟩ = some (st t) := x7.swap.cell 0 rfl
  have c71 : w7.cell? ⟨b, 1, none⟩ = some (.int .i64 rb.toNat) := x7.swap.cell 1 rfl
  have c72 : w7.cell? ⟨b, 2, none⟩ = some (.int .i64 s) := x7.swap.cell 2 rfl
  have e1 := cv23 rb
  have e2 := cv3 ht
  have e3 := len9 3 ⟨t.toArray⟩
  rw [st_size] at e3
  obtain ⟨n, hn⟩ : ∃ n, n = t.length := ⟨_, rfl⟩
  rw [← hn] at e2 e3 k1 k3 k6s
  unfold f16.o35
  simp [addL, ← hw0, e1, e2, e3, c00, c01, c02, k1, c10, c11, c12, k2, c20, c21, c22, k3, c30, c31, c32, k4, c40, c41, c42, k5, c50, c51, c52, k6s, k7, c60, c61, c62, c70, c71, c72, chkThen, f16.k0, after, hR]
theorem f16_o36 {w : World} {t : List UInt8} {rb : UInt8} {s b : Nat} {Rt : List Value → World → Prop} (ht : t.length ≤ 100) (hs : s < 4294967296) (x : Sat W (blkA b 25 [st t, .int .i64 rb.toNat, .int .i64 s] * X) w) (hRt : ∀ v w', Sat W (rowA 5 1 v (t.length + 15) (bv (labelB t rb s)) * X) w' → Rt [v] w') : f16.o36 C Rt (.pointer (some ⟨b, 0, none⟩)) w := by
  have x0 := x.drew
  obtain ⟨w0, hw0⟩ : ∃ w0, w0 = w.drew := ⟨_, rfl⟩
  rw [← hw0] at x0
  have b0 := x0
  have c00 : w0.cell? ⟨b, 0, none⟩ = some (st t) := b0.cell 0 rfl
  have c01 : w0.cell? ⟨b, 1, none⟩ = some (.int .i64 rb.toNat) := b0.cell 1 rfl
  have c02 : w0.cell? ⟨b, 2, none⟩ = some (.int .i64 s) := b0.cell 2 rfl
  obtain ⟨kT, cT, w1, k1, x1⟩ := stT x0 t
  have b1 := x1.eq (by ac_rfl : _ = blkA b 25 [st t, .int .i64 rb.toNat, .int .i64 s] * (preA kT (bv t) * X))
  have c10 : w1.cell? ⟨b, 0, none⟩ = some (st t) := b1.cell 0 rfl
  have c11 : w1.cell? ⟨b, 1, none⟩ = some (.int .i64 rb.toNat) := b1.cell 1 rfl
  have c12 : w1.cell? ⟨b, 2, none⟩ = some (.int .i64 s) := b1.cell 2 rfl
  obtain ⟨kA, w2, k2, x2⟩ := stA x1
  have b2 := x2.eq (by ac_rfl : _ = blkA b 25 [st t, .int .i64 rb.toNat, .int .i64 s] * (blkA kA 5 (bv reelB) * (preA kT (bv t) * X)))
  have c20 : w2.cell? ⟨b, 0, none⟩ = some (st t) := b2.cell 0 rfl
  have c21 : w2.cell? ⟨b, 1, none⟩ = some (.int .i64 rb.toNat) := b2.cell 1 rfl
  have c22 : w2.cell? ⟨b, 2, none⟩ = some (.int .i64 s) := b2.cell 2 rfl
  obtain ⟨w3, k3, x3⟩ := stB x2
  have b3 := x3.eq (by ac_rfl : _ = blkA b 25 [st t, .int .i64 rb.toNat, .int .i64 s] * (litA kA (bv reelB) * (preA kT (bv t) * X)))
  have c30 : w3.cell? ⟨b, 0, none⟩ = some (st t) := b3.cell 0 rfl
  have c31 : w3.cell? ⟨b, 1, none⟩ = some (.int .i64 rb.toNat) := b3.cell 1 rfl
  have c32 : w3.cell? ⟨b, 2, none⟩ = some (.int .i64 s) := b3.cell 2 rfl
  obtain ⟨kL, w4, k4, x4⟩ := stL x3 rb t.length ht
  have b4 := x4.eq (by ac_rfl : _ = blkA b 25 [st t, .int .i64 rb.toNat, .int .i64 s] * (blkA kL 5 (bv [1, rb, UInt8.ofNat t.length]) * (litA kA (bv reelB) * (preA kT (bv t) * X))))
  have c40 : w4.cell? ⟨b, 0, none⟩ = some (st t) := b4.cell 0 rfl
  have c41 : w4.cell? ⟨b, 1, none⟩ = some (.int .i64 rb.toNat) := b4.cell 1 rfl
  have c42 : w4.cell? ⟨b, 2, none⟩ = some (.int .i64 s) := b4.cell 2 rfl
  obtain ⟨AF, cF, w5, k5, x5⟩ := stF x4 hs
  have b5 := x5.eq (by ac_rfl : _ = blkA b 25 [st t, .int .i64 rb.toNat, .int .i64 s] * (rowA 5 1 (.slice AF 4 cF) 4 (bv (be4 s)) * (blkA kL 5 (bv [1, rb, UInt8.ofNat t.length]) * (litA kA (bv reelB) * (preA kT (bv t) * X)))))
  have c50 : w5.cell? ⟨b, 0, none⟩ = some (st t) := b5.cell 0 rfl
  have c51 : w5.cell? ⟨b, 1, none⟩ = some (.int .i64 rb.toNat) := b5.cell 1 rfl
  have c52 : w5.cell? ⟨b, 2, none⟩ = some (.int .i64 s) := b5.cell 2 rfl
  obtain ⟨k6, w6, v, w7, k6s, k7, x7, x6⟩ := label_sum (cT := cT) ht (x5.eq (by ac_rfl : _ = litA kA (bv reelB) * (blkA kL 5 (bv [1, rb, UInt8.ofNat t.length]) * (preA kT (bv t) * (rowA 5 1 (.slice AF 4 cF) 4 (bv (be4 s)) * (blkA b 25 [st t, .int .i64 rb.toNat, .int .i64 s] * X))))))
  have hR := hRt v w7 x7.drop2
  have c60 : w6.cell? ⟨b, 0, none⟩ = some (st t) := x6.cell 0 rfl
  have c61 : w6.cell? ⟨b, 1, none⟩ = some (.int .i64 rb.toNat) := x6.cell 1 rfl
  have c62 : w6.cell? ⟨b, 2, none⟩ = some (.int .i64 s) := x6.cell 2 rfl
  have c70 : w7.cell? ⟨b, 0, none⟩ = some (st t) := x7.swap.cell 0 rfl
  have c71 : w7.cell? ⟨b, 1, none⟩ = some (.int .i64 rb.toNat) := x7.swap.cell 1 rfl
  have c72 : w7.cell? ⟨b, 2, none⟩ = some (.int .i64 s) := x7.swap.cell 2 rfl
  have e1 := cv23 rb
  have e2 := cv3 ht
  have e3 := len9 3 ⟨t.toArray⟩
  rw [st_size] at e3
  obtain ⟨n, hn⟩ : ∃ n, n = t.length := ⟨_, rfl⟩
  rw [← hn] at e2 e3 k4 k1 k6s
  unfold f16.o36
  simp [addL, ← hw0, e1, e2, e3, c00, c01, c02, k1, c10, c11, c12, k2, c20, c21, c22, k3, c30, c31, c32, k4, c40, c41, c42, k5, c50, c51, c52, k6s, k7, c60, c61, c62, c70, c71, c72, chkThen, f16.k0, after, hR]
theorem f16_o37 {w : World} {t : List UInt8} {rb : UInt8} {s b : Nat} {Rt : List Value → World → Prop} (ht : t.length ≤ 100) (hs : s < 4294967296) (x : Sat W (blkA b 25 [st t, .int .i64 rb.toNat, .int .i64 s] * X) w) (hRt : ∀ v w', Sat W (rowA 5 1 v (t.length + 15) (bv (labelB t rb s)) * X) w' → Rt [v] w') : f16.o37 C Rt (.pointer (some ⟨b, 0, none⟩)) w := by
  have x0 := x.drew
  obtain ⟨w0, hw0⟩ : ∃ w0, w0 = w.drew := ⟨_, rfl⟩
  rw [← hw0] at x0
  have b0 := x0
  have c00 : w0.cell? ⟨b, 0, none⟩ = some (st t) := b0.cell 0 rfl
  have c01 : w0.cell? ⟨b, 1, none⟩ = some (.int .i64 rb.toNat) := b0.cell 1 rfl
  have c02 : w0.cell? ⟨b, 2, none⟩ = some (.int .i64 s) := b0.cell 2 rfl
  obtain ⟨kT, cT, w1, k1, x1⟩ := stT x0 t
  have b1 := x1.eq (by ac_rfl : _ = blkA b 25 [st t, .int .i64 rb.toNat, .int .i64 s] * (preA kT (bv t) * X))
  have c10 : w1.cell? ⟨b, 0, none⟩ = some (st t) := b1.cell 0 rfl
  have c11 : w1.cell? ⟨b, 1, none⟩ = some (.int .i64 rb.toNat) := b1.cell 1 rfl
  have c12 : w1.cell? ⟨b, 2, none⟩ = some (.int .i64 s) := b1.cell 2 rfl
  obtain ⟨kA, w2, k2, x2⟩ := stA x1
  have b2 := x2.eq (by ac_rfl : _ = blkA b 25 [st t, .int .i64 rb.toNat, .int .i64 s] * (blkA kA 5 (bv reelB) * (preA kT (bv t) * X)))
  have c20 : w2.cell? ⟨b, 0, none⟩ = some (st t) := b2.cell 0 rfl
  have c21 : w2.cell? ⟨b, 1, none⟩ = some (.int .i64 rb.toNat) := b2.cell 1 rfl
  have c22 : w2.cell? ⟨b, 2, none⟩ = some (.int .i64 s) := b2.cell 2 rfl
  obtain ⟨w3, k3, x3⟩ := stB x2
  have b3 := x3.eq (by ac_rfl : _ = blkA b 25 [st t, .int .i64 rb.toNat, .int .i64 s] * (litA kA (bv reelB) * (preA kT (bv t) * X)))
  have c30 : w3.cell? ⟨b, 0, none⟩ = some (st t) := b3.cell 0 rfl
  have c31 : w3.cell? ⟨b, 1, none⟩ = some (.int .i64 rb.toNat) := b3.cell 1 rfl
  have c32 : w3.cell? ⟨b, 2, none⟩ = some (.int .i64 s) := b3.cell 2 rfl
  obtain ⟨AF, cF, w4, k4, x4⟩ := stF x3 hs
  have b4 := x4.eq (by ac_rfl : _ = blkA b 25 [st t, .int .i64 rb.toNat, .int .i64 s] * (rowA 5 1 (.slice AF 4 cF) 4 (bv (be4 s)) * (litA kA (bv reelB) * (preA kT (bv t) * X))))
  have c40 : w4.cell? ⟨b, 0, none⟩ = some (st t) := b4.cell 0 rfl
  have c41 : w4.cell? ⟨b, 1, none⟩ = some (.int .i64 rb.toNat) := b4.cell 1 rfl
  have c42 : w4.cell? ⟨b, 2, none⟩ = some (.int .i64 s) := b4.cell 2 rfl
  obtain ⟨kL, w5, k5, x5⟩ := stL x4 rb t.length ht
  have b5 := x5.eq (by ac_rfl : _ = blkA b 25 [st t, .int .i64 rb.toNat, .int .i64 s] * (blkA kL 5 (bv [1, rb, UInt8.ofNat t.length]) * (rowA 5 1 (.slice AF 4 cF) 4 (bv (be4 s)) * (litA kA (bv reelB) * (preA kT (bv t) * X)))))
  have c50 : w5.cell? ⟨b, 0, none⟩ = some (st t) := b5.cell 0 rfl
  have c51 : w5.cell? ⟨b, 1, none⟩ = some (.int .i64 rb.toNat) := b5.cell 1 rfl
  have c52 : w5.cell? ⟨b, 2, none⟩ = some (.int .i64 s) := b5.cell 2 rfl
  obtain ⟨k6, w6, v, w7, k6s, k7, x7, x6⟩ := label_sum (cT := cT) ht (x5.eq (by ac_rfl : _ = litA kA (bv reelB) * (blkA kL 5 (bv [1, rb, UInt8.ofNat t.length]) * (preA kT (bv t) * (rowA 5 1 (.slice AF 4 cF) 4 (bv (be4 s)) * (blkA b 25 [st t, .int .i64 rb.toNat, .int .i64 s] * X))))))
  have hR := hRt v w7 x7.drop2
  have c60 : w6.cell? ⟨b, 0, none⟩ = some (st t) := x6.cell 0 rfl
  have c61 : w6.cell? ⟨b, 1, none⟩ = some (.int .i64 rb.toNat) := x6.cell 1 rfl
  have c62 : w6.cell? ⟨b, 2, none⟩ = some (.int .i64 s) := x6.cell 2 rfl
  have c70 : w7.cell? ⟨b, 0, none⟩ = some (st t) := x7.swap.cell 0 rfl
  have c71 : w7.cell? ⟨b, 1, none⟩ = some (.int .i64 rb.toNat) := x7.swap.cell 1 rfl
  have c72 : w7.cell? ⟨b, 2, none⟩ = some (.int .i64 s) := x7.swap.cell 2 rfl
  have e1 := cv23 rb
  have e2 := cv3 ht
  have e3 := len9 3 ⟨t.toArray⟩
  rw [st_size] at e3
  obtain ⟨n, hn⟩ : ∃ n, n = t.length := ⟨_, rfl⟩
  rw [← hn] at e2 e3 k5 k1 k6s
  unfold f16.o37
  simp [addL, ← hw0, e1, e2, e3, c00, c01, c02, k1, c10, c11, c12, k2, c20, c21, c22, k3, c30, c31, c32, k4, c40, c41, c42, k5, c50, c51, c52, k6s, k7, c60, c61, c62, c70, c71, c72, chkThen, f16.k0, after, hR]
theorem f16_o38 {w : World} {t : List UInt8} {rb : UInt8} {s b : Nat} {Rt : List Value → World → Prop} (ht : t.length ≤ 100) (hs : s < 4294967296) (x : Sat W (blkA b 25 [st t, .int .i64 rb.toNat, .int .i64 s] * X) w) (hRt : ∀ v w', Sat W (rowA 5 1 v (t.length + 15) (bv (labelB t rb s)) * X) w' → Rt [v] w') : f16.o38 C Rt (.pointer (some ⟨b, 0, none⟩)) w := by
  have x0 := x.drew
  obtain ⟨w0, hw0⟩ : ∃ w0, w0 = w.drew := ⟨_, rfl⟩
  rw [← hw0] at x0
  have b0 := x0
  have c00 : w0.cell? ⟨b, 0, none⟩ = some (st t) := b0.cell 0 rfl
  have c01 : w0.cell? ⟨b, 1, none⟩ = some (.int .i64 rb.toNat) := b0.cell 1 rfl
  have c02 : w0.cell? ⟨b, 2, none⟩ = some (.int .i64 s) := b0.cell 2 rfl
  obtain ⟨kT, cT, w1, k1, x1⟩ := stT x0 t
  have b1 := x1.eq (by ac_rfl : _ = blkA b 25 [st t, .int .i64 rb.toNat, .int .i64 s] * (preA kT (bv t) * X))
  have c10 : w1.cell? ⟨b, 0, none⟩ = some (st t) := b1.cell 0 rfl
  have c11 : w1.cell? ⟨b, 1, none⟩ = some (.int .i64 rb.toNat) := b1.cell 1 rfl
  have c12 : w1.cell? ⟨b, 2, none⟩ = some (.int .i64 s) := b1.cell 2 rfl
  obtain ⟨kA, w2, k2, x2⟩ := stA x1
  have b2 := x2.eq (by ac_rfl : _ = blkA b 25 [st t, .int .i64 rb.toNat, .int .i64 s] * (blkA kA 5 (bv reelB) * (preA kT (bv t) * X)))
  have c20 : w2.cell? ⟨b, 0, none⟩ = some (st t) := b2.cell 0 rfl
  have c21 : w2.cell? ⟨b, 1, none⟩ = some (.int .i64 rb.toNat) := b2.cell 1 rfl
  have c22 : w2.cell? ⟨b, 2, none⟩ = some (.int .i64 s) := b2.cell 2 rfl
  obtain ⟨kL, w3, k3, x3⟩ := stL x2 rb t.length ht
  have b3 := x3.eq (by ac_rfl : _ = blkA b 25 [st t, .int .i64 rb.toNat, .int .i64 s] * (blkA kL 5 (bv [1, rb, UInt8.ofNat t.length]) * (blkA kA 5 (bv reelB) * (preA kT (bv t) * X))))
  have c30 : w3.cell? ⟨b, 0, none⟩ = some (st t) := b3.cell 0 rfl
  have c31 : w3.cell? ⟨b, 1, none⟩ = some (.int .i64 rb.toNat) := b3.cell 1 rfl
  have c32 : w3.cell? ⟨b, 2, none⟩ = some (.int .i64 s) := b3.cell 2 rfl
  obtain ⟨w4, k4, x4⟩ := stB (x3.eq (by ac_rfl : _ = blkA kA 5 (bv reelB) * (blkA kL 5 (bv [1, rb, UInt8.ofNat t.length]) * (preA kT (bv t) * (blkA b 25 [st t, .int .i64 rb.toNat, .int .i64 s] * X)))))
  have b4 := x4.eq (by ac_rfl : _ = blkA b 25 [st t, .int .i64 rb.toNat, .int .i64 s] * (litA kA (bv reelB) * (blkA kL 5 (bv [1, rb, UInt8.ofNat t.length]) * (preA kT (bv t) * X))))
  have c40 : w4.cell? ⟨b, 0, none⟩ = some (st t) := b4.cell 0 rfl
  have c41 : w4.cell? ⟨b, 1, none⟩ = some (.int .i64 rb.toNat) := b4.cell 1 rfl
  have c42 : w4.cell? ⟨b, 2, none⟩ = some (.int .i64 s) := b4.cell 2 rfl
  obtain ⟨AF, cF, w5, k5, x5⟩ := stF x4 hs
  have b5 := x5.eq (by ac_rfl : _ = blkA b 25 [st t, .int .i64 rb.toNat, .int .i64 s] * (rowA 5 1 (.slice AF 4 cF) 4 (bv (be4 s)) * (litA kA (bv reelB) * (blkA kL 5 (bv [1, rb, UInt8.ofNat t.length]) * (preA kT (bv t) * X)))))
  have c50 : w5.cell? ⟨b, 0, none⟩ = some (st t) := b5.cell 0 rfl
  have c51 : w5.cell? ⟨b, 1, none⟩ = some (.int .i64 rb.toNat) := b5.cell 1 rfl
  have c52 : w5.cell? ⟨b, 2, none⟩ = some (.int .i64 s) := b5.cell 2 rfl
  obtain ⟨k6, w6, v, w7, k6s, k7, x7, x6⟩ := label_sum (cT := cT) ht (x5.eq (by ac_rfl : _ = litA kA (bv reelB) * (blkA kL 5 (bv [1, rb, UInt8.ofNat t.length]) * (preA kT (bv t) * (rowA 5 1 (.slice AF 4 cF) 4 (bv (be4 s)) * (blkA b 25 [st t, .int .i64 rb.toNat, .int .i64 s] * X))))))
  have hR := hRt v w7 x7.drop2
  have c60 : w6.cell? ⟨b, 0, none⟩ = some (st t) := x6.cell 0 rfl
  have c61 : w6.cell? ⟨b, 1, none⟩ = some (.int .i64 rb.toNat) := x6.cell 1 rfl
  have c62 : w6.cell? ⟨b, 2, none⟩ = some (.int .i64 s) := x6.cell 2 rfl
  have c70 : w7.cell? ⟨b, 0, none⟩ = some (st t) := x7.swap.cell 0 rfl
  have c71 : w7.cell? ⟨b, 1, none⟩ = some (.int .i64 rb.toNat) := x7.swap.cell 1 rfl
  have c72 : w7.cell? ⟨b, 2, none⟩ = some (.int .i64 s) := x7.swap.cell 2 rfl
  have e1 := cv23 rb
  have e2 := cv3 ht
  have e3 := len9 3 ⟨t.toArray⟩
  rw [st_size] at e3
  obtain ⟨n, hn⟩ : ∃ n, n = t.length := ⟨_, rfl⟩
  rw [← hn] at e2 e3 k3 k1 k6s
  unfold f16.o38
  simp [addL, ← hw0, e1, e2, e3, c00, c01, c02, k1, c10, c11, c12, k2, c20, c21, c22, k3, c30, c31, c32, k4, c40, c41, c42, k5, c50, c51, c52, k6s, k7, c60, c61, c62, c70, c71, c72, chkThen, f16.k0, after, hR]
theorem f16_o39 {w : World} {t : List UInt8} {rb : UInt8} {s b : Nat} {Rt : List Value → World → Prop} (ht : t.length ≤ 100) (hs : s < 4294967296) (x : Sat W (blkA b 25 [st t, .int .i64 rb.toNat, .int .i64 s] * X) w) (hRt : ∀ v w', Sat W (rowA 5 1 v (t.length + 15) (bv (labelB t rb s)) * X) w' → Rt [v] w') : f16.o39 C Rt (.pointer (some ⟨b, 0, none⟩)) w := by
  have x0 := x.drew
  obtain ⟨w0, hw0⟩ : ∃ w0, w0 = w.drew := ⟨_, rfl⟩
  rw [← hw0] at x0
  have b0 := x0
  have c00 : w0.cell? ⟨b, 0, none⟩ = some (st t) := b0.cell 0 rfl
  have c01 : w0.cell? ⟨b, 1, none⟩ = some (.int .i64 rb.toNat) := b0.cell 1 rfl
  have c02 : w0.cell? ⟨b, 2, none⟩ = some (.int .i64 s) := b0.cell 2 rfl
  obtain ⟨kT, cT, w1, k1, x1⟩ := stT x0 t
  have b1 := x1.eq (by ac_rfl : _ = blkA b 25 [st t, .int .i64 rb.toNat, .int .i64 s] * (preA kT (bv t) * X))
  have c10 : w1.cell? ⟨b, 0, none⟩ = some (st t) := b1.cell 0 rfl
  have c11 : w1.cell? ⟨b, 1, none⟩ = some (.int .i64 rb.toNat) := b1.cell 1 rfl
  have c12 : w1.cell? ⟨b, 2, none⟩ = some (.int .i64 s) := b1.cell 2 rfl
  obtain ⟨kA, w2, k2, x2⟩ := stA x1
  have b2 := x2.eq (by ac_rfl : _ = blkA b 25 [st t, .int .i64 rb.toNat, .int .i64 s] * (blkA kA 5 (bv reelB) * (preA kT (bv t) * X)))
  have c20 : w2.cell? ⟨b, 0, none⟩ = some (st t) := b2.cell 0 rfl
  have c21 : w2.cell? ⟨b, 1, none⟩ = some (.int .i64 rb.toNat) := b2.cell 1 rfl
  have c22 : w2.cell? ⟨b, 2, none⟩ = some (.int .i64 s) := b2.cell 2 rfl
  obtain ⟨kL, w3, k3, x3⟩ := stL x2 rb t.length ht
  have b3 := x3.eq (by ac_rfl : _ = blkA b 25 [st t, .int .i64 rb.toNat, .int .i64 s] * (blkA kL 5 (bv [1, rb, UInt8.ofNat t.length]) * (blkA kA 5 (bv reelB) * (preA kT (bv t) * X))))
  have c30 : w3.cell? ⟨b, 0, none⟩ = some (st t) := b3.cell 0 rfl
  have c31 : w3.cell? ⟨b, 1, none⟩ = some (.int .i64 rb.toNat) := b3.cell 1 rfl
  have c32 : w3.cell? ⟨b, 2, none⟩ = some (.int .i64 s) := b3.cell 2 rfl
  obtain ⟨AF, cF, w4, k4, x4⟩ := stF x3 hs
  have b4 := x4.eq (by ac_rfl : _ = blkA b 25 [st t, .int .i64 rb.toNat, .int .i64 s] * (rowA 5 1 (.slice AF 4 cF) 4 (bv (be4 s)) * (blkA kL 5 (bv [1, rb, UInt8.ofNat t.length]) * (blkA kA 5 (bv reelB) * (preA kT (bv t) * X)))))
  have c40 : w4.cell? ⟨b, 0, none⟩ = some (st t) := b4.cell 0 rfl
  have c41 : w4.cell? ⟨b, 1, none⟩ = some (.int .i64 rb.toNat) := b4.cell 1 rfl
  have c42 : w4.cell? ⟨b, 2, none⟩ = some (.int .i64 s) := b4.cell 2 rfl
  obtain ⟨w5, k5, x5⟩ := stB (x4.eq (by ac_rfl : _ = blkA kA 5 (bv reelB) * (rowA 5 1 (.slice AF 4 cF) 4 (bv (be4 s)) * (blkA kL 5 (bv [1, rb, UInt8.ofNat t.length]) * (preA kT (bv t) * (blkA b 25 [st t, .int .i64 rb.toNat, .int .i64 s] * X))))))
  have b5 := x5.eq (by ac_rfl : _ = blkA b 25 [st t, .int .i64 rb.toNat, .int .i64 s] * (litA kA (bv reelB) * (rowA 5 1 (.slice AF 4 cF) 4 (bv (be4 s)) * (blkA kL 5 (bv [1, rb, UInt8.ofNat t.length]) * (preA kT (bv t) * X)))))
  have c50 : w5.cell? ⟨b, 0, none⟩ = some (st t) := b5.cell 0 rfl
  have c51 : w5.cell? ⟨b, 1, none⟩ = some (.int .i64 rb.toNat) := b5.cell 1 rfl
  have c52 : w5.cell? ⟨b, 2, none⟩ = some (.int .i64 s) := b5.cell 2 rfl
  obtain ⟨k6, w6, v, w7, k6s, k7, x7, x6⟩ := label_sum (cT := cT) ht (x5.eq (by ac_rfl : _ = litA kA (bv reelB) * (blkA kL 5 (bv [1, rb, UInt8.ofNat t.length]) * (preA kT (bv t) * (rowA 5 1 (.slice AF 4 cF) 4 (bv (be4 s)) * (blkA b 25 [st t, .int .i64 rb.toNat, .int .i64 s] * X))))))
  have hR := hRt v w7 x7.drop2
  have c60 : w6.cell? ⟨b, 0, none⟩ = some (st t) := x6.cell 0 rfl
  have c61 : w6.cell? ⟨b, 1, none⟩ = some (.int .i64 rb.toNat) := x6.cell 1 rfl
  have c62 : w6.cell? ⟨b, 2, none⟩ = some (.int .i64 s) := x6.cell 2 rfl
  have c70 : w7.cell? ⟨b, 0, none⟩ = some (st t) := x7.swap.cell 0 rfl
  have c71 : w7.cell? ⟨b, 1, none⟩ = some (.int .i64 rb.toNat) := x7.swap.cell 1 rfl
  have c72 : w7.cell? ⟨b, 2, none⟩ = some (.int .i64 s) := x7.swap.cell 2 rfl
  have e1 := cv23 rb
  have e2 := cv3 ht
  have e3 := len9 3 ⟨t.toArray⟩
  rw [st_size] at e3
  obtain ⟨n, hn⟩ : ∃ n, n = t.length := ⟨_, rfl⟩
  rw [← hn] at e2 e3 k3 k1 k6s
  unfold f16.o39
  simp [addL, ← hw0, e1, e2, e3, c00, c01, c02, k1, c10, c11, c12, k2, c20, c21, c22, k3, c30, c31, c32, k4, c40, c41, c42, k5, c50, c51, c52, k6s, k7, c60, c61, c62, c70, c71, c72, chkThen, f16.k0, after, hR]
end
end Go.Sh.YtodkllcibbidoaaDoor

namespace Go.Sh.YtodkllcibbidoaaDoor
open Go Go.Proofs Go.RowKit Go.Lib
set_option linter.unusedVariables false
set_option linter.unusedSimpArgs false
set_option maxRecDepth 100000
section
variable {W : World} {X : Asn W.heap.size}
theorem f16_o40 {w : World} {t : List UInt8} {rb : UInt8} {s b : Nat} {Rt : List Value → World → Prop} (ht : t.length ≤ 100) (hs : s < 4294967296) (x : Sat W (blkA b 25 [st t, .int .i64 rb.toNat, .int .i64 s] * X) w) (hRt : ∀ v w', Sat W (rowA 5 1 v (t.length + 15) (bv (labelB t rb s)) * X) w' → Rt [v] w') : f16.o40 C Rt (.pointer (some ⟨b, 0, none⟩)) w := by
  have x0 := x.drew
  obtain ⟨w0, hw0⟩ : ∃ w0, w0 = w.drew := ⟨_, rfl⟩
  rw [← hw0] at x0
  have b0 := x0
  have c00 : w0.cell? ⟨b, 0, none⟩ = some (st t) := b0.cell 0 rfl
  have c01 : w0.cell? ⟨b, 1, none⟩ = some (.int .i64 rb.toNat) := b0.cell 1 rfl
  have c02 : w0.cell? ⟨b, 2, none⟩ = some (.int .i64 s) := b0.cell 2 rfl
  obtain ⟨kT, cT, w1, k1, x1⟩ := stT x0 t
  have b1 := x1.eq (by ac_rfl : _ = blkA b 25 [st t, .int .i64 rb.toNat, .int .i64 s] * (preA kT (bv t) * X))
  have c10 : w1.cell? ⟨b, 0, none⟩ = some (st t) := b1.cell 0 rfl
  have c11 : w1.cell? ⟨b, 1, none⟩ = some (.int .i64 rb.toNat) := b1.cell 1 rfl
  have c12 : w1.cell? ⟨b, 2, none⟩ = some (.int .i64 s) := b1.cell 2 rfl
  obtain ⟨kA, w2, k2, x2⟩ := stA x1
  have b2 := x2.eq (by ac_rfl : _ = blkA b 25 [st t, .int .i64 rb.toNat, .int .i64 s] * (blkA kA 5 (bv reelB) * (preA kT (bv t) * X)))
  have c20 : w2.cell? ⟨b, 0, none⟩ = some (st t) := b2.cell 0 rfl
  have c21 : w2.cell? ⟨b, 1, none⟩ = some (.int .i64 rb.toNat) := b2.cell 1 rfl
  have c22 : w2.cell? ⟨b, 2, none⟩ = some (.int .i64 s) := b2.cell 2 rfl
  obtain ⟨AF, cF, w3, k3, x3⟩ := stF x2 hs
  have b3 := x3.eq (by ac_rfl : _ = blkA b 25 [st t, .int .i64 rb.toNat, .int .i64 s] * (rowA 5 1 (.slice AF 4 cF) 4 (bv (be4 s)) * (blkA kA 5 (bv reelB) * (preA kT (bv t) * X))))
  have c30 : w3.cell? ⟨b, 0, none⟩ = some (st t) := b3.cell 0 rfl
  have c31 : w3.cell? ⟨b, 1, none⟩ = some (.int .i64 rb.toNat) := b3.cell 1 rfl
  have c32 : w3.cell? ⟨b, 2, none⟩ = some (.int .i64 s) := b3.cell 2 rfl
  obtain ⟨w4, k4, x4⟩ := stB (x3.eq (by ac_rfl : _ = blkA kA 5 (bv reelB) * (rowA 5 1 (.slice AF 4 cF) 4 (bv (be4 s)) * (preA kT (bv t) * (blkA b 25 [st t, .int .i64 rb.toNat, .int .i64 s] * X)))))
  have b4 := x4.eq (by ac_rfl : _ = blkA b 25 [st t, .int .i64 rb.toNat, .int .i64 s] * (litA kA (bv reelB) * (rowA 5 1 (.slice AF 4 cF) 4 (bv (be4 s)) * (preA kT (bv t) * X))))
  have c40 : w4.cell? ⟨b, 0, none⟩ = some (st t) := b4.cell 0 rfl
  have c41 : w4.cell? ⟨b, 1, none⟩ = some (.int .i64 rb.toNat) := b4.cell 1 rfl
  have c42 : w4.cell? ⟨b, 2, none⟩ = some (.int .i64 s) := b4.cell 2 rfl
  obtain ⟨kL, w5, k5, x5⟩ := stL x4 rb t.length ht
  have b5 := x5.eq (by ac_rfl : _ = blkA b 25 [st t, .int .i64 rb.toNat, .int .i64 s] * (blkA kL 5 (bv [1, rb, UInt8.ofNat t.length]) * (litA kA (bv reelB) * (rowA 5 1 (.slice AF 4 cF) 4 (bv (be4 s)) * (preA kT (bv t) * X)))))
  have c50 : w5.cell? ⟨b, 0, none⟩ = some (st t) := b5.cell 0 rfl
  have c51 : w5.cell? ⟨b, 1, none⟩ = some (.int .i64 rb.toNat) := b5.cell 1 rfl
  have c52 : w5.cell? ⟨b, 2, none⟩ = some (.int .i64 s) := b5.cell 2 rfl
  obtain ⟨k6, w6, v, w7, k6s, k7, x7, x6⟩ := label_sum (cT := cT) ht (x5.eq (by ac_rfl : _ = litA kA (bv reelB) * (blkA kL 5 (bv [1, rb, UInt8.ofNat t.length]) * (preA kT (bv t) * (rowA 5 1 (.slice AF 4 cF) 4 (bv (be4 s)) * (blkA b 25 [st t, .int .i64 rb.toNat, .int .i64 s] * X))))))
  have hR := hRt v w7 x7.drop2
  have c60 : w6.cell? ⟨b, 0, none⟩ = some (st t) := x6.cell 0 rfl
  have c61 : w6.cell? ⟨b, 1, none⟩ = some (.int .i64 rb.toNat) := x6.cell 1 rfl
  have c62 : w6.cell? ⟨b, 2, none⟩ = some (.int .i64 s) := x6.cell 2 rfl
  have c70 : w7.cell? ⟨b, 0, none⟩ = some (st t) := x7.swap.cell 0 rfl
  have c71 : w7.cell? ⟨b, 1, none⟩ = some (.int .i64 rb.toNat) := x7.swap.cell 1 rfl
  have c72 : w7.cell? ⟨b, 2, none⟩ = some (.int .i64 s) := x7.swap.cell 2 rfl
  have e1 := cv23 rb
  have e2 := cv3 ht
  have e3 := len9 3 ⟨t.toArray⟩
  rw [st_size] at e3
  obtain ⟨n, hn⟩ : ∃ n, n = t.length := ⟨_, rfl⟩
  rw [← hn] at e2 e3 k5 k1 k6s
  unfold f16.o40
  simp [addL, ← hw0, e1, e2, e3, c00, c01, c02, k1, c10, c11, c12, k2, c20, c21, c22, k3, c30, c31, c32, k4, c40, c41, c42, k5, c50, c51, c52, k6s, k7, c60, c61, c62, c70, c71, c72, chkThen, f16.k0, after, hR]
theorem f16_o41 {w : World} {t : List UInt8} {rb : UInt8} {s b : Nat} {Rt : List Value → World → Prop} (ht : t.length ≤ 100) (hs : s < 4294967296) (x : Sat W (blkA b 25 [st t, .int .i64 rb.toNat, .int .i64 s] * X) w) (hRt : ∀ v w', Sat W (rowA 5 1 v (t.length + 15) (bv (labelB t rb s)) * X) w' → Rt [v] w') : f16.o41 C Rt (.pointer (some ⟨b, 0, none⟩)) w := by
  have x0 := x.drew
  obtain ⟨w0, hw0⟩ : ∃ w0, w0 = w.drew := ⟨_, rfl⟩
  rw [← hw0] at x0
  have b0 := x0
  have c00 : w0.cell? ⟨b, 0, none⟩ = some (st t) := b0.cell 0 rfl
  have c01 : w0.cell? ⟨b, 1, none⟩ = some (.int .i64 rb.toNat) := b0.cell 1 rfl
  have c02 : w0.cell? ⟨b, 2, none⟩ = some (.int .i64 s) := b0.cell 2 rfl
  obtain ⟨kT, cT, w1, k1, x1⟩ := stT x0 t
  have b1 := x1.eq (by ac_rfl : _ = blkA b 25 [st t, .int .i64 rb.toNat, .int .i64 s] * (preA kT (bv t) * X))
  have c10 : w1.cell? ⟨b, 0, none⟩ = some (st t) := b1.cell 0 rfl
  have c11 : w1.cell? ⟨b, 1, none⟩ = some (.int .i64 rb.toNat) := b1.cell 1 rfl
  have c12 : w1.cell? ⟨b, 2, none⟩ = some (.int .i64 s) := b1.cell 2 rfl
  obtain ⟨kA, w2, k2, x2⟩ := stA x1
  have b2 := x2.eq (by ac_rfl : _ = blkA b 25 [st t, .int .i64 rb.toNat, .int .i64 s] * (blkA kA 5 (bv reelB) * (preA kT (bv t) * X)))
  have c20 : w2.cell? ⟨b, 0, none⟩ = some (st t) := b2.cell 0 rfl
  have c21 : w2.cell? ⟨b, 1, none⟩ = some (.int .i64 rb.toNat) := b2.cell 1 rfl
  have c22 : w2.cell? ⟨b, 2, none⟩ = some (.int .i64 s) := b2.cell 2 rfl
  obtain ⟨AF, cF, w3, k3, x3⟩ := stF x2 hs
  have b3 := x3.eq (by ac_rfl : _ = blkA b 25 [st t, .int .i64 rb.toNat, .int .i64 s] * (rowA 5 1 (.slice AF 4 cF) 4 (bv (be4 s)) * (blkA kA 5 (bv reelB) * (preA kT (bv t) * X))))
  have c30 : w3.cell? ⟨b, 0, none⟩ = some (st t) := b3.cell 0 rfl
  have c31 : w3.cell? ⟨b, 1, none⟩ = some (.int .i64 rb.toNat) := b3.cell 1 rfl
  have c32 : w3.cell? ⟨b, 2, none⟩ = some (.int .i64 s) := b3.cell 2 rfl
  obtain ⟨kL, w4, k4, x4⟩ := stL x3 rb t.length ht
  have b4 := x4.eq (by ac_rfl : _ = blkA b 25 [st t, .int .i64 rb.toNat, .int .i64 s] * (blkA kL 5 (bv [1, rb, UInt8.ofNat t.length]) * (rowA 5 1 (.slice AF 4 cF) 4 (bv (be4 s)) * (blkA kA 5 (bv reelB) * (preA kT (bv t) * X)))))
  have c40 : w4.cell? ⟨b, 0, none⟩ = some (st t) := b4.cell 0 rfl
  have c41 : w4.cell? ⟨b, 1, none⟩ = some (.int .i64 rb.toNat) := b4.cell 1 rfl
  have c42 : w4.cell? ⟨b, 2, none⟩ = some (.int .i64 s) := b4.cell 2 rfl
  obtain ⟨w5, k5, x5⟩ := stB (x4.eq (by ac_rfl : _ = blkA kA 5 (bv reelB) * (blkA kL 5 (bv [1, rb, UInt8.ofNat t.length]) * (rowA 5 1 (.slice AF 4 cF) 4 (bv (be4 s)) * (preA kT (bv t) * (blkA b 25 [st t, .int .i64 rb.toNat, .int .i64 s] * X))))))
  have b5 := x5.eq (by ac_rfl : _ = blkA b 25 [st t, .int .i64 rb.toNat, .int .i64 s] * (litA kA (bv reelB) * (blkA kL 5 (bv [1, rb, UInt8.ofNat t.length]) * (rowA 5 1 (.slice AF 4 cF) 4 (bv (be4 s)) * (preA kT (bv t) * X)))))
  have c50 : w5.cell? ⟨b, 0, none⟩ = some (st t) := b5.cell 0 rfl
  have c51 : w5.cell? ⟨b, 1, none⟩ = some (.int .i64 rb.toNat) := b5.cell 1 rfl
  have c52 : w5.cell? ⟨b, 2, none⟩ = some (.int .i64 s) := b5.cell 2 rfl
  obtain ⟨k6, w6, v, w7, k6s, k7, x7, x6⟩ := label_sum (cT := cT) ht (x5.eq (by ac_rfl : _ = litA kA (bv reelB) * (blkA kL 5 (bv [1, rb, UInt8.ofNat t.length]) * (preA kT (bv t) * (rowA 5 1 (.slice AF 4 cF) 4 (bv (be4 s)) * (blkA b 25 [st t, .int .i64 rb.toNat, .int .i64 s] * X))))))
  have hR := hRt v w7 x7.drop2
  have c60 : w6.cell? ⟨b, 0, none⟩ = some (st t) := x6.cell 0 rfl
  have c61 : w6.cell? ⟨b, 1, none⟩ = some (.int .i64 rb.toNat) := x6.cell 1 rfl
  have c62 : w6.cell? ⟨b, 2, none⟩ = some (.int .i64 s) := x6.cell 2 rfl
  have c70 : w7.cell? ⟨b, 0, none⟩ = some (st t) := x7.swap.cell 0 rfl
  have c71 : w7.cell? ⟨b, 1, none⟩ = some (.int .i64 rb.toNat) := x7.swap.cell 1 rfl
  have c72 : w7.cell? ⟨b, 2, none⟩ = some (.int .i64 s) := x7.swap.cell 2 rfl
  have e1 := cv23 rb
  have e2 := cv3 ht
  have e3 := len9 3 ⟨t.toArray⟩
  rw [st_size] at e3
  obtain ⟨n, hn⟩ : ∃ n, n = t.length := ⟨_, rfl⟩
  rw [← hn] at e2 e3 k4 k1 k6s
  unfold f16.o41
  simp [addL, ← hw0, e1, e2, e3, c00, c01, c02, k1, c10, c11, c12, k2, c20, c21, c22, k3, c30, c31, c32, k4, c40, c41, c42, k5, c50, c51, c52, k6s, k7, c60, c61, c62, c70, c71, c72, chkThen, f16.k0, after, hR]
theorem f16_o42 {w : World} {t : List UInt8} {rb : UInt8} {s b : Nat} {Rt : List Value → World → Prop} (ht : t.length ≤ 100) (hs : s < 4294967296) (x : Sat W (blkA b 25 [st t, .int .i64 rb.toNat, .int .i64 s] * X) w) (hRt : ∀ v w', Sat W (rowA 5 1 v (t.length + 15) (bv (labelB t rb s)) * X) w' → Rt [v] w') : f16.o42 C Rt (.pointer (some ⟨b, 0, none⟩)) w := by
  have x0 := x.drew
  obtain ⟨w0, hw0⟩ : ∃ w0, w0 = w.drew := ⟨_, rfl⟩
  rw [← hw0] at x0
  have b0 := x0
  have c00 : w0.cell? ⟨b, 0, none⟩ = some (st t) := b0.cell 0 rfl
  have c01 : w0.cell? ⟨b, 1, none⟩ = some (.int .i64 rb.toNat) := b0.cell 1 rfl
  have c02 : w0.cell? ⟨b, 2, none⟩ = some (.int .i64 s) := b0.cell 2 rfl
  obtain ⟨kT, cT, w1, k1, x1⟩ := stT x0 t
  have b1 := x1.eq (by ac_rfl : _ = blkA b 25 [st t, .int .i64 rb.toNat, .int .i64 s] * (preA kT (bv t) * X))
  have c10 : w1.cell? ⟨b, 0, none⟩ = some (st t) := b1.cell 0 rfl
  have c11 : w1.cell? ⟨b, 1, none⟩ = some (.int .i64 rb.toNat) := b1.cell 1 rfl
  have c12 : w1.cell? ⟨b, 2, none⟩ = some (.int .i64 s) := b1.cell 2 rfl
  obtain ⟨kL, w2, k2, x2⟩ := stL x1 rb t.length ht
  have b2 := x2.eq (by ac_rfl : _ = blkA b 25 [st t, .int .i64 rb.toNat, .int .i64 s] * (blkA kL 5 (bv [1, rb, UInt8.ofNat t.length]) * (preA kT (bv t) * X)))
  have c20 : w2.cell? ⟨b, 0, none⟩ = some (st t) := b2.cell 0 rfl
  have c21 : w2.cell? ⟨b, 1, none⟩ = some (.int .i64 rb.toNat) := b2.cell 1 rfl
  have c22 : w2.cell? ⟨b, 2, none⟩ = some (.int .i64 s) := b2.cell 2 rfl
  obtain ⟨kA, w3, k3, x3⟩ := stA x2
  have b3 := x3.eq (by ac_rfl : _ = blkA b 25 [st t, .int .i64 rb.toNat, .int .i64 s] * (blkA kA 5 (bv reelB) * (blkA kL 5 (bv [1, rb, UInt8.ofNat t.length]) * (preA kT (bv t) * X))))
  have c30 : w3.cell? ⟨b, 0, none⟩ = some (st t) := b3.cell 0 rfl
  have c31 : w3.cell? ⟨b, 1, none⟩ = some (.int .i64 rb.toNat) := b3.cell 1 rfl
  have c32 : w3.cell? ⟨b, 2, none⟩ = some (.int .i64 s) := b3.cell 2 rfl
  obtain ⟨w4, k4, x4⟩ := stB x3
  have b4 := x4.eq (by ac_rfl : _ = blkA b 25 [st t, .int .i64 rb.toNat, .int .i64 s] * (litA kA (bv reelB) * (blkA kL 5 (bv [1, rb, UInt8.ofNat t.length]) * (preA kT (bv t) * X))))
  have c40 : w4.cell? ⟨b, 0, none⟩ = some (st t) := b4.cell 0 rfl
  have c41 : w4.cell? ⟨b, 1, none⟩ = some (.int .i64 rb.toNat) := b4.cell 1 rfl
  have c42 : w4.cell? ⟨b, 2, none⟩ = some (.int .i64 s) := b4.cell 2 rfl
  obtain ⟨AF, cF, w5, k5, x5⟩ := stF x4 hs
  have b5 := x5.eq (by ac_rfl : _ = blkA b 25 [st t, .int .i64 rb.toNat, .int .i64 s] * (rowA 5 1 (.slice AF 4 cF) 4 (bv (be4 s)) * (litA kA (bv reelB) * (blkA kL 5 (bv [1, rb, UInt8.ofNat t.length]) * (preA kT (bv t) * X)))))
  have c50 : w5.cell? ⟨b, 0, none⟩ = some (st t) := b5.cell 0 rfl
  have c51 : w5.cell? ⟨b, 1, none⟩ = some (.int .i64 rb.toNat) := b5.cell 1 rfl
  have c52 : w5.cell? ⟨b, 2, none⟩ = some (.int .i64 s) := b5.cell 2 rfl
  obtain ⟨k6, w6, v, w7, k6s, k7, x7, x6⟩ := label_sum (cT := cT) ht (x5.eq (by ac_rfl : _ = litA kA (bv reelB) * (blkA kL 5 (bv [1, rb, UInt8.ofNat t.length]) * (preA kT (bv t) * (rowA 5 1 (.slice AF 4 cF) 4 (bv (be4 s)) * (blkA b 25 [st t, .int .i64 rb.toNat, .int .i64 s] * X))))))
  have hR := hRt v w7 x7.drop2
  have c60 : w6.cell? ⟨b, 0, none⟩ = some (st t) := x6.cell 0 rfl
  have c61 : w6.cell? ⟨b, 1, none⟩ = some (.int .i64 rb.toNat) := x6.cell 1 rfl
  have c62 : w6.cell? ⟨b, 2, none⟩ = some (.int .i64 s) := x6.cell 2 rfl
  have c70 : w7.cell? ⟨b, 0, none⟩ = some (st t) := x7.swap.cell 0 rfl
  have c71 : w7.cell? ⟨b, 1, none⟩ = some (.int .i64 rb.toNat) := x7.swap.cell 1 rfl
  have c72 : w7.cell? ⟨b, 2, none⟩ = some (.int .i64 s) := x7.swap.cell 2 rfl
  have e1 := cv23 rb
  have e2 := cv3 ht
  have e3 := len9 3 ⟨t.toArray⟩
  rw [st_size] at e3
  obtain ⟨n, hn⟩ : ∃ n, n = t.length := ⟨_, rfl⟩
  rw [← hn] at e2 e3 k2 k1 k6s
  unfold f16.o42
  simp [addL, ← hw0, e1, e2, e3, c00, c01, c02, k1, c10, c11, c12, k2, c20, c21, c22, k3, c30, c31, c32, k4, c40, c41, c42, k5, c50, c51, c52, k6s, k7, c60, c61, c62, c70, c71, c72, chkThen, f16.k0, after, hR]
theorem f16_o43 {w : World} {t : List UInt8} {rb : UInt8} {s b : Nat} {Rt : List Value → World → Prop} (ht : t.length ≤ 100) (hs : s < 4294967296) (x : Sat W (blkA b 25 [st t, .int .i64 rb.toNat, .int .i64 s] * X) w) (hRt : ∀ v w', Sat W (rowA 5 1 v (t.length + 15) (bv (labelB t rb s)) * X) w' → Rt [v] w') : f16.o43 C Rt (.pointer (some ⟨b, 0, none⟩)) w := by
  have x0 := x.drew
  obtain ⟨w0, hw0⟩ : ∃ w0, w0 = w.drew := ⟨_, rfl⟩
  rw [← hw0] at x0
  have b0 := x0
  have c00 : w0.cell? ⟨b, 0, none⟩ = some (st t) := b0.cell 0 rfl
  have c01 : w0.cell? ⟨b, 1, none⟩ = some (.int .i64 rb.toNat) := b0.cell 1 rfl
  have c02 : w0.cell? ⟨b, 2, none⟩ = some (.int .i64 s) := b0.cell 2 rfl
  obtain ⟨kT, cT, w1, k1, x1⟩ := stT x0 t
  have b1 := x1.eq (by ac_rfl : _ = blkA b 25 [st t, .int .i64 rb.toNat, .int .i64 s] * (preA kT (bv t) * X))
  have c10 : w1.cell? ⟨b, 0, none⟩ = some (st t) := b1.cell 0 rfl
  have c11 : w1.cell? ⟨b, 1, none⟩ = some (.int .i64 rb.toNat) := b1.cell 1 rfl
  have c12 : w1.cell? ⟨b, 2, none⟩ = some (.int .i64 s) := b1.cell 2 rfl
  obtain ⟨kL, w2, k2, x2⟩ := stL x1 rb t.length ht
  have b2 := x2.eq (by ac_rfl : _ = blkA b 25 [st t, .int .i64 rb.toNat, .int .i64 s] * (blkA kL 5 (bv [1, rb, UInt8.ofNat t.length]) * (preA kT (bv t) * X)))
  have c20 : w2.cell? ⟨b, 0, none⟩ = some (st t) := b2.cell 0 rfl
  have c21 : w2.cell? ⟨b, 1, none⟩ = some (.int .i64 rb.toNat) := b2.cell 1 rfl
  have c22 : w2.cell? ⟨b, 2, none⟩ = some (.int .i64 s) := b2.cell 2 rfl
  obtain ⟨kA, w3, k3, x3⟩ := stA x2
  have b3 := x3.eq (by ac_rfl : _ = blkA b 25 [st t, .int .i64 rb.toNat, .int .i64 s] * (blkA kA 5 (bv reelB) * (blkA kL 5 (bv [1, rb, UInt8.ofNat t.length]) * (preA kT (bv t) * X))))
  have c30 : w3.cell? ⟨b, 0, none⟩ = some (st t) := b3.cell 0 rfl
  have c31 : w3.cell? ⟨b, 1, none⟩ = some (.int .i64 rb.toNat) := b3.cell 1 rfl
  have c32 : w3.cell? ⟨b, 2, none⟩ = some (.int .i64 s) := b3.cell 2 rfl
  obtain ⟨AF, cF, w4, k4, x4⟩ := stF x3 hs
  have b4 := x4.eq (by ac_rfl : _ = blkA b 25 [st t, .int .i64 rb.toNat, .int .i64 s] * (rowA 5 1 (.slice AF 4 cF) 4 (bv (be4 s)) * (blkA kA 5 (bv reelB) * (blkA kL 5 (bv [1, rb, UInt8.ofNat t.length]) * (preA kT (bv t) * X)))))
  have c40 : w4.cell? ⟨b, 0, none⟩ = some (st t) := b4.cell 0 rfl
  have c41 : w4.cell? ⟨b, 1, none⟩ = some (.int .i64 rb.toNat) := b4.cell 1 rfl
  have c42 : w4.cell? ⟨b, 2, none⟩ = some (.int .i64 s) := b4.cell 2 rfl
  obtain ⟨w5, k5, x5⟩ := stB (x4.eq (by ac_rfl : _ = blkA kA 5 (bv reelB) * (rowA 5 1 (.slice AF 4 cF) 4 (bv (be4 s)) * (blkA kL 5 (bv [1, rb, UInt8.ofNat t.length]) * (preA kT (bv t) * (blkA b 25 [st t, .int .i64 rb.toNat, .int .i64 s] * X))))))
  have b5 := x5.eq (by ac_rfl : _ = blkA b 25 [st t, .int .i64 rb.toNat, .int .i64 s] * (litA kA (bv reelB) * (rowA 5 1 (.slice AF 4 cF) 4 (bv (be4 s)) * (blkA kL 5 (bv [1, rb, UInt8.ofNat t.length]) * (preA kT (bv t) * X)))))
  have c50 : w5.cell? ⟨b, 0, none⟩ = some (st t) := b5.cell 0 rfl
  have c51 : w5.cell? ⟨b, 1, none⟩ = some (.int .i64 rb.toNat) := b5.cell 1 rfl
  have c52 : w5.cell? ⟨b, 2, none⟩ = some (.int .i64 s) := b5.cell 2 rfl
  obtain ⟨k6, w6, v, w7, k6s, k7, x7, x6⟩ := label_sum (cT := cT) ht (x5.eq (by ac_rfl : _ = litA kA (bv reelB) * (blkA kL 5 (bv [1, rb, UInt8.ofNat t.length]) * (preA kT (bv t) * (rowA 5 1 (.slice AF 4 cF) 4 (bv (be4 s)) * (blkA b 25 [st t, .int .i64 rb.toNat, .int .i64 s] * X))))))
  have hR := hRt v w7 x7.drop2
  have c60 : w6.cell? ⟨b, 0, none⟩ = some (st t) := x6.cell 0 rfl
  have c61 : w6.cell? ⟨b, 1, none⟩ = some (.int .i64 rb.toNat) := x6.cell 1 rfl
  have c62 : w6.cell? ⟨b, 2, none⟩ = some (.int .i64 s) := x6.cell 2 rfl
  have c70 : w7.cell? ⟨b, 0, none⟩ = some (st t) := x7.swap.cell 0 rfl
  have c71 : w7.cell? ⟨b, 1, none⟩ = some (.int .i64 rb.toNat) := x7.swap.cell 1 rfl
  have c72 : w7.cell? ⟨b, 2, none⟩ = some (.int .i64 s) := x7.swap.cell 2 rfl
  have e1 := cv23 rb
  have e2 := cv3 ht
  have e3 := len9 3 ⟨t.toArray⟩
  rw [st_size] at e3
  obtain ⟨n, hn⟩ : ∃ n, n = t.length := ⟨_, rfl⟩
  rw [← hn] at e2 e3 k2 k1 k6s
  unfold f16.o43
  simp [addL, ← hw0, e1, e2, e3, c00, c01, c02, k1, c10, c11, c12, k2, c20, c21, c22, k3, c30, c31, c32, k4, c40, c41, c42, k5, c50, c51, c52, k6s, k7, c60, c61, c62, c70, c71, c72, chkThen, f16.k0, after, hR]
theorem f16_o44 {w : World} {t : List UInt8} {rb : UInt8} {s b : Nat} {Rt : List Value → World → Prop} (ht : t.length ≤ 100) (hs : s < 4294967296) (x : Sat W (blkA b 25 [st t, .int .i64 rb.toNat, .int .i64 s] * X) w) (hRt : ∀ v w', Sat W (rowA 5 1 v (t.length + 15) (bv (labelB t rb s)) * X) w' → Rt [v] w') : f16.o44 C Rt (.pointer (some ⟨b, 0, none⟩)) w := by
  have x0 := x.drew
  obtain ⟨w0, hw0⟩ : ∃ w0, w0 = w.drew := ⟨_, rfl⟩
  rw [← hw0] at x0
  have b0 := x0
  have c00 : w0.cell? ⟨b, 0, none⟩ = some (st t) := b0.cell 0 rfl
  have c01 : w0.cell? ⟨b, 1, none⟩ = some (.int .i64 rb.toNat) := b0.cell 1 rfl
  have c02 : w0.cell? ⟨b, 2, none⟩ = some (.int .i64 s) := b0.cell 2 rfl
  obtain ⟨kT, cT, w1, k1, x1⟩ := stT x0 t
  have b1 := x1.eq (by ac_rfl : _ = blkA b 25 [st t, .int .i64 rb.toNat, .int .i64 s] * (preA kT (bv t) * X))
  have c10 : w1.cell? ⟨b, 0, none⟩ = some (st t) := b1.cell 0 rfl
  have c11 : w1.cell? ⟨b, 1, none⟩ = some (.int .i64 rb.toNat) := b1.cell 1 rfl
  have c12 : w1.cell? ⟨b, 2, none⟩ = some (.int .i64 s) := b1.cell 2 rfl
  obtain ⟨kL, w2, k2, x2⟩ := stL x1 rb t.length ht
  have b2 := x2.eq (by ac_rfl : _ = blkA b 25 [st t, .int .i64 rb.toNat, .int .i64 s] * (blkA kL 5 (bv [1, rb, UInt8.ofNat t.length]) * (preA kT (bv t) * X)))
  have c20 : w2.cell? ⟨b, 0, none⟩ = some (st t) := b2.cell 0 rfl
  have c21 : w2.cell? ⟨b, 1, none⟩ = some (.int .i64 rb.toNat) := b2.cell 1 rfl
  have c22 : w2.cell? ⟨b, 2, none⟩ = some (.int .i64 s) := b2.cell 2 rfl
  obtain ⟨AF, cF, w3, k3, x3⟩ := stF x2 hs
  have b3 := x3.eq (by ac_rfl : _ = blkA b 25 [st t, .int .i64 rb.toNat, .int .i64 s] * (rowA 5 1 (.slice AF 4 cF) 4 (bv (be4 s)) * (blkA kL 5 (bv [1, rb, UInt8.ofNat t.length]) * (preA kT (bv t) * X))))
  have c30 : w3.cell? ⟨b, 0, none⟩ = some (st t) := b3.cell 0 rfl
  have c31 : w3.cell? ⟨b, 1, none⟩ = some (.int .i64 rb.toNat) := b3.cell 1 rfl
  have c32 : w3.cell? ⟨b, 2, none⟩ = some (.int .i64 s) := b3.cell 2 rfl
  obtain ⟨kA, w4, k4, x4⟩ := stA x3
  have b4 := x4.eq (by ac_rfl : _ = blkA b 25 [st t, .int .i64 rb.toNat, .int .i64 s] * (blkA kA 5 (bv reelB) * (rowA 5 1 (.slice AF 4 cF) 4 (bv (be4 s)) * (blkA kL 5 (bv [1, rb, UInt8.ofNat t.length]) * (preA kT (bv t) * X)))))
  have c40 : w4.cell? ⟨b, 0, none⟩ = some (st t) := b4.cell 0 rfl
  have c41 : w4.cell? ⟨b, 1, none⟩ = some (.int .i64 rb.toNat) := b4.cell 1 rfl
  have c42 : w4.cell? ⟨b, 2, none⟩ = some (.int .i64 s) := b4.cell 2 rfl
  obtain ⟨w5, k5, x5⟩ := stB x4
  have b5 := x5.eq (by ac_rfl : _ = blkA b 25 [st t, .int .i64 rb.toNat, .int .i64 s] * (litA kA (bv reelB) * (rowA 5 1 (.slice AF 4 cF) 4 (bv (be4 s)) * (blkA kL 5 (bv [1, rb, UInt8.ofNat t.length]) * (preA kT (bv t) * X)))))
  have c50 : w5.cell? ⟨b, 0, none⟩ = some (st t) := b5.cell 0 rfl
  have c51 : w5.cell? ⟨b, 1, none⟩ = some (.int .i64 rb.toNat) := b5.cell 1 rfl
  have c52 : w5.cell? ⟨b, 2, none⟩ = some (.int .i64 s) := b5.cell 2 rfl
  obtain ⟨k6, w6, v, w7, k6s, k7, x7, x6⟩ := label_sum (cT := cT) ht (x5.eq (by ac_rfl : _ = litA kA (bv reelB) * (blkA kL 5 (bv [1, rb, UInt8.ofNat t.length]) * (preA kT (bv t) * (rowA 5 1 (.slice AF 4 cF) 4 (bv (be4 s)) * (blkA b 25 [st t, .int .i64 rb.toNat, .int .i64 s] * X))))))
  have hR := hRt v w7 x7.drop2
  have c60 : w6.cell? ⟨b, 0, none⟩ = some (st t) := x6.cell 0 rfl
  have c61 : w6.cell? ⟨b, 1, none⟩ = some (.int .i64 rb.toNat) := x6.cell 1 rfl
  have c62 : w6.cell? ⟨b, 2, none⟩ = some (.int .i64 s) := x6.cell 2 rfl
  have c70 : w7.cell? ⟨b, 0, none⟩ = some (st t) := x7.swap.cell 0 rfl
  have c71 : w7.cell? ⟨b, 1, none⟩ = some (.int .i64 rb.toNat) := x7.swap.cell 1 rfl
  have c72 : w7.cell? ⟨b, 2, none⟩ = some (.int .i64 s) := x7.swap.cell 2 rfl
  have e1 := cv23 rb
  have e2 := cv3 ht
  have e3 := len9 3 ⟨t.toArray⟩
  rw [st_size] at e3
  obtain ⟨n, hn⟩ : ∃ n, n = t.length := ⟨_, rfl⟩
  rw [← hn] at e2 e3 k2 k1 k6s
  unfold f16.o44
  simp [addL, ← hw0, e1, e2, e3, c00, c01, c02, k1, c10, c11, c12, k2, c20, c21, c22, k3, c30, c31, c32, k4, c40, c41, c42, k5, c50, c51, c52, k6s, k7, c60, c61, c62, c70, c71, c72, chkThen, f16.k0, after, hR]
theorem f16_o45 {w : World} {t : List UInt8} {rb : UInt8} {s b : Nat} {Rt : List Value → World → Prop} (ht : t.length ≤ 100) (hs : s < 4294967296) (x : Sat W (blkA b 25 [st t, .int .i64 rb.toNat, .int .i64 s] * X) w) (hRt : ∀ v w', Sat W (rowA 5 1 v (t.length + 15) (bv (labelB t rb s)) * X) w' → Rt [v] w') : f16.o45 C Rt (.pointer (some ⟨b, 0, none⟩)) w := by
  have x0 := x.drew
  obtain ⟨w0, hw0⟩ : ∃ w0, w0 = w.drew := ⟨_, rfl⟩
  rw [← hw0] at x0
  have b0 := x0
  have c00 : w0.cell? ⟨b, 0, none⟩ = some (st t) := b0.cell 0 rfl
  have c01 : w0.cell? ⟨b, 1, none⟩ = some (.int .i64 rb.toNat) := b0.cell 1 rfl
  have c02 : w0.cell? ⟨b, 2, none⟩ = some (.int .i64 s) := b0.cell 2 rfl
  obtain ⟨kT, cT, w1, k1, x1⟩ := stT x0 t
  have b1 := x1.eq (by ac_rfl : _ = blkA b 25 [st t, .int .i64 rb.toNat, .int .i64 s] * (preA kT (bv t) * X))
  have c10 : w1.cell? ⟨b, 0, none⟩ = some (st t) := b1.cell 0 rfl
  have c11 : w1.cell? ⟨b, 1, none⟩ = some (.int .i64 rb.toNat) := b1.cell 1 rfl
  have c12 : w1.cell? ⟨b, 2, none⟩ = some (.int .i64 s) := b1.cell 2 rfl
  obtain ⟨AF, cF, w2, k2, x2⟩ := stF x1 hs
  have b2 := x2.eq (by ac_rfl : _ = blkA b 25 [st t, .int .i64 rb.toNat, .int .i64 s] * (rowA 5 1 (.slice AF 4 cF) 4 (bv (be4 s)) * (preA kT (bv t) * X)))
  have c20 : w2.cell? ⟨b, 0, none⟩ = some (st t) := b2.cell 0 rfl
  have c21 : w2.cell? ⟨b, 1, none⟩ = some (.int .i64 rb.toNat) := b2.cell 1 rfl
  have c22 : w2.cell? ⟨b, 2, none⟩ = some (.int .i64 s) := b2.cell 2 rfl
  obtain ⟨kA, w3, k3, x3⟩ := stA x2
  have b3 := x3.eq (by ac_rfl : _ = blkA b 25 [st t, .int .i64 rb.toNat, .int .i64 s] * (blkA kA 5 (bv reelB) * (rowA 5 1 (.slice AF 4 cF) 4 (bv (be4 s)) * (preA kT (bv t) * X))))
  have c30 : w3.cell? ⟨b, 0, none⟩ = some (st t) := b3.cell 0 rfl
  have c31 : w3.cell? ⟨b, 1, none⟩ = some (.int .i64 rb.toNat) := b3.cell 1 rfl
  have c32 : w3.cell? ⟨b, 2, none⟩ = some (.int .i64 s) := b3.cell 2 rfl
  obtain ⟨w4, k4, x4⟩ := stB x3
  have b4 := x4.eq (by ac_rfl : _ = blkA b 25 [st t, .int .i64 rb.toNat, .int .i64 s] * (litA kA (bv reelB) * (rowA 5 1 (.slice AF 4 cF) 4 (bv (be4 s)) * (preA kT (bv t) * X))))
  have c40 : w4.cell? ⟨b, 0, none⟩ = some (st t) := b4.cell 0 rfl
  have c41 : w4.cell? ⟨b, 1, none⟩ = some (.int .i64 rb.toNat) := b4.cell 1 rfl
  have c42 : w4.cell? ⟨b, 2, none⟩ = some (.int .i64 s) := b4.cell 2 rfl
  obtain ⟨kL, w5, k5, x5⟩ := stL x4 rb t.length ht
  have b5 := x5.eq (by ac_rfl : _ = blkA b 25 [st t, .int .i64 rb.toNat, .int .i64 s] * (blkA kL 5 (bv [1, rb, UInt8.ofNat t.length]) * (litA kA (bv reelB) * (rowA 5 1 (.slice AF 4 cF) 4 (bv (be4 s)) * (preA kT (bv t) * X)))))
  have c50 : w5.cell? ⟨b, 0, none⟩ = some (st t) := b5.cell 0 rfl
  have c51 : w5.cell? ⟨b, 1, none⟩ = some (.int .i64 rb.toNat) := b5.cell 1 rfl
  have c52 : w5.cell? ⟨b, 2, none⟩ = some (.int .i64 s) := b5.cell 2 rfl
  obtain ⟨k6, w6, v, w7, k6s, k7, x7, x6⟩ := label_sum (cT := cT) ht (x5.eq (by ac_rfl : _ = litA kA (bv reelB) * (blkA kL 5 (bv [1, rb, UInt8.ofNat t.length]) * (preA kT (bv t) * (rowA 5 1 (.slice AF 4 cF) 4 (bv (be4 s)) * (blkA b 25 [st t, .int .i64 rb.toNat, .int .i64 s] * X))))))
  have hR := hRt v w7 x7.drop2
  have c60 : w6.cell? ⟨b, 0, none⟩ = some (st t) := x6.cell 0 rfl
  have c61 : w6.cell? ⟨b, 1, none⟩ = some (.int .i64 rb.toNat) := x6.cell 1 rfl
  have c62 : w6.cell? ⟨b, 2, none⟩ = some (.int .i64 s) := x6.cell 2 rfl
  have c70 : w7.cell? ⟨b, 0, none⟩ = some (st t) := x7.swap.cell 0 rfl
  have c71 : w7.cell? ⟨b, 1, none⟩ = some (.int .i64 rb.toNat) := x7.swap.cell 1 rfl
  have c72 : w7.cell? ⟨b, 2, none⟩ = some (.int .i64 s) := x7.swap.cell 2 rfl
  have e1 := cv23 rb
  have e2 := cv3 ht
  have e3 := len9 3 ⟨t.toArray⟩
  rw [st_size] at e3
  obtain ⟨n, hn⟩ : ∃ n, n = t.length := ⟨_, rfl⟩
  rw [← hn] at e2 e3 k5 k1 k6s
  unfold f16.o45
  simp [addL, ← hw0, e1, e2, e3, c00, c01, c02, k1, c10, c11, c12, k2, c20, c21, c22, k3, c30, c31, c32, k4, c40, c41, c42, k5, c50, c51, c52, k6s, k7, c60, c61, c62, c70, c71, c72, chkThen, f16.k0, after, hR]
theorem f16_o46 {w : World} {t : List UInt8} {rb : UInt8} {s b : Nat} {Rt : List Value → World → Prop} (ht : t.length ≤ 100) (hs : s < 4294967296) (x : Sat W (blkA b 25 [st t, .int .i64 rb.toNat, .int .i64 s] * X) w) (hRt : ∀ v w', Sat W (rowA 5 1 v (t.length + 15) (bv (labelB t rb s)) * X) w' → Rt [v] w') : f16.o46 C Rt (.pointer (some ⟨b, 0, none⟩)) w := by
  have x0 := x.drew
  obtain ⟨w0, hw0⟩ : ∃ w0, w0 = w.drew := ⟨_, rfl⟩
  rw [← hw0] at x0
  have b0 := x0
  have c00 : w0.cell? ⟨b, 0, none⟩ = some (st t) := b0.cell 0 rfl
  have c01 : w0.cell? ⟨b, 1, none⟩ = some (.int .i64 rb.toNat) := b0.cell 1 rfl
  have c02 : w0.cell? ⟨b, 2, none⟩ = some (.int .i64 s) := b0.cell 2 rfl
  obtain ⟨kT, cT, w1, k1, x1⟩ := stT x0 t
  have b1 := x1.eq (by ac_rfl : _ = blkA b 25 [st t, .int .i64 rb.toNat, .int .i64 s] * (preA kT (bv t) * X))
  have c10 : w1.cell? ⟨b, 0, none⟩ = some (st t) := b1.cell 0 rfl
  have c11 : w1.cell? ⟨b, 1, none⟩ = some (.int .i64 rb.toNat) := b1.cell 1 rfl
  have c12 : w1.cell? ⟨b, 2, none⟩ = some (.int .i64 s) := b1.cell 2 rfl
  obtain ⟨AF, cF, w2, k2, x2⟩ := stF x1 hs
  have b2 := x2.eq (by ac_rfl : _ = blkA b 25 [st t, .int .i64 rb.toNat, .int .i64 s] * (rowA 5 1 (.slice AF 4 cF) 4 (bv (be4 s)) * (preA kT (bv t) * X)))
  have c20 : w2.cell? ⟨b, 0, none⟩ = some (st t) := b2.cell 0 rfl
  have c21 : w2.cell? ⟨b, 1, none⟩ = some (.int .i64 rb.toNat) := b2.cell 1 rfl
  have c22 : w2.cell? ⟨b, 2, none⟩ = some (.int .i64 s) := b2.cell 2 rfl
  obtain ⟨kA, w3, k3, x3⟩ := stA x2
  have b3 := x3.eq (by ac_rfl : _ = blkA b 25 [st t, .int .i64 rb.toNat, .int .i64 s] * (blkA kA 5 (bv reelB) * (rowA 5 1 (.slice AF 4 cF) 4 (bv (be4 s)) * (preA kT (bv t) * X))))
  have c30 : w3.cell? ⟨b, 0, none⟩ = some (st t) := b3.cell 0 rfl
  have c31 : w3.cell? ⟨b, 1, none⟩ = some (.int .i64 rb.toNat) := b3.cell 1 rfl
  have c32 : w3.cell? ⟨b, 2, none⟩ = some (.int .i64 s) := b3.cell 2 rfl
  obtain ⟨kL, w4, k4, x4⟩ := stL x3 rb t.length ht
  have b4 := x4.eq (by ac_rfl : _ = blkA b 25 [st t, .int .i64 rb.toNat, .int .i64 s] * (blkA kL 5 (bv [1, rb, UInt8.ofNat t.length]) * (blkA kA 5 (bv reelB) * (rowA 5 1 (.slice AF 4 cF) 4 (bv (be4 s)) * (preA kT (bv t) * X)))))
  have c40 : w4.cell? ⟨b, 0, none⟩ = some (st t) := b4.cell 0 rfl
  have c41 : w4.cell? ⟨b, 1, none⟩ = some (.int .i64 rb.toNat) := b4.cell 1 rfl
  have c42 : w4.cell? ⟨b, 2, none⟩ = some (.int .i64 s) := b4.cell 2 rfl
  obtain ⟨w5, k5, x5⟩ := stB (x4.eq (by ac_rfl : _ = blkA kA 5 (bv reelB) * (blkA kL 5 (bv [1, rb, UInt8.ofNat t.length]) * (rowA 5 1 (.slice AF 4 cF) 4 (bv (be4 s)) * (preA kT (bv t) * (blkA b 25 [st t, .int .i64 rb.toNat, .int .i64 s] * X))))))
  have b5 := x5.eq (by ac_rfl : _ = blkA b 25 [st t, .int .i64 rb.toNat, .int .i64 s] * (litA kA (bv reelB) * (blkA kL 5 (bv [1, rb, UInt8.ofNat t.length]) * (rowA 5 1 (.slice AF 4 cF) 4 (bv (be4 s)) * (preA kT (bv t) * X)))))
  have c50 : w5.cell? ⟨b, 0, none⟩ = some (st t) := b5.cell 0 rfl
  have c51 : w5.cell? ⟨b, 1, none⟩ = some (.int .i64 rb.toNat) := b5.cell 1 rfl
  have c52 : w5.cell? ⟨b, 2, none⟩ = some (.int .i64 s) := b5.cell 2 rfl
  obtain ⟨k6, w6, v, w7, k6s, k7, x7, x6⟩ := label_sum (cT := cT) ht (x5.eq (by ac_rfl : _ = litA kA (bv reelB) * (blkA kL 5 (bv [1, rb, UInt8.ofNat t.length]) * (preA kT (bv t) * (rowA 5 1 (.slice AF 4 cF) 4 (bv (be4 s)) * (blkA b 25 [st t, .int .i64 rb.toNat, .int .i64 s] * X))))))
  have hR := hRt v w7 x7.drop2
  have c60 : w6.cell? ⟨b, 0, none⟩ = some (st t) := x6.cell 0 rfl
  have c61 : w6.cell? ⟨b, 1, none⟩ = some (.int .i64 rb.toNat) := x6.cell 1 rfl
  have c62 : w6.cell? ⟨b, 2, none⟩ = some (.int .i64 s) := x6.cell 2 rfl
  have c70 : w7.cell? ⟨b, 0, none⟩ = some (st t) := x7.swap.cell 0 rfl
  have c71 : w7.cell? ⟨b, 1, none⟩ = some (.int .i64 rb.toNat) := x7.swap.cell 1 rfl
  have c72 : w7.cell? ⟨b, 2, none⟩ = some (.int .i64 s) := x7.swap.cell 2 rfl
  have e1 := cv23 rb
  have e2 := cv3 ht
  have e3 := len9 3 ⟨t.toArray⟩
  rw [st_size] at e3
  obtain ⟨n, hn⟩ : ∃ n, n = t.length := ⟨_, rfl⟩
  rw [← hn] at e2 e3 k4 k1 k6s
  unfold f16.o46
  simp [addL, ← hw0, e1, e2, e3, c00, c01, c02, k1, c10, c11, c12, k2, c20, c21, c22, k3, c30, c31, c32, k4, c40, c41, c42, k5, c50, c51, c52, k6s, k7, c60, c61, c62, c70, c71, c72, chkThen, f16.k0, after, hR]
theorem f16_o47 {w : World} {t : List UInt8} {rb : UInt8} {s b : Nat} {Rt : List Value → World → Prop} (ht : t.length ≤ 100) (hs : s < 4294967296) (x : Sat W (blkA b 25 [st t, .int .i64 rb.toNat, .int .i64 s] * X) w) (hRt : ∀ v w', Sat W (rowA 5 1 v (t.length + 15) (bv (labelB t rb s)) * X) w' → Rt [v] w') : f16.o47 C Rt (.pointer (some ⟨b, 0, none⟩)) w := by
  have x0 := x.drew
  obtain ⟨w0, hw0⟩ : ∃ w0, w0 = w.drew := ⟨_, rfl⟩
  rw [← hw0] at x0
  have b0 := x0
  have c00 : w0.cell? ⟨b, 0, none⟩ = some (st t) := b0.cell 0 rfl
  have c01 : w0.cell? ⟨b, 1, none⟩ = some (.int .i64 rb.toNat) := b0.cell 1 rfl
  have c02 : w0.cell? ⟨b, 2, none⟩ = some (.int .i64 s) := b0.cell 2 rfl
  obtain ⟨kT, cT, w1, k1, x1⟩ := stT x0 t
  have b1 := x1.eq (by ac_rfl : _ = blkA b 25 [st t, .int .i64 rb.toNat, .int .i64 s] * (preA kT (bv t) * X))
  have c10 : w1.cell? ⟨b, 0, none⟩ = some (st t) := b1.cell 0 rfl
  have c11 : w1.cell? ⟨b, 1, none⟩ = some (.int .i64 rb.toNat) := b1.cell 1 rfl
  have c12 : w1.cell? ⟨b, 2, none⟩ = some (.int .i64 s) := b1.cell 2 rfl
  obtain ⟨AF, cF, w2, k2, x2⟩ := stF x1 hs
  have b2 := x2.eq (by ac_rfl : _ = blkA b 25 [st t, .int .i64 rb.toNat, .int .i64 s] * (rowA 5 1 (.slice AF 4 cF) 4 (bv (be4 s)) * (preA kT (bv t) * X)))
  have c20 : w2.cell? ⟨b, 0, none⟩ = some (st t) := b2.cell 0 rfl
  have c21 : w2.cell? ⟨b, 1, none⟩ = some (.int .i64 rb.toNat) := b2.cell 1 rfl
  have c22 : w2.cell? ⟨b, 2, none⟩ = some (.int .i64 s) := b2.cell 2 rfl
  obtain ⟨kL, w3, k3, x3⟩ := stL x2 rb t.length ht
  have b3 := x3.eq (by ac_rfl : _ = blkA b 25 [st t, .int .i64 rb.toNat, .int .i64 s] * (blkA kL 5 (bv [1, rb, UInt8.ofNat t.length]) * (rowA 5 1 (.slice AF 4 cF) 4 (bv (be4 s)) * (preA kT (bv t) * X))))
  have c30 : w3.cell? ⟨b, 0, none⟩ = some (st t) := b3.cell 0 rfl
  have c31 : w3.cell? ⟨b, 1, none⟩ = some (.int .i64 rb.toNat) := b3.cell 1 rfl
  have c32 : w3.cell? ⟨b, 2, none⟩ = some (.int .i64 s) := b3.cell 2 rfl
  obtain ⟨kA, w4, k4, x4⟩ := stA x3
  have b4 := x4.eq (by ac_rfl : _ = blkA b 25 [st t, .int .i64 rb.toNat, .int .i64 s] * (blkA kA 5 (bv reelB) * (blkA kL 5 (bv [1, rb, UInt8.ofNat t.length]) * (rowA 5 1 (.slice AF 4 cF) 4 (bv (be4 s)) * (preA kT (bv t) * X)))))
  have c40 : w4.cell? ⟨b, 0, none⟩ = some (st t) := b4.cell 0 rfl
  have c41 : w4.cell? ⟨b, 1, none⟩ = some (.int .i64 rb.toNat) := b4.cell 1 rfl
  have c42 : w4.cell? ⟨b, 2, none⟩ = some (.int .i64 s) := b4.cell 2 rfl
  obtain ⟨w5, k5, x5⟩ := stB x4
  have b5 := x5.eq (by ac_rfl : _ = blkA b 25 [st t, .int .i64 rb.toNat, .int .i64 s] * (litA kA (bv reelB) * (blkA kL 5 (bv [1, rb, UInt8.ofNat t.length]) * (rowA 5 1 (.slice AF 4 cF) 4 (bv (be4 s)) * (preA kT (bv t) * X)))))
  have c50 : w5.cell? ⟨b, 0, none⟩ = some (st t) := b5.cell 0 rfl
  have c51 : w5.cell? ⟨b, 1, none⟩ = some (.int .i64 rb.toNat) := b5.cell 1 rfl
  have c52 : w5.cell? ⟨b, 2, none⟩ = some (.int .i64 s) := b5.cell 2 rfl
  obtain ⟨k6, w6, v, w7, k6s, k7, x7, x6⟩ := label_sum (cT := cT) ht (x5.eq (by ac_rfl : _ = litA kA (bv reelB) * (blkA kL 5 (bv [1, rb, UInt8.ofNat t.length]) * (preA kT (bv t) * (rowA 5 1 (.slice AF 4 cF) 4 (bv (be4 s)) * (blkA b 25 [st t, .int .i64 rb.toNat, .int .i64 s] * X))))))
  have hR := hRt v w7 x7.drop2
  have c60 : w6.cell? ⟨b, 0, none⟩ = some (st t) := x6.cell 0 rfl
  have c61 : w6.cell? ⟨b, 1, none⟩ = some (.int .i64 rb.toNat) := x6.cell 1 rfl
  have c62 : w6.cell? ⟨b, 2, none⟩ = some (.int .i64 s) := x6.cell 2 rfl
  have c70 : w7.cell? ⟨b, 0, none⟩ = some (st t) := x7.swap.cell 0 rfl
  have c71 : w7.cell? ⟨b, 1, none⟩ = some (.int .i64 rb.toNat) := x7.swap.cell 1 rfl
  have c72 : w7.cell? ⟨b, 2, none⟩ = some (.int .i64 s) := x7.swap.cell 2 rfl
  have e1 := cv23 rb
  have e2 := cv3 ht
  have e3 := len9 3 ⟨t.toArray⟩
  rw [st_size] at e3
  obtain ⟨n, hn⟩ : ∃ n, n = t.length := ⟨_, rfl⟩
  rw [← hn] at e2 e3 k3 k1 k6s
  unfold f16.o47
  simp [addL, ← hw0, e1, e2, e3, c00, c01, c02, k1, c10, c11, c12, k2, c20, c21, c22, k3, c30, c31, c32, k4, c40, c41, c42, k5, c50, c51, c52, k6s, k7, c60, c61, c62, c70, c71, c72, chkThen, f16.k0, after, hR]
theorem f16_o48 {w : World} {t : List UInt8} {rb : UInt8} {s b : Nat} {Rt : List Value → World → Prop} (ht : t.length ≤ 100) (hs : s < 4294967296) (x : Sat W (blkA b 25 [st t, .int .i64 rb.toNat, .int .i64 s] * X) w) (hRt : ∀ v w', Sat W (rowA 5 1 v (t.length + 15) (bv (labelB t rb s)) * X) w' → Rt [v] w') : f16.o48 C Rt (.pointer (some ⟨b, 0, none⟩)) w := by
  have x0 := x.drew
  obtain ⟨w0, hw0⟩ : ∃ w0, w0 = w.drew := ⟨_, rfl⟩
  rw [← hw0] at x0
  have b0 := x0
  have c00 : w0.cell? ⟨b, 0, none⟩ = some (st t) := b0.cell 0 rfl
  have c01 : w0.cell? ⟨b, 1, none⟩ = some (.int .i64 rb.toNat) := b0.cell 1 rfl
  have c02 : w0.cell? ⟨b, 2, none⟩ = some (.int .i64 s) := b0.cell 2 rfl
  obtain ⟨AF, cF, w1, k1, x1⟩ := stF x0 hs
  have b1 := x1.eq (by ac_rfl : _ = blkA b 25 [st t, .int .i64 rb.toNat, .int .i64 s] * (rowA 5 1 (.slice AF 4 cF) 4 (bv (be4 s)) * X))
  have c10 : w1.cell? ⟨b, 0, none⟩ = some (st t) := b1.cell 0 rfl
  have c11 : w1.cell? ⟨b, 1, none⟩ = some (.int .i64 rb.toNat) := b1.cell 1 rfl
  have c12 : w1.cell? ⟨b, 2, none⟩ = some (.int .i64 s) := b1.cell 2 rfl
  obtain ⟨kA, w2, k2, x2⟩ := stA x1
  have b2 := x2.eq (by ac_rfl : _ = blkA b 25 [st t, .int .i64 rb.toNat, .int .i64 s] * (blkA kA 5 (bv reelB) * (rowA 5 1 (.slice AF 4 cF) 4 (bv (be4 s)) * X)))
  have c20 : w2.cell? ⟨b, 0, none⟩ = some (st t) := b2.cell 0 rfl
  have c21 : w2.cell? ⟨b, 1, none⟩ = some (.int .i64 rb.toNat) := b2.cell 1 rfl
  have c22 : w2.cell? ⟨b, 2, none⟩ = some (.int .i64 s) := b2.cell 2 rfl
  obtain ⟨w3, k3, x3⟩ := stB x2
  have b3 := x3.eq (by ac_rfl : _ = blkA b 25 [st t, .int .i64 rb.toNat, .int .i64 s] * (litA kA (bv reelB) * (rowA 5 1 (.slice AF 4 cF) 4 (bv (be4 s)) * X)))
  have c30 : w3.cell? ⟨b, 0, none⟩ = some (st t) := b3.cell 0 rfl
  have c31 : w3.cell? ⟨b, 1, none⟩ = some (.int .i64 rb.toNat) := b3.cell 1 rfl
  have c32 : w3.cell? ⟨b, 2, none⟩ = some (.int .i64 s) := b3.cell 2 rfl
  obtain ⟨kL, w4, k4, x4⟩ := stL x3 rb t.length ht
  have b4 := x4.eq (by ac_rfl : _ = blkA b 25 [st t, .int .i64 rb.toNat, .int .i64 s] * (blkA kL 5 (bv [1, rb, UInt8.ofNat t.length]) * (litA kA (bv reelB) * (rowA 5 1 (.slice AF 4 cF) 4 (bv (be4 s)) * X))))
  have c40 : w4.cell? ⟨b, 0, none⟩ = some (st t) := b4.cell 0 rfl
  have c41 : w4.cell? ⟨b, 1, none⟩ = some (.int .i64 rb.toNat) := b4.cell 1 rfl
  have c42 : w4.cell? ⟨b, 2, none⟩ = some (.int .i64 s) := b4.cell 2 rfl
  obtain ⟨kT, cT, w5, k5, x5⟩ := stT x4 t
  have b5 := x5.eq (by ac_rfl : _ = blkA b 25 [st t, .int .i64 rb.toNat, .int .i64 s] * (preA kT (bv t) * (blkA kL 5 (bv [1, rb, UInt8.ofNat t.length]) * (litA kA (bv reelB) * (rowA 5 1 (.slice AF 4 cF) 4 (bv (be4 s)) * X)))))
  have c50 : w5.cell? ⟨b, 0, none⟩ = some (st t) := b5.cell 0 rfl
  have c51 : w5.cell? ⟨b, 1, none⟩ = some (.int .i64 rb.toNat) := b5.cell 1 rfl
  have c52 : w5.cell? ⟨b, 2, none⟩ = some (.int .i64 s) := b5.cell 2 rfl
  obtain ⟨k6, w6, v, w7, k6s, k7, x7, x6⟩ := label_sum (cT := cT) ht (x5.eq (by ac_rfl : _ = litA kA (bv reelB) * (blkA kL 5 (bv [1, rb, UInt8.ofNat t.length]) * (preA kT (bv t) * (rowA 5 1 (.slice AF 4 cF) 4 (bv (be4 s)) * (blkA b 25 [st t, .int .i64 rb.toNat, .int .i64 s] * X))))))
  have hR := hRt v w7 x7.drop2
  have c60 : w6.cell? ⟨b, 0, none⟩ = some (st t) := x6.cell 0 rfl
  have c61 : w6.cell? ⟨b, 1, none⟩ = some (.int .i64 rb.toNat) := x6.cell 1 rfl
  have c62 : w6.cell? ⟨b, 2, none⟩ = some (.int .i64 s) := x6.cell 2 rfl
  have c70 : w7.cell? ⟨b, 0, none⟩ = some (st t) := x7.swap.cell 0 rfl
  have c71 : w7.cell? ⟨b, 1, none⟩ = some (.int .i64 rb.toNat) := x7.swap.cell 1 rfl
  have c72 : w7.cell? ⟨b, 2, none⟩ = some (.int .i64 s) := x7.swap.cell 2 rfl
  have e1 := cv23 rb
  have e2 := cv3 ht
  have e3 := len9 3 ⟨t.toArray⟩
  rw [st_size] at e3
  obtain ⟨n, hn⟩ : ∃ n, n = t.length := ⟨_, rfl⟩
  rw [← hn] at e2 e3 k4 k5 k6s
  unfold f16.o48
  simp [addL, ← hw0, e1, e2, e3, c00, c01, c02, k1, c10, c11, c12, k2, c20, c21, c22, k3, c30, c31, c32, k4, c40, c41, c42, k5, c50, c51, c52, k6s, k7, c60, c61, c62, c70, c71, c72, chkThen, f16.k0, after, hR]
theorem f16_o49 {w : World} {t : List UInt8} {rb : UInt8} {s b : Nat} {Rt : List Value → World → Prop} (ht : t.length ≤ 100) (hs : s < 4294967296) (x : Sat W (blkA b 25 [st t, .int .i64 rb.toNat, .int .i64 s] * X) w) (hRt : ∀ v w', Sat W (rowA 5 1 v (t.length + 15) (bv (labelB t rb s)) * X) w' → Rt [v] w') : f16.o49 C Rt (.pointer (some ⟨b, 0, none⟩)) w := by
  have x0 := x.drew
  obtain ⟨w0, hw0⟩ : ∃ w0, w0 = w.drew := ⟨_, rfl⟩
  rw [← hw0] at x0
  have b0 := x0
  have c00 : w0.cell? ⟨b, 0, none⟩ = some (st t) := b0.cell 0 rfl
  have c01 : w0.cell? ⟨b, 1, none⟩ = some (.int .i64 rb.toNat) := b0.cell 1 rfl
  have c02 : w0.cell? ⟨b, 2, none⟩ = some (.int .i64 s) := b0.cell 2 rfl
  obtain ⟨AF, cF, w1, k1, x1⟩ := stF x0 hs
  have b1 := x1.eq (by ac_rfl : _ = blkA b 25 [st t, .int .i64 rb.toNat, .int .i64 s] * (rowA 5 1 (.slice AF 4 cF) 4 (bv (be4 s)) * X))
  have c10 : w1.cell? ⟨b, 0, none⟩ = some (st t) := b1.cell 0 rfl
  have c11 : w1.cell? ⟨b, 1, none⟩ = some (.int .i64 rb.toNat) := b1.cell 1 rfl
  have c12 : w1.cell? ⟨b, 2, none⟩ = some (.int .i64 s) := b1.cell 2 rfl
  obtain ⟨kA, w2, k2, x2⟩ := stA x1
  have b2 := x2.eq (by ac_rfl : _ = blkA b 25 [st t, .int .i64 rb.toNat, .int .i64 s] * (blkA kA 5 (bv reelB) * (rowA 5 1 (.slice AF 4 cF) 4 (bv (be4 s)) * X)))
  have c20 : w2.cell? ⟨b, 0, none⟩ = some (st t) := b2.cell 0 rfl
  have c21 : w2.cell? ⟨b, 1, none⟩ = some (.int .i64 rb.toNat) := b2.cell 1 rfl
  have c22 : w2.cell? ⟨b, 2, none⟩ = some (.int .i64 s) := b2.cell 2 rfl
  obtain ⟨w3, k3, x3⟩ := stB x2
  have b3 := x3.eq (by ac_rfl : _ = blkA b 25 [st t, .int .i64 rb.toNat, .int .i64 s] * (litA kA (bv reelB) * (rowA 5 1 (.slice AF 4 cF) 4 (bv (be4 s)) * X)))
  have c30 : w3.cell? ⟨b, 0, none⟩ = some (st t) := b3.cell 0 rfl
  have c31 : w3.cell? ⟨b, 1, none⟩ = some (.int .i64 rb.toNat) := b3.cell 1 rfl
  have c32 : w3.cell? ⟨b, 2, none⟩ = some (.int .i64 s) := b3.cell 2 rfl
  obtain ⟨kT, cT, w4, k4, x4⟩ := stT x3 t
  have b4 := x4.eq (by ac_rfl : _ = blkA b 25 [st t, .int .i64 rb.toNat, .int .i64 s] * (preA kT (bv t) * (litA kA (bv reelB) * (rowA 5 1 (.slice AF 4 cF) 4 (bv (be4 s)) * X))))
  have c40 : w4.cell? ⟨b, 0, none⟩ = some (st t) := b4.cell 0 rfl
  have c41 : w4.cell? ⟨b, 1, none⟩ = some (.int .i64 rb.toNat) := b4.cell 1 rfl
  have c42 : w4.cell? ⟨b, 2, none⟩ = some (.int .i64 s) := b4.cell 2 rfl
  obtain ⟨kL, w5, k5, x5⟩ := stL x4 rb t.length ht
  have b5 := x5.eq (by ac_rfl : _ = blkA b 25 [st t, .int .i64 rb.toNat, .int .i64 s] * (blkA kL 5 (bv [1, rb, UInt8.ofNat t.length]) * (preA kT (bv t) * (litA kA (bv reelB) * (rowA 5 1 (.slice AF 4 cF) 4 (bv (be4 s)) * X)))))
  have c50 : w5.cell? ⟨b, 0, none⟩ = some (st t) := b5.cell 0 rfl
  have c51 : w5.cell? ⟨b, 1, none⟩ = some (.int .i64 rb.toNat) := b5.cell 1 rfl
  have c52 : w5.cell? ⟨b, 2, none⟩ = some (.int .i64 s) := b5.cell 2 rfl
  obtain ⟨k6, w6, v, w7, k6s, k7, x7, x6⟩ := label_sum (cT := cT) ht (x5.eq (by ac_rfl : _ = litA kA (bv reelB) * (blkA kL 5 (bv [1, rb, UInt8.ofNat t.length]) * (preA kT (bv t) * (rowA 5 1 (.slice AF 4 cF) 4 (bv (be4 s)) * (blkA b 25 [st t, .int .i64 rb.toNat, .int .i64 s] * X))))))
  have hR := hRt v w7 x7.drop2
  have c60 : w6.cell? ⟨b, 0, none⟩ = some (st t) := x6.cell 0 rfl
  have c61 : w6.cell? ⟨b, 1, none⟩ = some (.int .i64 rb.toNat) := x6.cell 1 rfl
  have c62 : w6.cell? ⟨b, 2, none⟩ = some (.int .i64 s) := x6.cell 2 rfl
  have c70 : w7.cell? ⟨b, 0, none⟩ = some (st t) := x7.swap.cell 0 rfl
  have c71 : w7.cell? ⟨b, 1, none⟩ = some (.int .i64 rb.toNat) := x7.swap.cell 1 rfl
  have c72 : w7.cell? ⟨b, 2, none⟩ = some (.int .i64 s) := x7.swap.cell 2 rfl
  have e1 := cv23 rb
  have e2 := cv3 ht
  have e3 := len9 3 ⟨t.toArray⟩
  rw [st_size] at e3
  obtain ⟨n, hn⟩ : ∃ n, n = t.length := ⟨_, rfl⟩
  rw [← hn] at e2 e3 k5 k4 k6s
  unfold f16.o49
  simp [addL, ← hw0, e1, e2, e3, c00, c01, c02, k1, c10, c11, c12, k2, c20, c21, c22, k3, c30, c31, c32, k4, c40, c41, c42, k5, c50, c51, c52, k6s, k7, c60, c61, c62, c70, c71, c72, chkThen, f16.k0, after, hR]
end
end Go.Sh.YtodkllcibbidoaaDoor

namespace Go.Sh.YtodkllcibbidoaaDoor
open Go Go.Proofs Go.RowKit Go.Lib
set_option linter.unusedVariables false
set_option linter.unusedSimpArgs false
set_option maxRecDepth 100000
section
variable {W : World} {X : Asn W.heap.size}
theorem f16_o50 {w : World} {t : List UInt8} {rb : UInt8} {s b : Nat} {Rt : List Value → World → Prop} (ht : t.length ≤ 100) (hs : s < 4294967296) (x : Sat W (blkA b 25 [st t, .int .i64 rb.toNat, .int .i64 s] * X) w) (hRt : ∀ v w', Sat W (rowA 5 1 v (t.length + 15) (bv (labelB t rb s)) * X) w' → Rt [v] w') : f16.o50 C Rt (.pointer (some ⟨b, 0, none⟩)) w := by
  have x0 := x.drew
  obtain ⟨w0, hw0⟩ : ∃ w0, w0 = w.drew := ⟨_, rfl⟩
  rw [← hw0] at x0
  have b0 := x0
  have c00 : w0.cell? ⟨b, 0, none⟩ = some (st t) := b0.cell 0 rfl
  have c01 : w0.cell? ⟨b, 1, none⟩ = some (.int .i64 rb.toNat) := b0.cell 1 rfl
  have c02 : w0.cell? ⟨b, 2, none⟩ = some (.int .i64 s) := b0.cell 2 rfl
  obtain ⟨AF, cF, w1, k1, x1⟩ := stF x0 hs
  have b1 := x1.eq (by ac_rfl : _ = blkA b 25 [st t, .int .i64 rb.toNat, .int .i64 s] * (rowA 5 1 (.slice AF 4 cF) 4 (bv (be4 s)) * X))
  have c10 : w1.cell? ⟨b, 0, none⟩ = some (st t) := b1.cell 0 rfl
  have c11 : w1.cell? ⟨b, 1, none⟩ = some (.int .i64 rb.toNat) := b1.cell 1 rfl
  have c12 : w1.cell? ⟨b, 2, none⟩ = some (.int .i64 s) := b1.cell 2 rfl
  obtain ⟨kA, w2, k2, x2⟩ := stA x1
  have b2 := x2.eq (by ac_rfl : _ = blkA b 25 [st t, .int .i64 rb.toNat, .int .i64 s] * (blkA kA 5 (bv reelB) * (rowA 5 1 (.slice AF 4 cF) 4 (bv (be4 s)) * X)))
  have c20 : w2.cell? ⟨b, 0, none⟩ = some (st t) := b2.cell 0 rfl
  have c21 : w2.cell? ⟨b, 1, none⟩ = some (.int .i64 rb.toNat) := b2.cell 1 rfl
  have c22 : w2.cell? ⟨b, 2, none⟩ = some (.int .i64 s) := b2.cell 2 rfl
  obtain ⟨kL, w3, k3, x3⟩ := stL x2 rb t.length ht
  have b3 := x3.eq (by ac_rfl : _ = blkA b 25 [st t, .int .i64 rb.toNat, .int .i64 s] * (blkA kL 5 (bv [1, rb, UInt8.ofNat t.length]) * (blkA kA 5 (bv reelB) * (rowA 5 1 (.slice AF 4 cF) 4 (bv (be4 s)) * X))))
  have c30 : w3.cell? ⟨b, 0, none⟩ = some (st t) := b3.cell 0 rfl
  have c31 : w3.cell? ⟨b, 1, none⟩ = some (.int .i64 rb.toNat) := b3.cell 1 rfl
  have c32 : w3.cell? ⟨b, 2, none⟩ = some (.int .i64 s) := b3.cell 2 rfl
  obtain ⟨w4, k4, x4⟩ := stB (x3.eq (by ac_rfl : _ = blkA kA 5 (bv reelB) * (blkA kL 5 (bv [1, rb, UInt8.ofNat t.length]) * (rowA 5 1 (.slice AF 4 cF) 4 (bv (be4 s)) * (blkA b 25 [st t, .int .i64 rb.toNat, .int .i64 s] * X)))))
  have b4 := x4.eq (by ac_rfl : _ = blkA b 25 [st t, .int .i64 rb.toNat, .int .i64 s] * (litA kA (bv reelB) * (blkA kL 5 (bv [1, rb, UInt8.ofNat t.length]) * (rowA 5 1 (.slice AF 4 cF) 4 (bv (be4 s)) * X))))
  have c40 : w4.cell? ⟨b, 0, none⟩ = some (st t) := b4.cell 0 rfl
  have c41 : w4.cell? ⟨b, 1, none⟩ = some (.int .i64 rb.toNat) := b4.cell 1 rfl
  have c42 : w4.cell? ⟨b, 2, none⟩ = some (.int .i64 s) := b4.cell 2 rfl
  obtain ⟨kT, cT, w5, k5, x5⟩ := stT x4 t
  have b5 := x5.eq (by ac_rfl : _ = blkA b 25 [st t, .int .i64 rb.toNat, .int .i64 s] * (preA kT (bv t) * (litA kA (bv reelB) * (blkA kL 5 (bv [1, rb, UInt8.ofNat t.length]) * (rowA 5 1 (.slice AF 4 cF) 4 (bv (be4 s)) * X)))))
  have c50 : w5.cell? ⟨b, 0, none⟩ = some (st t) := b5.cell 0 rfl
  have c51 : w5.cell? ⟨b, 1, none⟩ = some (.int .i64 rb.toNat) := b5.cell 1 rfl
  have c52 : w5.cell? ⟨b, 2, none⟩ = some (.int .i64 s) := b5.cell 2 rfl
  obtain ⟨k6, w6, v, w7, k6s, k7, x7, x6⟩ := label_sum (cT := cT) ht (x5.eq (by ac_rfl : _ = litA kA (bv reelB) * (blkA kL 5 (bv [1, rb, UInt8.ofNat t.length]) * (preA kT (bv t) * (rowA 5 1 (.slice AF 4 cF) 4 (bv (be4 s)) * (blkA b 25 [st t, .int .i64 rb.toNat, .int .i64 s] * X))))))
  have hR := hRt v w7 x7.drop2
  have c60 : w6.cell? ⟨b, 0, none⟩ = some (st t) := x6.cell 0 rfl
  have c61 : w6.cell? ⟨b, 1, none⟩ = some (.int .i64 rb.toNat) := x6.cell 1 rfl
  have c62 : w6.cell? ⟨b, 2, none⟩ = some (.int .i64 s) := x6.cell 2 rfl
  have c70 : w7.cell? ⟨b, 0, none⟩ = some (st t) := x7.swap.cell 0 rfl
  have c71 : w7.cell? ⟨b, 1, none⟩ = some (.int .i64 rb.toNat) := x7.swap.cell 1 rfl
  have c72 : w7.cell? ⟨b, 2, none⟩ = some (.int .i64 s) := x7.swap.cell 2 rfl
  have e1 := cv23 rb
  have e2 := cv3 ht
  have e3 := len9 3 ⟨t.toArray⟩
  rw [st_size] at e3
  obtain ⟨n, hn⟩ : ∃ n, n = t.length := ⟨_, rfl⟩
  rw [← hn] at e2 e3 k3 k5 k6s
  unfold f16.o50
  simp [addL, ← hw0, e1, e2, e3, c00, c01, c02, k1, c10, c11, c12, k2, c20, c21, c22, k3, c30, c31, c32, k4, c40, c41, c42, k5, c50, c51, c52, k6s, k7, c60, c61, c62, c70, c71, c72, chkThen, f16.k0, after, hR]
theorem f16_o51 {w : World} {t : List UInt8} {rb : UInt8} {s b : Nat} {Rt : List Value → World → Prop} (ht : t.length ≤ 100) (hs : s < 4294967296) (x : Sat W (blkA b 25 [st t, .int .i64 rb.toNat, .int .i64 s] * X) w) (hRt : ∀ v w', Sat W (rowA 5 1 v (t.length + 15) (bv (labelB t rb s)) * X) w' → Rt [v] w') : f16.o51 C Rt (.pointer (some ⟨b, 0, none⟩)) w := by
  have x0 := x.drew
  obtain ⟨w0, hw0⟩ : ∃ w0, w0 = w.drew := ⟨_, rfl⟩
  rw [← hw0] at x0
  have b0 := x0
  have c00 : w0.cell? ⟨b, 0, none⟩ = some (st t) := b0.cell 0 rfl
  have c01 : w0.cell? ⟨b, 1, none⟩ = some (.int .i64 rb.toNat) := b0.cell 1 rfl
  have c02 : w0.cell? ⟨b, 2, none⟩ = some (.int .i64 s) := b0.cell 2 rfl
  obtain ⟨AF, cF, w1, k1, x1⟩ := stF x0 hs
  have b1 := x1.eq (by ac_rfl : _ = blkA b 25 [st t, .int .i64 rb.toNat, .int .i64 s] * (rowA 5 1 (.slice AF 4 cF) 4 (bv (be4 s)) * X))
  have c10 : w1.cell? ⟨b, 0, none⟩ = some (st t) := b1.cell 0 rfl
  have c11 : w1.cell? ⟨b, 1, none⟩ = some (.int .i64 rb.toNat) := b1.cell 1 rfl
  have c12 : w1.cell? ⟨b, 2, none⟩ = some (.int .i64 s) := b1.cell 2 rfl
  obtain ⟨kA, w2, k2, x2⟩ := stA x1
  have b2 := x2.eq (by ac_rfl : _ = blkA b 25 [st t, .int .i64 rb.toNat, .int .i64 s] * (blkA kA 5 (bv reelB) * (rowA 5 1 (.slice AF 4 cF) 4 (bv (be4 s)) * X)))
  have c20 : w2.cell? ⟨b, 0, none⟩ = some (st t) := b2.cell 0 rfl
  have c21 : w2.cell? ⟨b, 1, none⟩ = some (.int .i64 rb.toNat) := b2.cell 1 rfl
  have c22 : w2.cell? ⟨b, 2, none⟩ = some (.int .i64 s) := b2.cell 2 rfl
  obtain ⟨kL, w3, k3, x3⟩ := stL x2 rb t.length ht
  have b3 := x3.eq (by ac_rfl : _ = blkA b 25 [st t, .int .i64 rb.toNat, .int .i64 s] * (blkA kL 5 (bv [1, rb, UInt8.ofNat t.length]) * (blkA kA 5 (bv reelB) * (rowA 5 1 (.slice AF 4 cF) 4 (bv (be4 s)) * X))))
  have c30 : w3.cell? ⟨b, 0, none⟩ = some (st t) := b3.cell 0 rfl
  have c31 : w3.cell? ⟨b, 1, none⟩ = some (.int .i64 rb.toNat) := b3.cell 1 rfl
  have c32 : w3.cell? ⟨b, 2, none⟩ = some (.int .i64 s) := b3.cell 2 rfl
  obtain ⟨kT, cT, w4, k4, x4⟩ := stT x3 t
  have b4 := x4.eq (by ac_rfl : _ = blkA b 25 [st t, .int .i64 rb.toNat, .int .i64 s] * (preA kT (bv t) * (blkA kL 5 (bv [1, rb, UInt8.ofNat t.length]) * (blkA kA 5 (bv reelB) * (rowA 5 1 (.slice AF 4 cF) 4 (bv (be4 s)) * X)))))
  have c40 : w4.cell? ⟨b, 0, none⟩ = some (st t) := b4.cell 0 rfl
  have c41 : w4.cell? ⟨b, 1, none⟩ = some (.int .i64 rb.toNat) := b4.cell 1 rfl
  have c42 : w4.cell? ⟨b, 2, none⟩ = some (.int .i64 s) := b4.cell 2 rfl
  obtain ⟨w5, k5, x5⟩ := stB (x4.eq (by ac_rfl : _ = blkA kA 5 (bv reelB) * (preA kT (bv t) * (blkA kL 5 (bv [1, rb, UInt8.ofNat t.length]) * (rowA 5 1 (.slice AF 4 cF) 4 (bv (be4 s)) * (blkA b 25 [st t, .int .i64 rb.toNat, .int .i64 s] * X))))))
  have b5 := x5.eq (by ac_rfl : _ = blkA b 25 [st t, .int .i64 rb.toNat, .int .i64 s] * (litA kA (bv reelB) * (preA kT (bv t) * (blkA kL 5 (bv [1, rb, UInt8.ofNat t.length]) * (rowA 5 1 (.slice AF 4 cF) 4 (bv (be4 s)) * X)))))
  have c50 : w5.cell? ⟨b, 0, none⟩ = some (st t) := b5.cell 0 rfl
  have c51 : w5.cell? ⟨b, 1, none⟩ = some (.int .i64 rb.toNat) := b5.cell 1 rfl
  have c52 : w5.cell? ⟨b, 2, none⟩ = some (.int .i64 s) := b5.cell 2 rfl
  obtain ⟨k6, w6, v, w7, k6s, k7, x7, x6⟩ := label_sum (cT := cT) ht (x5.eq (by ac_rfl : _ = litA kA (bv reelB) * (blkA kL 5 (bv [1, rb, UInt8.ofNat t.length]) * (preA kT (bv t) * (rowA 5 1 (.slice AF 4 cF) 4 (bv (be4 s)) * (blkA b 25 [st t, .int .i64 rb.toNat, .int .i64 s] * X))))))
  have hR := hRt v w7 x7.drop2
  have c60 : w6.cell? ⟨b, 0, none⟩ = some (st t) := x6.cell 0 rfl
  have c61 : w6.cell? ⟨b, 1, none⟩ = some (.int .i64 rb.toNat) := x6.cell 1 rfl
  have c62 : w6.cell? ⟨b, 2, none⟩ = some (.int .i64 s) := x6.cell 2 rfl
  have c70 : w7.cell? ⟨b, 0, none⟩ = some (st t) := x7.swap.cell 0 rfl
  have c71 : w7.cell? ⟨b, 1, none⟩ = some (.int .i64 rb.toNat) := x7.swap.cell 1 rfl
  have c72 : w7.cell? ⟨b, 2, none⟩ = some (.int .i64 s) := x7.swap.cell 2 rfl
  have e1 := cv23 rb
  have e2 := cv3 ht
  have e3 := len9 3 ⟨t.toArray⟩
  rw [st_size] at e3
  obtain ⟨n, hn⟩ : ∃ n, n = t.length := ⟨_, rfl⟩
  rw [← hn] at e2 e3 k3 k4 k6s
  unfold f16.o51
  simp [addL, ← hw0, e1, e2, e3, c00, c01, c02, k1, c10, c11, c12, k2, c20, c21, c22, k3, c30, c31, c32, k4, c40, c41, c42, k5, c50, c51, c52, k6s, k7, c60, c61, c62, c70, c71, c72, chkThen, f16.k0, after, hR]
theorem f16_o52 {w : World} {t : List UInt8} {rb : UInt8} {s b : Nat} {Rt : List Value → World → Prop} (ht : t.length ≤ 100) (hs : s < 4294967296) (x : Sat W (blkA b 25 [st t, .int .i64 rb.toNat, .int .i64 s] * X) w) (hRt : ∀ v w', Sat W (rowA 5 1 v (t.length + 15) (bv (labelB t rb s)) * X) w' → Rt [v] w') : f16.o52 C Rt (.pointer (some ⟨b, 0, none⟩)) w := by
  have x0 := x.drew
  obtain ⟨w0, hw0⟩ : ∃ w0, w0 = w.drew := ⟨_, rfl⟩
  rw [← hw0] at x0
  have b0 := x0
  have c00 : w0.cell? ⟨b, 0, none⟩ = some (st t) := b0.cell 0 rfl
  have c01 : w0.cell? ⟨b, 1, none⟩ = some (.int .i64 rb.toNat) := b0.cell 1 rfl
  have c02 : w0.cell? ⟨b, 2, none⟩ = some (.int .i64 s) := b0.cell 2 rfl
  obtain ⟨AF, cF, w1, k1, x1⟩ := stF x0 hs
  have b1 := x1.eq (by ac_rfl : _ = blkA b 25 [st t, .int .i64 rb.toNat, .int .i64 s] * (rowA 5 1 (.slice AF 4 cF) 4 (bv (be4 s)) * X))
  have c10 : w1.cell? ⟨b, 0, none⟩ = some (st t) := b1.cell 0 rfl
  have c11 : w1.cell? ⟨b, 1, none⟩ = some (.int .i64 rb.toNat) := b1.cell 1 rfl
  have c12 : w1.cell? ⟨b, 2, none⟩ = some (.int .i64 s) := b1.cell 2 rfl
  obtain ⟨kA, w2, k2, x2⟩ := stA x1
  have b2 := x2.eq (by ac_rfl : _ = blkA b 25 [st t, .int .i64 rb.toNat, .int .i64 s] * (blkA kA 5 (bv reelB) * (rowA 5 1 (.slice AF 4 cF) 4 (bv (be4 s)) * X)))
  have c20 : w2.cell? ⟨b, 0, none⟩ = some (st t) := b2.cell 0 rfl
  have c21 : w2.cell? ⟨b, 1, none⟩ = some (.int .i64 rb.toNat) := b2.cell 1 rfl
  have c22 : w2.cell? ⟨b, 2, none⟩ = some (.int .i64 s) := b2.cell 2 rfl
  obtain ⟨kT, cT, w3, k3, x3⟩ := stT x2 t
  have b3 := x3.eq (by ac_rfl : _ = blkA b 25 [st t, .int .i64 rb.toNat, .int .i64 s] * (preA kT (bv t) * (blkA kA 5 (bv reelB) * (rowA 5 1 (.slice AF 4 cF) 4 (bv (be4 s)) * X))))
  have c30 : w3.cell? ⟨b, 0, none⟩ = some (st t) := b3.cell 0 rfl
  have c31 : w3.cell? ⟨b, 1, none⟩ = some (.int .i64 rb.toNat) := b3.cell 1 rfl
  have c32 : w3.cell? ⟨b, 2, none⟩ = some (.int .i64 s) := b3.cell 2 rfl
  obtain ⟨w4, k4, x4⟩ := stB (x3.eq (by ac_rfl : _ = blkA kA 5 (bv reelB) * (preA kT (bv t) * (rowA 5 1 (.slice AF 4 cF) 4 (bv (be4 s)) * (blkA b 25 [st t, .int .i64 rb.toNat, .int .i64 s] * X)))))
  have b4 := x4.eq (by ac_rfl : _ = blkA b 25 [st t, .int .i64 rb.toNat, .int .i64 s] * (litA kA (bv reelB) * (preA kT (bv t) * (rowA 5 1 (.slice AF 4 cF) 4 (bv (be4 s)) * X))))
  have c40 : w4.cell? ⟨b, 0, none⟩ = some (st t) := b4.cell 0 rfl
  have c41 : w4.cell? ⟨b, 1, none⟩ = some (.int .i64 rb.toNat) := b4.cell 1 rfl
  have c42 : w4.cell? ⟨b, 2, none⟩ = some (.int .i64 s) := b4.cell 2 rfl
  obtain ⟨kL, w5, k5, x5⟩ := stL x4 rb t.length ht
  have b5 := x5.eq (by ac_rfl : _ = blkA b 25 [st t, .int .i64 rb.toNat, .int .i64 s] * (blkA kL 5 (bv [1, rb, UInt8.ofNat t.length]) * (litA kA (bv reelB) * (preA kT (bv t) * (rowA 5 1 (.slice AF 4 cF) 4 (bv (be4 s)) * X)))))
  have c50 : w5.cell? ⟨b, 0, none⟩ = some (st t) := b5.cell 0 rfl
  have c51 : w5.cell? ⟨b, 1, none⟩ = some (.int .i64 rb.toNat) := b5.cell 1 rfl
  have c52 : w5.cell? ⟨b, 2, none⟩ = some (.int .i64 s) := b5.cell 2 rfl
  obtain ⟨k6, w6, v, w7, k6s, k7, x7, x6⟩ := label_sum (cT := cT) ht (x5.eq (by ac_rfl : _ = litA kA (bv reelB) * (blkA kL 5 (bv [1, rb, UInt8.ofNat t.length]) * (preA kT (bv t) * (rowA 5 1 (.slice AF 4 cF) 4 (bv (be4 s)) * (blkA b 25 [st t, .int .i64 rb.toNat, .int .i64 s] * X))))))
  have hR := hRt v w7 x7.drop2
  have c60 : w6.cell? ⟨b, 0, none⟩ = some (st t) := x6.cell 0 rfl
  have c61 : w6.cell? ⟨b, 1, none⟩ = some (.int .i64 rb.toNat) := x6.cell 1 rfl
  have c62 : w6.cell? ⟨b, 2, none⟩ = some (.int .i64 s) := x6.cell 2 rfl
  have c70 : w7.cell? ⟨b, 0, none⟩ = some (st t) := x7.swap.cell 0 rfl
  have c71 : w7.cell? ⟨b, 1, none⟩ = some (.int .i64 rb.toNat) := x7.swap.cell 1 rfl
  have c72 : w7.cell? ⟨b, 2, none⟩ = some (.int .i64 s) := x7.swap.cell 2 rfl
  have e1 := cv23 rb
  have e2 := cv3 ht
  have e3 := len9 3 ⟨t.toArray⟩
  rw [st_size] at e3
  obtain ⟨n, hn⟩ : ∃ n, n = t.length := ⟨_, rfl⟩
  rw [← hn] at e2 e3 k5 k3 k6s
  unfold f16.o52
  simp [addL, ← hw0, e1, e2, e3, c00, c01, c02, k1, c10, c11, c12, k2, c20, c21, c22, k3, c30, c31, c32, k4, c40, c41, c42, k5, c50, c51, c52, k6s, k7, c60, c61, c62, c70, c71, c72, chkThen, f16.k0, after, hR]
theorem f16_o53 {w : World} {t : List UInt8} {rb : UInt8} {s b : Nat} {Rt : List Value → World → Prop} (ht : t.length ≤ 100) (hs : s < 4294967296) (x : Sat W (blkA b 25 [st t, .int .i64 rb.toNat, .int .i64 s] * X) w) (hRt : ∀ v w', Sat W (rowA 5 1 v (t.length + 15) (bv (labelB t rb s)) * X) w' → Rt [v] w') : f16.o53 C Rt (.pointer (some ⟨b, 0, none⟩)) w := by
  have x0 := x.drew
  obtain ⟨w0, hw0⟩ : ∃ w0, w0 = w.drew := ⟨_, rfl⟩
  rw [← hw0] at x0
  have b0 := x0
  have c00 : w0.cell? ⟨b, 0, none⟩ = some (st t) := b0.cell 0 rfl
  have c01 : w0.cell? ⟨b, 1, none⟩ = some (.int .i64 rb.toNat) := b0.cell 1 rfl
  have c02 : w0.cell? ⟨b, 2, none⟩ = some (.int .i64 s) := b0.cell 2 rfl
  obtain ⟨AF, cF, w1, k1, x1⟩ := stF x0 hs
  have b1 := x1.eq (by ac_rfl : _ = blkA b 25 [st t, .int .i64 rb.toNat, .int .i64 s] * (rowA 5 1 (.slice AF 4 cF) 4 (bv (be4 s)) * X))
  have c10 : w1.cell? ⟨b, 0, none⟩ = some (st t) := b1.cell 0 rfl
  have c11 : w1.cell? ⟨b, 1, none⟩ = some (.int .i64 rb.toNat) := b1.cell 1 rfl
  have c12 : w1.cell? ⟨b, 2, none⟩ = some (.int .i64 s) := b1.cell 2 rfl
  obtain ⟨kA, w2, k2, x2⟩ := stA x1
  have b2 := x2.eq (by ac_rfl : _ = blkA b 25 [st t, .int .i64 rb.toNat, .int .i64 s] * (blkA kA 5 (bv reelB) * (rowA 5 1 (.slice AF 4 cF) 4 (bv (be4 s)) * X)))
  have c20 : w2.cell? ⟨b, 0, none⟩ = some (st t) := b2.cell 0 rfl
  have c21 : w2.cell? ⟨b, 1, none⟩ = some (.int .i64 rb.toNat) := b2.cell 1 rfl
  have c22 : w2.cell? ⟨b, 2, none⟩ = some (.int .i64 s) := b2.cell 2 rfl
  obtain ⟨kT, cT, w3, k3, x3⟩ := stT x2 t
  have b3 := x3.eq (by ac_rfl : _ = blkA b 25 [st t, .int .i64 rb.toNat, .int .i64 s] * (preA kT (bv t) * (blkA kA 5 (bv reelB) * (rowA 5 1 (.slice AF 4 cF) 4 (bv (be4 s)) * X))))
  have c30 : w3.cell? ⟨b, 0, none⟩ = some (st t) := b3.cell 0 rfl
  have c31 : w3.cell? ⟨b, 1, none⟩ = some (.int .i64 rb.toNat) := b3.cell 1 rfl
  have c32 : w3.cell? ⟨b, 2, none⟩ = some (.int .i64 s) := b3.cell 2 rfl
  obtain ⟨kL, w4, k4, x4⟩ := stL x3 rb t.length ht
  have b4 := x4.eq (by ac_rfl : _ = blkA b 25 [st t, .int .i64 rb.toNat, .int .i64 s] * (blkA kL 5 (bv [1, rb, UInt8.ofNat t.length]) * (preA kT (bv t) * (blkA kA 5 (bv reelB) * (rowA 5 1 (.slice AF 4 cF) 4 (bv (be4 s)) * X)))))
  have c40 : w4.cell? ⟨b, 0, none⟩ = some (st t) := b4.cell 0 rfl
  have c41 : w4.cell? ⟨b, 1, none⟩ = some (.int .i64 rb.toNat) := b4.cell 1 rfl
  have c42 : w4.cell? ⟨b, 2, none⟩ = some (.int .i64 s) := b4.cell 2 rfl
  obtain ⟨w5, k5, x5⟩ := stB (x4.eq (by ac_rfl : _ = blkA kA 5 (bv reelB) * (blkA kL 5 (bv [1, rb, UInt8.ofNat t.length]) * (preA kT (bv t) * (rowA 5 1 (.slice AF 4 cF) 4 (bv (be4 s)) * (blkA b 25 [st t, .int .i64 rb.toNat, .int .i64 s] * X))))))
  have b5 := x5.eq (by ac_rfl : _ = blkA b 25 [st t, .int .i64 rb.toNat, .int .i64 s] * (litA kA (bv reelB) * (blkA kL 5 (bv [1, rb, UInt8.ofNat t.length]) * (preA kT (bv t) * (rowA 5 1 (.slice AF 4 cF) 4 (bv (be4 s)) * X)))))
  have c50 : w5.cell? ⟨b, 0, none⟩ = some (st t) := b5.cell 0 rfl
  have c51 : w5.cell? ⟨b, 1, none⟩ = some (.int .i64 rb.toNat) := b5.cell 1 rfl
  have c52 : w5.cell? ⟨b, 2, none⟩ = some (.int .i64 s) := b5.cell 2 rfl
  obtain ⟨k6, w6, v, w7, k6s, k7, x7, x6⟩ := label_sum (cT := cT) ht (x5.eq (by ac_rfl : _ = litA kA (bv reelB) * (blkA kL 5 (bv [1, rb, UInt8.ofNat t.length]) * (preA kT (bv t) * (rowA 5 1 (.slice AF 4 cF) 4 (bv (be4 s)) * (blkA b 25 [st t, .int .i64 rb.toNat, .int .i64 s] * X))))))
  have hR := hRt v w7 x7.drop2
  have c60 : w6.cell? ⟨b, 0, none⟩ = some (st t) := x6.cell 0 rfl
  have c61 : w6.cell? ⟨b, 1, none⟩ = some (.int .i64 rb.toNat) := x6.cell 1 rfl
  have c62 : w6.cell? ⟨b, 2, none⟩ = some (.int .i64 s) := x6.cell 2 rfl
  have c70 : w7.cell? ⟨b, 0, none⟩ = some (st t) := x7.swap.cell 0 rfl
  have c71 : w7.cell? ⟨b, 1, none⟩ = some (.int .i64 rb.toNat) := x7.swap.cell 1 rfl
  have c72 : w7.cell? ⟨b, 2, none⟩ = some (.int .i64 s) := x7.swap.cell 2 rfl
  have e1 := cv23 rb
  have e2 := cv3 ht
  have e3 := len9 3 ⟨t.toArray⟩
  rw [st_size] at e3
  obtain ⟨n, hn⟩ : ∃ n, n = t.length := ⟨_, rfl⟩
  rw [← hn] at e2 e3 k4 k3 k6s
  unfold f16.o53
  simp [addL, ← hw0, e1, e2, e3, c00, c01, c02, k1, c10, c11, c12, k2, c20, c21, c22, k3, c30, c31, c32, k4, c40, c41, c42, k5, c50, c51, c52, k6s, k7, c60, c61, c62, c70, c71, c72, chkThen, f16.k0, after, hR]
theorem f16_o54 {w : World} {t : List UInt8} {rb : UInt8} {s b : Nat} {Rt : List Value → World → Prop} (ht : t.length ≤ 100) (hs : s < 4294967296) (x : Sat W (blkA b 25 [st t, .int .i64 rb.toNat, .int .i64 s] * X) w) (hRt : ∀ v w', Sat W (rowA 5 1 v (t.length + 15) (bv (labelB t rb s)) * X) w' → Rt [v] w') : f16.o54 C Rt (.pointer (some ⟨b, 0, none⟩)) w := by
  have x0 := x.drew
  obtain ⟨w0, hw0⟩ : ∃ w0, w0 = w.drew := ⟨_, rfl⟩
  rw [← hw0] at x0
  have b0 := x0
  have c00 : w0.cell? ⟨b, 0, none⟩ = some (st t) := b0.cell 0 rfl
  have c01 : w0.cell? ⟨b, 1, none⟩ = some (.int .i64 rb.toNat) := b0.cell 1 rfl
  have c02 : w0.cell? ⟨b, 2, none⟩ = some (.int .i64 s) := b0.cell 2 rfl
  obtain ⟨AF, cF, w1, k1, x1⟩ := stF x0 hs
  have b1 := x1.eq (by ac_rfl : _ = blkA b 25 [st t, .int .i64 rb.toNat, .int .i64 s] * (rowA 5 1 (.slice AF 4 cF) 4 (bv (be4 s)) * X))
  have c10 : w1.cell? ⟨b, 0, none⟩ = some (st t) := b1.cell 0 rfl
  have c11 : w1.cell? ⟨b, 1, none⟩ = some (.int .i64 rb.toNat) := b1.cell 1 rfl
  have c12 : w1.cell? ⟨b, 2, none⟩ = some (.int .i64 s) := b1.cell 2 rfl
  obtain ⟨kL, w2, k2, x2⟩ := stL x1 rb t.length ht
  have b2 := x2.eq (by ac_rfl : _ = blkA b 25 [st t, .int .i64 rb.toNat, .int .i64 s] * (blkA kL 5 (bv [1, rb, UInt8.ofNat t.length]) * (rowA 5 1 (.slice AF 4 cF) 4 (bv (be4 s)) * X)))
  have c20 : w2.cell? ⟨b, 0, none⟩ = some (st t) := b2.cell 0 rfl
  have c21 : w2.cell? ⟨b, 1, none⟩ = some (.int .i64 rb.toNat) := b2.cell 1 rfl
  have c22 : w2.cell? ⟨b, 2, none⟩ = some (.int .i64 s) := b2.cell 2 rfl
  obtain ⟨kA, w3, k3, x3⟩ := stA x2
  have b3 := x3.eq (by ac_rfl : _ = blkA b 25 [st t, .int .i64 rb.toNat, .int .i64 s] * (blkA kA 5 (bv reelB) * (blkA kL 5 (bv [1, rb, UInt8.ofNat t.length]) * (rowA 5 1 (.slice AF 4 cF) 4 (bv (be4 s)) * X))))
  have c30 : w3.cell? ⟨b, 0, none⟩ = some (st t) := b3.cell 0 rfl
  have c31 : w3.cell? ⟨b, 1, none⟩ = some (.int .i64 rb.toNat) := b3.cell 1 rfl
  have c32 : w3.cell? ⟨b, 2, none⟩ = some (.int .i64 s) := b3.cell 2 rfl
  obtain ⟨w4, k4, x4⟩ := stB x3
  have b4 := x4.eq (by ac_rfl : _ = blkA b 25 [st t, .int .i64 rb.toNat, .int .i64 s] * (litA kA (bv reelB) * (blkA kL 5 (bv [1, rb, UInt8.ofNat t.length]) * (rowA 5 1 (.slice AF 4 cF) 4 (bv (be4 s)) * X))))
  have c40 : w4.cell? ⟨b, 0, none⟩ = some (st t) := b4.cell 0 rfl
  have c41 : w4.cell? ⟨b, 1, none⟩ = some (.int .i64 rb.toNat) := b4.cell 1 rfl
  have c42 : w4.cell? ⟨b, 2, none⟩ = some (.int .i64 s) := b4.cell 2 rfl
  obtain ⟨kT, cT, w5, k5, x5⟩ := stT x4 t
  have b5 := x5.eq (by ac_rfl : _ = blkA b 25 [st t, .int .i64 rb.toNat, .int .i64 s] * (preA kT (bv t) * (litA kA (bv reelB) * (blkA kL 5 (bv [1, rb, UInt8.ofNat t.length]) * (rowA 5 1 (.slice AF 4 cF) 4 (bv (be4 s)) * X)))))
  have c50 : w5.cell? ⟨b, 0, none⟩ = some (st t) := b5.cell 0 rfl
  have c51 : w5.cell? ⟨b, 1, none⟩ = some (.int .i64 rb.toNat) := b5.cell 1 rfl
  have c52 : w5.cell? ⟨b, 2, none⟩ = some (.int .i64 s) := b5.cell 2 rfl
  obtain ⟨k6, w6, v, w7, k6s, k7, x7, x6⟩ := label_sum (cT := cT) ht (x5.eq (by ac_rfl : _ = litA kA (bv reelB) * (blkA kL 5 (bv [1, rb, UInt8.ofNat t.length]) * (preA kT (bv t) * (rowA 5 1 (.slice AF 4 cF) 4 (bv (be4 s)) * (blkA b 25 [st t, .int .i64 rb.toNat, .int .i64 s] * X))))))
  have hR := hRt v w7 x7.drop2
  have c60 : w6.cell? ⟨b, 0, none⟩ = some (st t) := x6.cell 0 rfl
  have c61 : w6.cell? ⟨b, 1, none⟩ = some (.int .i64 rb.toNat) := x6.cell 1 rfl
  have c62 : w6.cell? ⟨b, 2, none⟩ = some (.int .i64 s) := x6.cell 2 rfl
  have c70 : w7.cell? ⟨b, 0, none⟩ = some (st t) := x7.swap.cell 0 rfl
  have c71 : w7.cell? ⟨b, 1, none⟩ = some (.int .i64 rb.toNat) := x7.swap.cell 1 rfl
  have c72 : w7.cell? ⟨b, 2, none⟩ = some (.int .i64 s) := x7.swap.cell 2 rfl
  have e1 := cv23 rb
  have e2 := cv3 ht
  have e3 := len9 3 ⟨t.toArray⟩
  rw [st_size] at e3
  obtain ⟨n, hn⟩ : ∃ n, n = t.length := ⟨_, rfl⟩
  rw [← hn] at e2 e3 k2 k5 k6s
  unfold f16.o54
  simp [addL, ← hw0, e1, e2, e3, c00, c01, c02, k1, c10, c11, c12, k2, c20, c21, c22, k3, c30, c31, c32, k4, c40, c41, c42, k5, c50, c51, c52, k6s, k7, c60, c61, c62, c70, c71, c72, chkThen, f16.k0, after, hR]
theorem f16_o55 {w : World} {t : List UInt8} {rb : UInt8} {s b : Nat} {Rt : List Value → World → Prop} (ht : t.length ≤ 100) (hs : s < 4294967296) (x : Sat W (blkA b 25 [st t, .int .i64 rb.toNat, .int .i64 s] * X) w) (hRt : ∀ v w', Sat W (rowA 5 1 v (t.length + 15) (bv (labelB t rb s)) * X) w' → Rt [v] w') : f16.o55 C Rt (.pointer (some ⟨b, 0, none⟩)) w := by
  have x0 := x.drew
  obtain ⟨w0, hw0⟩ : ∃ w0, w0 = w.drew := ⟨_, rfl⟩
  rw [← hw0] at x0
  have b0 := x0
  have c00 : w0.cell? ⟨b, 0, none⟩ = some (st t) := b0.cell 0 rfl
  have c01 : w0.cell? ⟨b, 1, none⟩ = some (.int .i64 rb.toNat) := b0.cell 1 rfl
  have c02 : w0.cell? ⟨b, 2, none⟩ = some (.int .i64 s) := b0.cell 2 rfl
  obtain ⟨AF, cF, w1, k1, x1⟩ := stF x0 hs
  have b1 := x1.eq (by ac_rfl : _ = blkA b 25 [st t, .int .i64 rb.toNat, .int .i64 s] * (rowA 5 1 (.slice AF 4 cF) 4 (bv (be4 s)) * X))
  have c10 : w1.cell? ⟨b, 0, none⟩ = some (st t) := b1.cell 0 rfl
  have c11 : w1.cell? ⟨b, 1, none⟩ = some (.int .i64 rb.toNat) := b1.cell 1 rfl
  have c12 : w1.cell? ⟨b, 2, none⟩ = some (.int .i64 s) := b1.cell 2 rfl
  obtain ⟨kL, w2, k2, x2⟩ := stL x1 rb t.length ht
  have b2 := x2.eq (by ac_rfl : _ = blkA b 25 [st t, .int .i64 rb.toNat, .int .i64 s] * (blkA kL 5 (bv [1, rb, UInt8.ofNat t.length]) * (rowA 5 1 (.slice AF 4 cF) 4 (bv (be4 s)) * X)))
  have c20 : w2.cell? ⟨b, 0, none⟩ = some (st t) := b2.cell 0 rfl
  have c21 : w2.cell? ⟨b, 1, none⟩ = some (.int .i64 rb.toNat) := b2.cell 1 rfl
  have c22 : w2.cell? ⟨b, 2, none⟩ = some (.int .i64 s) := b2.cell 2 rfl
  obtain ⟨kA, w3, k3, x3⟩ := stA x2
  have b3 := x3.eq (by ac_rfl : _ = blkA b 25 [st t, .int .i64 rb.toNat, .int .i64 s] * (blkA kA 5 (bv reelB) * (blkA kL 5 (bv [1, rb, UInt8.ofNat t.length]) * (rowA 5 1 (.slice AF 4 cF) 4 (bv (be4 s)) * X))))
  have c30 : w3.cell? ⟨b, 0, none⟩ = some (st t) := b3.cell 0 rfl
  have c31 : w3.cell? ⟨b, 1, none⟩ = some (.int .i64 rb.toNat) := b3.cell 1 rfl
  have c32 : w3.cell? ⟨b, 2, none⟩ = some (.int .i64 s) := b3.cell 2 rfl
  obtain ⟨kT, cT, w4, k4, x4⟩ := stT x3 t
  have b4 := x4.eq (by ac_rfl : _ = blkA b 25 [st t, .int .i64 rb.toNat, .int .i64 s] * (preA kT (bv t) * (blkA kA 5 (bv reelB) * (blkA kL 5 (bv [1, rb, UInt8.ofNat t.length]) * (rowA 5 1 (.slice AF 4 cF) 4 (bv (be4 s)) * X)))))
  have c40 : w4.cell? ⟨b, 0, none⟩ = some (st t) := b4.cell 0 rfl
  have c41 : w4.cell? ⟨b, 1, none⟩ = some (.int .i64 rb.toNat) := b4.cell 1 rfl
  have c42 : w4.cell? ⟨b, 2, none⟩ = some (.int .i64 s) := b4.cell 2 rfl
  obtain ⟨w5, k5, x5⟩ := stB (x4.eq (by ac_rfl : _ = blkA kA 5 (bv reelB) * (preA kT (bv t) * (blkA kL 5 (bv [1, rb, UInt8.ofNat t.length]) * (rowA 5 1 (.slice AF 4 cF) 4 (bv (be4 s)) * (blkA b 25 [st t, .int .i64 rb.toNat, .int .i64 s] * X))))))
  have b5 := x5.eq (by ac_rfl : _ = blkA b 25 [st t, .int .i64 rb.toNat, .int .i64 s] * (litA kA (bv reelB) * (preA kT (bv t) * (blkA kL 5 (bv [1, rb, UInt8.ofNat t.length]) * (rowA 5 1 (.slice AF 4 cF) 4 (bv (be4 s)) * X)))))
  have c50 : w5.cell? ⟨b, 0, none⟩ = some (st t) := b5.cell 0 rfl
  have c51 : w5.cell? ⟨b, 1, none⟩ = some (.int .i64 rb.toNat) := b5.cell 1 rfl
  have c52 : w5.cell? ⟨b, 2, none⟩ = some (.int .i64 s) := b5.cell 2 rfl
  obtain ⟨k6, w6, v, w7, k6s, k7, x7, x6⟩ := label_sum (cT := cT) ht (x5.eq (by ac_rfl : _ = litA kA (bv reelB) * (blkA kL 5 (bv [1, rb, UInt8.ofNat t.length]) * (preA kT (bv t) * (rowA 5 1 (.slice AF 4 cF) 4 (bv (be4 s)) * (blkA b 25 [st t, .int .i64 rb.toNat, .int .i64 s] * X))))))
  have hR := hRt v w7 x7.drop2
  have c60 : w6.cell? ⟨b, 0, none⟩ = some (st t) := x6.cell 0 rfl
  have c61 : w6.cell? ⟨b, 1, none⟩ = some (.int .i64 rb.toNat) := x6.cell 1 rfl
  have c62 : w6.cell? ⟨b, 2, none⟩ = some (.int .i64 s) := x6.cell 2 rfl
  have c70 : w7.cell? ⟨b, 0, none⟩ = some (st t) := x7.swap.cell 0 rfl
  have c71 : w7.cell? ⟨b, 1, none⟩ = some (.int .i64 rb.toNat) := x7.swap.cell 1 rfl
  have c72 : w7.cell? ⟨b, 2, none⟩ = some (.int .i64 s) := x7.swap.cell 2 rfl
  have e1 := cv23 rb
  have e2 := cv3 ht
  have e3 := len9 3 ⟨t.toArray⟩
  rw [st_size] at e3
  obtain ⟨n, hn⟩ : ∃ n, n = t.length := ⟨_, rfl⟩
  rw [← hn] at e2 e3 k2 k4 k6s
  unfold f16.o55
  simp [addL, ← hw0, e1, e2, e3, c00, c01, c02, k1, c10, c11, c12, k2, c20, c21, c22, k3, c30, c31, c32, k4, c40, c41, c42, k5, c50, c51, c52, k6s, k7, c60, c61, c62, c70, c71, c72, chkThen, f16.k0, after, hR]
theorem f16_o56 {w : World} {t : List UInt8} {rb : UInt8} {s b : Nat} {Rt : List Value → World → Prop} (ht : t.length ≤ 100) (hs : s < 4294967296) (x : Sat W (blkA b 25 [st t, .int .i64 rb.toNat, .int .i64 s] * X) w) (hRt : ∀ v w', Sat W (rowA 5 1 v (t.length + 15) (bv (labelB t rb s)) * X) w' → Rt [v] w') : f16.o56 C Rt (.pointer (some ⟨b, 0, none⟩)) w := by
  have x0 := x.drew
  obtain ⟨w0, hw0⟩ : ∃ w0, w0 = w.drew := ⟨_, rfl⟩
  rw [← hw0] at x0
  have b0 := x0
  have c00 : w0.cell? ⟨b, 0, none⟩ = some (st t) := b0.cell 0 rfl
  have c01 : w0.cell? ⟨b, 1, none⟩ = some (.int .i64 rb.toNat) := b0.cell 1 rfl
  have c02 : w0.cell? ⟨b, 2, none⟩ = some (.int .i64 s) := b0.cell 2 rfl
  obtain ⟨AF, cF, w1, k1, x1⟩ := stF x0 hs
  have b1 := x1.eq (by ac_rfl : _ = blkA b 25 [st t, .int .i64 rb.toNat, .int .i64 s] * (rowA 5 1 (.slice AF 4 cF) 4 (bv (be4 s)) * X))
  have c10 : w1.cell? ⟨b, 0, none⟩ = some (st t) := b1.cell 0 rfl
  have c11 : w1.cell? ⟨b, 1, none⟩ = some (.int .i64 rb.toNat) := b1.cell 1 rfl
  have c12 : w1.cell? ⟨b, 2, none⟩ = some (.int .i64 s) := b1.cell 2 rfl
  obtain ⟨kL, w2, k2, x2⟩ := stL x1 rb t.length ht
  have b2 := x2.eq (by ac_rfl : _ = blkA b 25 [st t, .int .i64 rb.toNat, .int .i64 s] * (blkA kL 5 (bv [1, rb, UInt8.ofNat t.length]) * (rowA 5 1 (.slice AF 4 cF) 4 (bv (be4 s)) * X)))
  have c20 : w2.cell? ⟨b, 0, none⟩ = some (st t) := b2.cell 0 rfl
  have c21 : w2.cell? ⟨b, 1, none⟩ = some (.int .i64 rb.toNat) := b2.cell 1 rfl
  have c22 : w2.cell? ⟨b, 2, none⟩ = some (.int .i64 s) := b2.cell 2 rfl
  obtain ⟨kT, cT, w3, k3, x3⟩ := stT x2 t
  have b3 := x3.eq (by ac_rfl : _ = blkA b 25 [st t, .int .i64 rb.toNat, .int .i64 s] * (preA kT (bv t) * (blkA kL 5 (bv [1, rb, UInt8.ofNat t.length]) * (rowA 5 1 (.slice AF 4 cF) 4 (bv (be4 s)) * X))))
  have c30 : w3.cell? ⟨b, 0, none⟩ = some (st t) := b3.cell 0 rfl
  have c31 : w3.cell? ⟨b, 1, none⟩ = some (.int .i64 rb.toNat) := b3.cell 1 rfl
  have c32 : w3.cell? ⟨b, 2, none⟩ = some (.int .i64 s) := b3.cell 2 rfl
  obtain ⟨kA, w4, k4, x4⟩ := stA x3
  have b4 := x4.eq (by ac_rfl : _ = blkA b 25 [st t, .int .i64 rb.toNat, .int .i64 s] * (blkA kA 5 (bv reelB) * (preA kT (bv t) * (blkA kL 5 (bv [1, rb, UInt8.ofNat t.length]) * (rowA 5 1 (.slice AF 4 cF) 4 (bv (be4 s)) * X)))))
  have c40 : w4.cell? ⟨b, 0, none⟩ = some (st t) := b4.cell 0 rfl
  have c41 : w4.cell? ⟨b, 1, none⟩ = some (.int .i64 rb.toNat) := b4.cell 1 rfl
  have c42 : w4.cell? ⟨b, 2, none⟩ = some (.int .i64 s) := b4.cell 2 rfl
  obtain ⟨w5, k5, x5⟩ := stB x4
  have b5 := x5.eq (by ac_rfl : _ = blkA b 25 [st t, .int .i64 rb.toNat, .int .i64 s] * (litA kA (bv reelB) * (preA kT (bv t) * (blkA kL 5 (bv [1, rb, UInt8.ofNat t.length]) * (rowA 5 1 (.slice AF 4 cF) 4 (bv (be4 s)) * X)))))
  have c50 : w5.cell? ⟨b, 0, none⟩ = some (st t) := b5.cell 0 rfl
  have c51 : w5.cell? ⟨b, 1, none⟩ = some (.int .i64 rb.toNat) := b5.cell 1 rfl
  have c52 : w5.cell? ⟨b, 2, none⟩ = some (.int .i64 s) := b5.cell 2 rfl
  obtain ⟨k6, w6, v, w7, k6s, k7, x7, x6⟩ := label_sum (cT := cT) ht (x5.eq (by ac_rfl : _ = litA kA (bv reelB) * (blkA kL 5 (bv [1, rb, UInt8.ofNat t.length]) * (preA kT (bv t) * (rowA 5 1 (.slice AF 4 cF) 4 (bv (be4 s)) * (blkA b 25 [st t, .int .i64 rb.toNat, .int .i64 s] * X))))))
  have hR := hRt v w7 x7.drop2
  have c60 : w6.cell? ⟨b, 0, none⟩ = some (st t) := x6.cell 0 rfl
  have c61 : w6.cell? ⟨b, 1, none⟩ = some (.int .i64 rb.toNat) := x6.cell 1 rfl
  have c62 : w6.cell? ⟨b, 2, none⟩ = some (.int .i64 s) := x6.cell 2 rfl
  have c70 : w7.cell? ⟨b, 0, none⟩ = some (st t) := x7.swap.cell 0 rfl
  have c71 : w7.cell? ⟨b, 1, none⟩ = some (.int .i64 rb.toNat) := x7.swap.cell 1 rfl
  have c72 : w7.cell? ⟨b, 2, none⟩ = some (.int .i64 s) := x7.swap.cell 2 rfl
  have e1 := cv23 rb
  have e2 := cv3 ht
  have e3 := len9 3 ⟨t.toArray⟩
  rw [st_size] at e3
  obtain ⟨n, hn⟩ : ∃ n, n = t.length := ⟨_, rfl⟩
  rw [← hn] at e2 e3 k2 k3 k6s
  unfold f16.o56
  simp [addL, ← hw0, e1, e2, e3, c00, c01, c02, k1, c10, c11, c12, k2, c20, c21, c22, k3, c30, c31, c32, k4, c40, c41, c42, k5, c50, c51, c52, k6s, k7, c60, c61, c62, c70, c71, c72, chkThen, f16.k0, after, hR]
theorem f16_o57 {w : World} {t : List UInt8} {rb : UInt8} {s b : Nat} {Rt : List Value → World → Prop} (ht : t.length ≤ 100) (hs : s < 4294967296) (x : Sat W (blkA b 25 [st t, .int .i64 rb.toNat, .int .i64 s] * X) w) (hRt : ∀ v w', Sat W (rowA 5 1 v (t.length + 15) (bv (labelB t rb s)) * X) w' → Rt [v] w') : f16.o57 C Rt (.pointer (some ⟨b, 0, none⟩)) w := by
  have x0 := x.drew
  obtain ⟨w0, hw0⟩ : ∃ w0, w0 = w.drew := ⟨_, rfl⟩
  rw [← hw0] at x0
  have b0 := x0
  have c00 : w0.cell? ⟨b, 0, none⟩ = some (st t) := b0.cell 0 rfl
  have c01 : w0.cell? ⟨b, 1, none⟩ = some (.int .i64 rb.toNat) := b0.cell 1 rfl
  have c02 : w0.cell? ⟨b, 2, none⟩ = some (.int .i64 s) := b0.cell 2 rfl
  obtain ⟨AF, cF, w1, k1, x1⟩ := stF x0 hs
  have b1 := x1.eq (by ac_rfl : _ = blkA b 25 [st t, .int .i64 rb.toNat, .int .i64 s] * (rowA 5 1 (.slice AF 4 cF) 4 (bv (be4 s)) * X))
  have c10 : w1.cell? ⟨b, 0, none⟩ = some (st t) := b1.cell 0 rfl
  have c11 : w1.cell? ⟨b, 1, none⟩ = some (.int .i64 rb.toNat) := b1.cell 1 rfl
  have c12 : w1.cell? ⟨b, 2, none⟩ = some (.int .i64 s) := b1.cell 2 rfl
  obtain ⟨kT, cT, w2, k2, x2⟩ := stT x1 t
  have b2 := x2.eq (by ac_rfl : _ = blkA b 25 [st t, .int .i64 rb.toNat, .int .i64 s] * (preA kT (bv t) * (rowA 5 1 (.slice AF 4 cF) 4 (bv (be4 s)) * X)))
  have c20 : w2.cell? ⟨b, 0, none⟩ = some (st t) := b2.cell 0 rfl
  have c21 : w2.cell? ⟨b, 1, none⟩ = some (.int .i64 rb.toNat) := b2.cell 1 rfl
  have c22 : w2.cell? ⟨b, 2, none⟩ = some (.int .i64 s) := b2.cell 2 rfl
  obtain ⟨kA, w3, k3, x3⟩ := stA x2
  have b3 := x3.eq (by ac_rfl : _ = blkA b 25 [st t, .int .i64 rb.toNat, .int .i64 s] * (blkA kA 5 (bv reelB) * (preA kT (bv t) * (rowA 5 1 (.slice AF 4 cF) 4 (bv (be4 s)) * X))))
  have c30 : w3.cell? ⟨b, 0, none⟩ = some (st t) := b3.cell 0 rfl
  have c31 : w3.cell? ⟨b, 1, none⟩ = some (.int .i64 rb.toNat) := b3.cell 1 rfl
  have c32 : w3.cell? ⟨b, 2, none⟩ = some (.int .i64 s) := b3.cell 2 rfl
  obtain ⟨w4, k4, x4⟩ := stB x3
  have b4 := x4.eq (by ac_rfl : _ = blkA b 25 [st t, .int .i64 rb.toNat, .int .i64 s] * (litA kA (bv reelB) * (preA kT (bv t) * (rowA 5 1 (.slice AF 4 cF) 4 (bv (be4 s)) * X))))
  have c40 : w4.cell? ⟨b, 0, none⟩ = some (st t) := b4.cell 0 rfl
  have c41 : w4.cell? ⟨b, 1, none⟩ = some (.int .i64 rb.toNat) := b4.cell 1 rfl
  have c42 : w4.cell? ⟨b, 2, none⟩ = some (.int .i64 s) := b4.cell 2 rfl
  obtain ⟨kL, w5, k5, x5⟩ := stL x4 rb t.length ht
  have b5 := x5.eq (by ac_rfl : _ = blkA b 25 [st t, .int .i64 rb.toNat, .int .i64 s] * (blkA kL 5 (bv [1, rb, UInt8.ofNat t.length]) * (litA kA (bv reelB) * (preA kT (bv t) * (rowA 5 1 (.slice AF 4 cF) 4 (bv (be4 s)) * X)))))
  have c50 : w5.cell? ⟨b, 0, none⟩ = some (st t) := b5.cell 0 rfl
  have c51 : w5.cell? ⟨b, 1, none⟩ = some (.int .i64 rb.toNat) := b5.cell 1 rfl
  have c52 : w5.cell? ⟨b, 2, none⟩ = some (.int .i64 s) := b5.cell 2 rfl
  obtain ⟨k6, w6, v, w7, k6s, k7, x7, x6⟩ := label_sum (cT := cT) ht (x5.eq (by ac_rfl : _ = litA kA (bv reelB) * (blkA kL 5 (bv [1, rb, UInt8.ofNat t.length]) * (preA kT (bv t) * (rowA 5 1 (.slice AF 4 cF) 4 (bv (be4 s)) * (blkA b 25 [st t, .int .i64 rb.toNat, .int .i64 s] * X))))))
  have hR := hRt v w7 x7.drop2
  have c60 : w6.cell? ⟨b, 0, none⟩ = some (st t) := x6.cell 0 rfl
  have c61 : w6.cell? ⟨b, 1, none⟩ = some (.int .i64 rb.toNat) := x6.cell 1 rfl
  have c62 : w6.cell? ⟨b, 2, none⟩ = some (.int .i64 s) := x6.cell 2 rfl
  have c70 : w7.cell? ⟨b, 0, none⟩ = some (st t) := x7.swap.cell 0 rfl
  have c71 : w7.cell? ⟨b, 1, none⟩ = some (.int .i64 rb.toNat) := x7.swap.cell 1 rfl
  have c72 : w7.cell? ⟨b, 2, none⟩ = some (.int .i64 s) := x7.swap.cell 2 rfl
  have e1 := cv23 rb
  have e2 := cv3 ht
  have e3 := len9 3 ⟨t.toArray⟩
  rw [st_size] at e3
  obtain ⟨n, hn⟩ : ∃ n, n = t.length := ⟨_, rfl⟩
  rw [← hn] at e2 e3 k5 k2 k6s
  unfold f16.o57
  simp [addL, ← hw0, e1, e2, e3, c00, c01, c02, k1, c10, c11, c12, k2, c20, c21, c22, k3, c30, c31, c32, k4, c40, c41, c42, k5, c50, c51, c52, k6s, k7, c60, c61, c62, c70, c71, c72, chkThen, f16.k0, after, hR]
theorem f16_o58 {w : World} {t : List UInt8} {rb : UInt8} {s b : Nat} {Rt : List Value → World → Prop} (ht : t.length ≤ 100) (hs : s < 4294967296) (x : Sat W (blkA b 25 [st t, .int .i64 rb.toNat, .int .i64 s] * X) w) (hRt : ∀ v w', Sat W (rowA 5 1 v (t.length + 15) (bv (labelB t rb s)) * X) w' → Rt [v] w') : f16.o58 C Rt (.pointer (some ⟨b, 0, none⟩)) w := by
  have x0 := x.drew
  obtain ⟨w0, hw0⟩ : ∃ w0, w0 = w.drew := ⟨_, rfl⟩
  rw [← hw0] at x0
  have b0 := x0
  have c00 : w0.cell? ⟨b, 0, none⟩ = some (st t) := b0.cell 0 rfl
  have c01 : w0.cell? ⟨b, 1, none⟩ = some (.int .i64 rb.toNat) := b0.cell 1 rfl
  have c02 : w0.cell? ⟨b, 2, none⟩ = some (.int .i64 s) := b0.cell 2 rfl
  obtain ⟨AF, cF, w1, k1, x1⟩ := stF x0 hs
  have b1 := x1.eq (by ac_rfl : _ = blkA b 25 [st t, .int .i64 rb.toNat, .int .i64 s] * (rowA 5 1 (.slice AF 4 cF) 4 (bv (be4 s)) * X))
  have c10 : w1.cell? ⟨b, 0, none⟩ = some (st t) := b1.cell 0 rfl
  have c11 : w1.cell? ⟨b, 1, none⟩ = some (.int .i64 rb.toNat) := b1.cell 1 rfl
  have c12 : w1.cell? ⟨b, 2, none⟩ = some (.int .i64 s) := b1.cell 2 rfl
  obtain ⟨kT, cT, w2, k2, x2⟩ := stT x1 t
  have b2 := x2.eq (by ac_rfl : _ = blkA b 25 [st t, .int .i64 rb.toNat, .int .i64 s] * (preA kT (bv t) * (rowA 5 1 (.slice AF 4 cF) 4 (bv (be4 s)) * X)))
  have c20 : w2.cell? ⟨b, 0, none⟩ = some (st t) := b2.cell 0 rfl
  have c21 : w2.cell? ⟨b, 1, none⟩ = some (.int .i64 rb.toNat) := b2.cell 1 rfl
  have c22 : w2.cell? ⟨b, 2, none⟩ = some (.int .i64 s) := b2.cell 2 rfl
  obtain ⟨kA, w3, k3, x3⟩ := stA x2
  have b3 := x3.eq (by ac_rfl : _ = blkA b 25 [st t, .int .i64 rb.toNat, .int .i64 s] * (blkA kA 5 (bv reelB) * (preA kT (bv t) * (rowA 5 1 (.slice AF 4 cF) 4 (bv (be4 s)) * X))))
  have c30 : w3.cell? ⟨b, 0, none⟩ = some (st t) := b3.cell 0 rfl
  have c31 : w3.cell? ⟨b, 1, none⟩ = some (.int .i64 rb.toNat) := b3.cell 1 rfl
  have c32 : w3.cell? ⟨b, 2, none⟩ = some (.int .i64 s) := b3.cell 2 rfl
  obtain ⟨kL, w4, k4, x4⟩ := stL x3 rb t.length ht
  have b4 := x4.eq (by ac_rfl : _ = blkA b 25 [st t, .int .i64 rb.toNat, .int .i64 s] * (blkA kL 5 (bv [1, rb, UInt8.ofNat t.length]) * (blkA kA 5 (bv reelB) * (preA kT (bv t) * (rowA 5 1 (.slice AF 4 cF) 4 (bv (be4 s)) * X)))))
  have c40 : w4.cell? ⟨b, 0, none⟩ = some (st t) := b4.cell 0 rfl
  have c41 : w4.cell? ⟨b, 1, none⟩ = some (.int .i64 rb.toNat) := b4.cell 1 rfl
  have c42 : w4.cell? ⟨b, 2, none⟩ = some (.int .i64 s) := b4.cell 2 rfl
  obtain ⟨w5, k5, x5⟩ := stB (x4.eq (by ac_rfl : _ = blkA kA 5 (bv reelB) * (blkA kL 5 (bv [1, rb, UInt8.ofNat t.length]) * (preA kT (bv t) * (rowA 5 1 (.slice AF 4 cF) 4 (bv (be4 s)) * (blkA b 25 [st t, .int .i64 rb.toNat, .int .i64 s] * X))))))
  have b5 := x5.eq (by ac_rfl : _ = blkA b 25 [st t, .int .i64 rb.toNat, .int .i64 s] * (litA kA (bv reelB) * (blkA kL 5 (bv [1, rb, UInt8.ofNat t.length]) * (preA kT (bv t) * (rowA 5 1 (.slice AF 4 cF) 4 (bv (be4 s)) * X)))))
  have c50 : w5.cell? ⟨b, 0, none⟩ = some (st t) := b5.cell 0 rfl
  have c51 : w5.cell? ⟨b, 1, none⟩ = some (.int .i64 rb.toNat) := b5.cell 1 rfl
  have c52 : w5.cell? ⟨b, 2, none⟩ = some (.int .i64 s) := b5.cell 2 rfl
  obtain ⟨k6, w6, v, w7, k6s, k7, x7, x6⟩ := label_sum (cT := cT) ht (x5.eq (by ac_rfl : _ = litA kA (bv reelB) * (blkA kL 5 (bv [1, rb, UInt8.ofNat t.length]) * (preA kT (bv t) * (rowA 5 1 (.slice AF 4 cF) 4 (bv (be4 s)) * (blkA b 25 [st t, .int .i64 rb.toNat, .int .i64 s] * X))))))
  have hR := hRt v w7 x7.drop2
  have c60 : w6.cell? ⟨b, 0, none⟩ = some (st t) := x6.cell 0 rfl
  have c61 : w6.cell? ⟨b, 1, none⟩ = some (.int .i64 rb.toNat) := x6.cell 1 rfl
  have c62 : w6.cell? ⟨b, 2, none⟩ = some (.int .i64 s) := x6.cell 2 rfl
  have c70 : w7.cell? ⟨b, 0, none⟩ = some (st t) := x7.swap.cell 0 rfl
  have c71 : w7.cell? ⟨b, 1, none⟩ = some (.int .i64 rb.toNat) := x7.swap.cell 1 rfl
  have c72 : w7.cell? ⟨b, 2, none⟩ = some (.int .i64 s) := x7.swap.cell 2 rfl
  have e1 := cv23 rb
  have e2 := cv3 ht
  have e3 := len9 3 ⟨t.toArray⟩
  rw [st_size] at e3
  obtain ⟨n, hn⟩ : ∃ n, n = t.length := ⟨_, rfl⟩
  rw [← hn] at e2 e3 k4 k2 k6s
  unfold f16.o58
  simp [addL, ← hw0, e1, e2, e3, c00, c01, c02, k1, c10, c11, c12, k2, c20, c21, c22, k3, c30, c31, c32, k4, c40, c41, c42, k5, c50, c51, c52, k6s, k7, c60, c61, c62, c70, c71, c72, chkThen, f16.k0, after, hR]
theorem f16_o59 {w : World} {t : List UInt8} {rb : UInt8} {s b : Nat} {Rt : List Value → World → Prop} (ht : t.length ≤ 100) (hs : s < 4294967296) (x : Sat W (blkA b 25 [st t, .int .i64 rb.toNat, .int .i64 s] * X) w) (hRt : ∀ v w', Sat W (rowA 5 1 v (t.length + 15) (bv (labelB t rb s)) * X) w' → Rt [v] w') : f16.o59 C Rt (.pointer (some ⟨b, 0, none⟩)) w := by
  have x0 := x.drew
  obtain ⟨w0, hw0⟩ : ∃ w0, w0 = w.drew := ⟨_, rfl⟩
  rw [← hw0] at x0
  have b0 := x0
  have c00 : w0.cell? ⟨b, 0, none⟩ = some (st t) := b0.cell 0 rfl
  have c01 : w0.cell? ⟨b, 1, none⟩ = some (.int .i64 rb.toNat) := b0.cell 1 rfl
  have c02 : w0.cell? ⟨b, 2, none⟩ = some (.int .i64 s) := b0.cell 2 rfl
  obtain ⟨AF, cF, w1, k1, x1⟩ := stF x0 hs
  have b1 := x1.eq (by ac_rfl : _ = blkA b 25 [st t, .int .i64 rb.toNat, .int .i64 s] * (rowA 5 1 (.slice AF 4 cF) 4 (bv (be4 s)) * X))
  have c10 : w1.cell? ⟨b, 0, none⟩ = some (st t) := b1.cell 0 rfl
  have c11 : w1.cell? ⟨b, 1, none⟩ = some (.int .i64 rb.toNat) := b1.cell 1 rfl
  have c12 : w1.cell? ⟨b, 2, none⟩ = some (.int .i64 s) := b1.cell 2 rfl
  obtain ⟨kT, cT, w2, k2, x2⟩ := stT x1 t
  have b2 := x2.eq (by ac_rfl : _ = blkA b 25 [st t, .int .i64 rb.toNat, .int .i64 s] * (preA kT (bv t) * (rowA 5 1 (.slice AF 4 cF) 4 (bv (be4 s)) * X)))
  have c20 : w2.cell? ⟨b, 0, none⟩ = some (st t) := b2.cell 0 rfl
  have c21 : w2.cell? ⟨b, 1, none⟩ = some (.int .i64 rb.toNat) := b2.cell 1 rfl
  have c22 : w2.cell? ⟨b, 2, none⟩ = some (.int .i64 s) := b2.cell 2 rfl
  obtain ⟨kL, w3, k3, x3⟩ := stL x2 rb t.length ht
  have b3 := x3.eq (by ac_rfl : _ = blkA b 25 [st t, .int .i64 rb.toNat, .int .i64 s] * (blkA kL 5 (bv [1, rb, UInt8.ofNat t.length]) * (preA kT (bv t) * (rowA 5 1 (.slice AF 4 cF) 4 (bv (be4 s)) * X))))
  have c30 : w3.cell? ⟨b, 0, none⟩ = some (st t) := b3.cell 0 rfl
  have c31 : w3.cell? ⟨b, 1, none⟩ = some (.int .i64 rb.toNat) := b3.cell 1 rfl
  have c32 : w3.cell? ⟨b, 2, none⟩ = some (.int .i64 s) := b3.cell 2 rfl
  obtain ⟨kA, w4, k4, x4⟩ := stA x3
  have b4 := x4.eq (by ac_rfl : _ = blkA b 25 [st t, .int .i64 rb.toNat, .int .i64 s] * (blkA kA 5 (bv reelB) * (blkA kL 5 (bv [1, rb, UInt8.ofNat t.length]) * (preA kT (bv t) * (rowA 5 1 (.slice AF 4 cF) 4 (bv (be4 s)) * X)))))
  have c40 : w4.cell? ⟨b, 0, none⟩ = some (st t) := b4.cell 0 rfl
  have c41 : w4.cell? ⟨b, 1, none⟩ = some (.int .i64 rb.toNat) := b4.cell 1 rfl
  have c42 : w4.cell? ⟨b, 2, none⟩ = some (.int .i64 s) := b4.cell 2 rfl
  obtain ⟨w5, k5, x5⟩ := stB x4
  have b5 := x5.eq (by ac_rfl : _ = blkA b 25 [st t, .int .i64 rb.toNat, .int .i64 s] * (litA kA (bv reelB) * (blkA kL 5 (bv [1, rb, UInt8.ofNat t.length]) * (preA kT (bv t) * (rowA 5 1 (.slice AF 4 cF) 4 (bv (be4 s)) * X)))))
  have c50 : w5.cell? ⟨b, 0, none⟩ = some (st t) := b5.cell 0 rfl
  have c51 : w5.cell? ⟨b, 1, none⟩ = some (.int .i64 rb.toNat) := b5.cell 1 rfl
  have c52 : w5.cell? ⟨b, 2, none⟩ = some (.int .i64 s) := b5.cell 2 rfl
  obtain ⟨k6, w6, v, w7, k6s, k7, x7, x6⟩ := label_sum (cT := cT) ht (x5.eq (by ac_rfl : _ = litA kA (bv reelB) * (blkA kL 5 (bv [1, rb, UInt8.ofNat t.length]) * (preA kT (bv t) * (rowA 5 1 (.slice AF 4 cF) 4 (bv (be4 s)) * (blkA b 25 [st t, .int .i64 rb.toNat, .int .i64 s] * X))))))
  have hR := hRt v w7 x7.drop2
  have c60 : w6.cell? ⟨b, 0, none⟩ = some (st t) := x6.cell 0 rfl
  have c61 : w6.cell? ⟨b, 1, none⟩ = some (.int .i64 rb.toNat) := x6.cell 1 rfl
  have c62 : w6.cell? ⟨b, 2, none⟩ = some (.int .i64 s) := x6.cell 2 rfl
  have c70 : w7.cell? ⟨b, 0, none⟩ = some (st t) := x7.swap.cell 0 rfl
  have c71 : w7.cell? ⟨b, 1, none⟩ = some (.int .i64 rb.toNat) := x7.swap.cell 1 rfl
  have c72 : w7.cell? ⟨b, 2, none⟩ = some (.int .i64 s) := x7.swap.cell 2 rfl
  have e1 := cv23 rb
  have e2 := cv3 ht
  have e3 := len9 3 ⟨t.toArray⟩
  rw [st_size] at e3
  obtain ⟨n, hn⟩ : ∃ n, n = t.length := ⟨_, rfl⟩
  rw [← hn] at e2 e3 k3 k2 k6s
  unfold f16.o59
  simp [addL, ← hw0, e1, e2, e3, c00, c01, c02, k1, c10, c11, c12, k2, c20, c21, c22, k3, c30, c31, c32, k4, c40, c41, c42, k5, c50, c51, c52, k6s, k7, c60, c61, c62, c70, c71, c72, chkThen, f16.k0, after, hR]
end
end Go.Sh.YtodkllcibbidoaaDoor

