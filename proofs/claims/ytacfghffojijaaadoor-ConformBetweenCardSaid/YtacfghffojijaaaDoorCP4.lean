/- plane.New, small, Mix: what they answer. Conditions: those of each statement. -/
import Derived.Test.YtacfghffojijaaaDoorCP3
namespace Go.Sh.YtacfghffojijaaaDoor
open Go Go.Proofs Go.RowKit
set_option linter.unusedVariables false
set_option linter.unusedSimpArgs false
set_option maxRecDepth 100000
theorem loads_cell {w : World} {b : Nat} {W H D : Int} {al : Bool} {A : Option Addr} {n c : Nat} (h : Blk w b 30 (fcs W H D al (.slice A n c))) (s : Nat) : loadsOf Tryd.prog [.cell s 30] [.pointer (some ⟨b, 0, none⟩)] w = some [fv W H D al A n c] := by
  simp [ld30b h]
theorem blank_ok {W H : Int} (D : Int) {al : Bool} (h0 : 1 ≤ W) (h1 : W ≤ 4096) (h2 : 1 ≤ H) (h3 : H ≤ 4096) (w : World) :
    ∃ A c q w', C 24 #[sv W H D al] w = some (fv W H D al A (pl al) c, w') ∧ q.length = pl al ∧ (∀ p x, q[p]? = some x → ∃ (A : Option Addr) (n : Nat), (n : Int) = wd W p * H ∧ x = zp n A) ∧ Fr w' w.heap.size (.slice A (pl al) c) q ∧ w.grownBy w' none := by
  obtain ⟨W0, hW0⟩ : ∃ W0, W0 = w.alloc (.cells #[.int .i64 W, .int .i64 H, .int .i64 D, .bool al] 27) := ⟨_, rfl⟩
  have g0 : w.grownBy W0 none := hW0 ▸ World.grownBy_alloc w _ none
  have b0 : Blk W0 w.heap.size 27 [.int .i64 W, .int .i64 H, .int .i64 D, .bool al] := hW0 ▸ Blk.new w 27 [.int .i64 W, .int .i64 H, .int .i64 D, .bool al]
  obtain ⟨W1, hW1⟩ : ∃ W1, W1 = W0.alloc (.cells #[.int .i64 0, .int .i64 0, .int .i64 0, .bool false, .slice none 0 0] 30) := ⟨_, rfl⟩
  have g1 : W0.grownBy W1 none := hW1 ▸ World.grownBy_alloc W0 _ none
  have b1 : Blk W1 W0.heap.size 30 (fcs 0 0 0 false (.slice none 0 0)) := hW1 ▸ Blk.new W0 30 (fcs 0 0 0 false (.slice none 0 0))
  obtain ⟨W2, hW2⟩ : ∃ W2, W2 = W1.alloc (.cells #[.int .i64 0, .int .i64 0, .int .i64 0, .bool false, .slice none 0 0] 30) := ⟨_, rfl⟩
  have g2 : W1.grownBy W2 none := hW2 ▸ World.grownBy_alloc W1 _ none
  have b2 : Blk W2 W1.heap.size 30 (fcs 0 0 0 false (.slice none 0 0)) := hW2 ▸ Blk.new W1 30 (fcs 0 0 0 false (.slice none 0 0))
  have hs0 : W0.heap.size = w.heap.size + 1 := by rw [hW0]; simp
  have hs1 : W1.heap.size = w.heap.size + 2 := by rw [hW1]; simp [hs0]
  obtain ⟨w3, s3, b3, g3⟩ := st30 b2 rfl W H D al none 0 0
  have b3s : Blk w3 w.heap.size 27 [.int .i64 W, .int .i64 H, .int .i64 D, .bool al] := ((b0.grown g1 (by simp)).grown g2 (by simp)).grown g3 (by simp; omega)
  have b3r : Blk w3 W0.heap.size 30 (fcs 0 0 0 false (.slice none 0 0)) := (b1.grown g2 (by simp)).grown g3 (by simp; omega)
  have G02 : w.grownBy W2 none := grown_trans (grown_trans g0 g1 (by simp)) g2 (by simp)
  have G3 : w.grownBy w3 none := grown_trans G02 g3 (fun k hk => by cases hk; omega)
  obtain ⟨w4, a4, g4⟩ := planes_ok W H D al w3
  have G4 := grown_trans G3 g4 (by simp)
  have b4r := b3r.grown g4 (by simp)
  obtain ⟨r, h5, V, q, w5, rfl, hq, hall, F5, b5, G5⟩ := blank_l0 (w0 := w4) (al := al) (D := D) h0 h1 h2 h3 (s := w.heap.size) (f := W1.heap.size) (.pointer (some ⟨W0.heap.size, 0, none⟩)) (pl al) _ w4 ⟨0, .slice none 0 0, [], rfl, by omega, rfl, by simp, ⟨World.ownsRow_nil _ _ _ _, Rows.nil⟩, b3.grown g4 (by simp), b3s.grown g4 (by simp), Grew.refl _ _⟩
  have b5r := b4r.grew G5 (fun e => by omega)
  obtain ⟨A, c, rfl, _⟩ := own_form F5.row
  obtain ⟨w6, s6, b6, g6⟩ := st30 b5r rfl W H D al A q.length c
  have G5' : w.grownBy w5 none := ((grew_new (S := fun k => w.heap.size ≤ k) G4).step (G5.weak fun k hk => .inl (by omega))).toNew fun _ h => h
  have F6 := F5.grew (grew_of (S := fun k => k = W0.heap.size) g6 fun k hk => by cases hk; exact .inl rfl) fun k hk e => F5.ne_blk b5r (by decide) (by decide) (e ▸ hk)
  refine ⟨A, c, q, w6, f24.run rfl ?_, hq, hall, ?_, grown_trans G5' g6 fun k hk => by cases hk; omega⟩
  · rw [hq] at s6 b6 b5
    have hs1' : W1.heap.size = W0.heap.size + 1 := by rw [hW1]; simp
    rw [hs1'] at s3 h5 b5
    simp at h5
    simp [f24, box_any, Value.cells, ← hW0, alloc30, ← hW1, ← hW2, ld27b b0 rfl, ld27b (b0.grown g1 (by simp)) rfl, ld27b ((b0.grown g1 (by simp)).grown g2 (by simp)) rfl, build30, s3, ld27b b3s rfl, a4, h5, ld30b b5, s6, ld30b b6]
  · rw [← hq]
    exact ⟨own_base F6.row G4.size, ⟨fun p hp => own_base (F6.pl.own p hp) G4.size, F6.pl.dis⟩⟩
theorem new_ok {W H : Int} {D : Int} {al : Bool} (hS : Shd W H D al) (w : World) :
    ∃ A c q w', C 17 #[sv W H D al] w = some (.tuple #[fv W H D al A (pl al) c, .int .i64 0], w') ∧ q.length = pl al ∧ (∀ p x, q[p]? = some x → ∃ (A : Option Addr) (n : Nat), (n : Int) = wd W p * H ∧ x = zp n A) ∧ Fr w' w.heap.size (.slice A (pl al) c) q ∧ w.grownBy w' none := by
  obtain ⟨W0, hW0⟩ : ∃ W0, W0 = w.alloc (.cells #[.int .i64 W, .int .i64 H, .int .i64 D, .bool al] 27) := ⟨_, rfl⟩
  have g0 : w.grownBy W0 none := hW0 ▸ World.grownBy_alloc w _ none
  have b0 : Blk W0 w.heap.size 27 [.int .i64 W, .int .i64 H, .int .i64 D, .bool al] := hW0 ▸ Blk.new w 27 [.int .i64 W, .int .i64 H, .int .i64 D, .bool al]
  obtain ⟨W1, hW1⟩ : ∃ W1, W1 = W0.alloc (.cells #[.int .i64 0, .int .i64 0, .int .i64 0, .bool false, .slice none 0 0] 30) := ⟨_, rfl⟩
  have g1 : W0.grownBy W1 none := hW1 ▸ World.grownBy_alloc W0 _ none
  have b1 : Blk W1 W0.heap.size 30 (fcs 0 0 0 false (.slice none 0 0)) := hW1 ▸ Blk.new W0 30 (fcs 0 0 0 false (.slice none 0 0))
  have hs0 : W0.heap.size = w.heap.size + 1 := by rw [hW0]; simp
  have b01 := b0.grown g1 (by simp)
  obtain ⟨w2, a2, g2⟩ := shaped_ok W H D al W1
  rw [if_pos hS] at a2
  have b2 := b01.grown g2 (by simp)
  have b2r := b1.grown g2 (by simp)
  have hS' := hS
  obtain ⟨h0, h1, h2, h3, _, _⟩ := hS'
  obtain ⟨A, c, q, w3, a3, hq, hall, F3, g3⟩ := blank_ok (al := al) D h0 h1 h2 h3 w2
  have b3r := b2r.grown g3 (by simp)
  obtain ⟨w4, s4, b4, g4⟩ := st30 b3r rfl W H D al A (pl al) c
  have G3 : w.grownBy w3 none := grown_trans (grown_trans (grown_trans g0 g1 (by simp)) g2 (by simp)) g3 (by simp)
  have G2 : w.grownBy w2 none := grown_trans (grown_trans g0 g1 (by simp)) g2 (by simp)
  have F4 := F3.grew (grew_of (S := fun k => k = W0.heap.size) g4 fun k hk => by cases hk; exact .inl rfl) fun k hk e => F3.ne_blk b3r (by decide) (by decide) (e ▸ hk)
  refine ⟨A, c, q, w4, f17.run rfl ?_, hq, hall, ⟨own_base F4.row G2.size, ⟨fun p hp => own_base (F4.pl.own p hp) G2.size, F4.pl.dis⟩⟩, grown_trans G3 g4 fun k hk => by cases hk; omega⟩
  simp [f17, box_any, Value.cells, ← hW0, alloc30, ← hW1, ld27b b01 rfl, a2, ld27b b2 rfl, a3, s4, ld30b b4]
end Go.Sh.YtacfghffojijaaaDoor
