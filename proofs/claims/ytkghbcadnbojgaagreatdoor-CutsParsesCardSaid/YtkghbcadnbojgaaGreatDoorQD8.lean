/- cuts: a line of an event as it is printed. Conditions: those of each statement. -/
import Derived.Lib.UnsafeStr
import Derived.Lib.BufferWrite
import Derived.Lib.LazyBuf
import Derived.Test.YtkghbcadnbojgaaGreatDoorQD3
import Derived.Test.YtkghbcadnbojgaaGreatDoorQD7
namespace Go.Sh.YtkghbcadnbojgaaGreatDoor
open Go Go.Proofs Go.RowKit Go.Lib Go.Sh.Ev
set_option linter.unusedVariables false
set_option linter.unusedSimpArgs false
set_option maxRecDepth 100000
open Go Go.Proofs Go.RowKit Go.Lib Go.ChangeShapes Go.WideShapes Go.Sh.Ev
open Go Go.Proofs Go.RowKit Go.Sh.Ev
open Go.Proofs.Tryz renaming prog → Zp, underlying9 → Uz
open Go.Instr renaming loadAt → Zl, fieldAt → Zf, storeAt → Zs, extract → Zx, build → Zb, box → Zo, makeInterface → Zm
open Go.Value renaming int → Vi, string → Vs, bool → Vb, nilIface → Vn
open Go.IntKind renaming i64 → Ki, u8 → Ku
open Go.Operand renaming tmp → Ot, const → Oc
open Go.Builtin renaming len_ → Yl
open Option.some renaming injEq → Oj
open List renaming getElem?_eq_getElem → Yg, length_append → Ya, length_cons → Yc, drop_drop → Yd, length_drop → Ye
open Go.Sh.Res renaming norm → Xn, ret → Xr, exit → Xx
open Go.Sh renaming prun → Pq
noncomputable def pl3 (call : CallF) (vs_1 : List Value) (W2 : World) : Option Res :=
 let s9_1 := nth vs_1 0
 (Pq Zp (do eqGuard .add 9 (Ot 51) (Oc (Vs { data := #[10] })) s9_1 (Vs { data := #[10] }); binOp .add 9 s9_1 (Vs { data := #[10] }))).bind fun v52 =>
 some (Xr [v52] W2)
noncomputable def pl2 (call : CallF) (vs : List Value) (W1 : World) : Option Res :=
 let e2 := nth vs 0
 let in5 := nth vs 1
 let out7 := nth vs 2
 let s9 := nth vs 3
 (Pq Zp (Zf 51 e2 0)).bind fun v33 =>
 (rrun Zp (Zl 9 v33) W1).bind fun v34 =>
 (Pq Zp (do eqGuard .add 9 (Ot 34) (Oc (Vs { data := #[32] })) v34 (Vs { data := #[32] }); binOp .add 9 v34 (Vs { data := #[32] }))).bind fun v35 =>
 (Pq Zp (do eqGuard .add 9 (Ot 35) (Ot 36) v35 in5; binOp .add 9 v35 in5)).bind fun v37 =>
 (Pq Zp (do eqGuard .add 9 (Ot 37) (Oc (Vs { data := #[32] })) v37 (Vs { data := #[32] }); binOp .add 9 v37 (Vs { data := #[32] }))).bind fun v38 =>
 (Pq Zp (do eqGuard .add 9 (Ot 38) (Ot 39) v38 out7; binOp .add 9 v38 out7)).bind fun v40 =>
 (Pq Zp (do eqGuard .add 9 (Ot 32) (Ot 40) s9 v40; binOp .add 9 s9 v40)).bind fun v41 =>
 (Pq Zp (Zf 51 e2 4)).bind fun v42 =>
 (rrun Zp (Zl 9 v42) W1).bind fun v43 =>
 (Pq Zp (do eqGuard .neq 9 (Ot 43) (Oc (Vs { data := #[] })) v43 (Vs { data := #[] }); binOp .neq 9 v43 (Vs { data := #[] }))).bind fun v44 =>
 (asB v44).bind fun c44 =>
 (if c44 then
  (Pq Zp (Zf 51 e2 4)).bind fun v46 =>
  (rrun Zp (Zl 9 v46) W1).bind fun v47 =>
  (call 50 #[v47] W1).bind fun r48 =>
  (Pq Zp (do eqGuard .add 9 (Oc (Vs { data := #[32] })) (Ot 48) (Vs { data := #[32] }) r48.1; binOp .add 9 (Vs { data := #[32] }) r48.1)).bind fun v49 =>
  (Pq Zp (do eqGuard .add 9 (Ot 45) (Ot 49) v41 v49; binOp .add 9 v41 v49)).bind fun v50 =>
  some (Xn [v50] r48.2)
  else
  some (Xn [v41] W1)).bind fun (r : Res) => r.cont (pl3 call)
section
variable {W : World} {X : Asn W.heap.size}
end
theorem grown_below {w w' : World} (h : Below w.heap.size w w') : w.grownBy w' none := ⟨h.os, h.tape, h.output, h.size, fun k hk _ => h.block k hk⟩
theorem clone_ok (l : List UInt8) (hl : l.length ≤ 100000) (w : World) : ∃ w', C 130 #[st l] w = some (st l, w') ∧ w.grownBy w' none := by
 have hln := fun ty => str_len (P := Zp) Uz ty l
 by_cases h0 : l.length = 0
 ·have : l = [] := List.length_eq_zero_iff.mp h0
  subst this
  exact ⟨w, f130.run rfl (by simp [f130, hln]), grown_refl _ _⟩
 ·have hi := inf5
  have hz0 := zero5
  have hz1 := size5
  have hz2 := bytes5
  have hinfo : (Tryz.prog.info? 5).map (·.size) = some 1 := by rw [hi]; simp [hz1]
  have hco : Tryz.prog.cellsOf 5 = 1 := by kernel_rfl
  obtain ⟨M, hM⟩ : ∃ M, M = madeCells (Vi .u8 0).cells (((l.length : Nat) : Int).toNat * (inf 5).size) := ⟨_, rfl⟩
  have hMs : M.size = l.length := by rw [hM, size_madeCells, hz1]; simp
  have hmk : (Instr.makeSlice 160 (.int .i64 (l.length : Int)) (.int .i64 (l.length : Int))).run Zp w = .ok (.slice (some ⟨w.heap.size, 0, none⟩) l.length l.length) (w.alloc (.cells M 5)) := by
   have h := run_make (P := Zp) w 160 5 (inf 5) (.int .u8 0) Tryz.underlying160 hi hz0 .i64 .i64 (l.length : Int) (l.length : Int) (by omega) (by omega) (by rw [hz2]; omega) (by omega)
   rw [← hM] at h
   simpa using h
  clear hM
  have hsz := st_size l
  have hcp := Lib.run_copy_row_string (P := Zp) (w.alloc (.cells M 5)) 160 9 3 5 w.heap.size 0 l.length l.length ⟨l.toArray⟩ M 5 Tryz.underlying160 hinfo (heap_alloc_new w _) (by rw [hsz]; exact Nat.le_refl _) (by rw [hsz]; omega)
  obtain ⟨Y, hY⟩ : ∃ Y, Y = (M.toList.take 0 ++ Lib.byteCells l ++ M.toList.drop (0 + l.length)).toArray := ⟨_, rfl⟩
  rw [hsz] at hcp
  simp only [List.toList_toArray] at hcp
  rw [← hY] at hcp
  have hYl : Y.toList = Lib.byteCells l := by
   rw [hY, List.toList_toArray, List.take_zero, List.nil_append, List.drop_of_length_le (by rw [Array.length_toList]; omega), List.append_nil]
  have hYs : Y.size = l.length := by rw [← Array.length_toList, hYl, Lib.byteCells_length]
  have hgY : ((w.alloc (.cells M 5)).setRow w.heap.size Y).heap[w.heap.size]? = some (.cells Y 5 (0, 0)) := setRow_heap _ _ M _ 5 (0, 0) (heap_alloc_new w _)
  have hne : l ≠ [] := fun e => h0 (by rw [e]; rfl)
  have hUS := Lib.run_unsafeString_row (P := Zp) ((w.alloc (.cells M 5)).setRow w.heap.size Y) 219 3 9 5 Tryz.underlying219 hco w.heap.size Y.size (by unfold World.shape?; rw [hgY]) l hne (by omega) (by omega)
   (fun j x hx => Lib.cells_of_row hgY Y.size j _ (by rw [List.take_of_length_le (by rw [Array.length_toList]; exact Nat.le_refl _), hYl]; simp [Lib.byteCells, hx]))
  clear hY
  have e1 := erun_of_run hmk
  have e2 := erun_of_run hcp
  have e3 := erun_of_run hUS
  have ix := ix160 ⟨w.heap.size, 0, none⟩ l.length l.length .i64 0 (by omega) (by omega)
  have hb1 : Below w.heap.size w (w.alloc (.cells M 5)) := (Below.refl _ w).alloc (Nat.le_refl _) _
  have hb2 : Below w.heap.size (w.alloc (.cells M 5)) ((w.alloc (.cells M 5)).setRow w.heap.size Y) := ⟨rfl, rfl, rfl, by simp, fun k hk => setRow_other _ _ _ _ (by omega)⟩
  have h0' : ¬ (l.length : Int) = 0 := by omega
  obtain ⟨w2, hw2⟩ : ∃ w2, w2 = w.alloc (.cells M 5) := ⟨_, rfl⟩
  rw [← hw2] at e1 e2
  obtain ⟨w3, hw3⟩ : ∃ w3, w3 = w2.setRow w.heap.size Y := ⟨_, rfl⟩
  rw [← hw3] at e2
  rw [← hw2, ← hw3] at e3
  refine ⟨_, f130.run rfl ?_, grown_below (Lib.below_freeze (hb1.trans hb2) (p := ⟨w.heap.size, 0, none⟩) (Nat.le_refl _) l.length)⟩
  rw [← hw2, ← hw3]
  have ix' : Pq Zp (Instr.indexAt 160 (.slice (some ⟨w.heap.size, 0, none⟩) l.length l.length) (.int .i64 0)) = some (.pointer (some ⟨w.heap.size, 0, none⟩)) := ix
  obtain ⟨N, hN⟩ : ∃ N, N = l.length := ⟨_, rfl⟩
  simp only [← hN] at hln
  rw [← hN] at e1 e2 e3 ix' h0 h0' ⊢
  simp [f130, hln, h0, h0', e1, e2, ix', e3, goInt]
structure ErrVars (w : World) : Prop where
 s : ∃ t u, w.cell? ⟨5, 0, none⟩ = some (.iface t u) ∧ 5 < w.heap.size
 r : ∃ t u, w.cell? ⟨6, 0, none⟩ = some (.iface t u) ∧ 6 < w.heap.size
theorem ErrVars.grown {w w' : World} (h : ErrVars w) (g : w.grownBy w' none) : ErrVars w' := by
 obtain ⟨⟨t, v, h1, h2⟩, ⟨s, u, h3, h4⟩⟩ := h
 refine ⟨⟨t, v, ?_, Nat.lt_of_lt_of_le h2 g.size⟩, ⟨s, u, ?_, Nat.lt_of_lt_of_le h4 g.size⟩⟩
 ·rw [World.cell?_of_block (g.block 5 h2 (by simp))]; exact h1
 ·rw [World.cell?_of_block (g.block 6 h4 (by simp))]; exact h3
theorem build211 (a b : ByteArray) (t : TypeId) (u : Value) : Pq Zp (Zb 211 #[(0, .string a), (1, .string b), (2, .iface t u)]) = some (.agg #[.string a, .string b, .iface t u]) := id (by kernel_rfl)
theorem mk198 (v : Value) : Pq Zp (Zm 198 v) = some (.iface 198 v) := id (by kernel_rfl)
theorem mk201 (v : Value) : Pq Zp (Zm 201 v) = some (.iface 201 v) := id (by kernel_rfl)
theorem u8sub (N : Nat) (h : N < 256) : IntKind.u8.wrap ((N : Int) - 48) = (((N + 208) % 256 : Nat) : Int) := by
 have e : ∀ N : Nat, N < 256 → IntKind.u8.wrap ((N : Int) - 48) = (((N + 208) % 256 : Nat) : Int) := by decide +kernel
 exact e N h
theorem cv5_3 (z : Int) : Pq Zp (convert 5 3 (.int .u8 z)) = some (.int .i64 (IntKind.i64.wrap z)) := id (by kernel_rfl)
theorem a98_loop (s05 b : List UInt8) (hb : b.length ≤ 18) (w1 : World) (rb cp : Nat) (rd : ∀ j (hj : j < b.length), w1.cell? ⟨rb, j, none⟩ = some (.int .u8 (b[j].toNat))) :
  ∃ r, iter (f98.l0 C) [st s05, .int .i64 0, .slice (some ⟨rb, 0, none⟩) b.length cp, .int .i64 (b.length : Int), .int .i64 0] w1 = some r ∧ (r = .ret [.int .i64 0, .iface 198 (.int .i64 2)] w1 ∨ ∃ n : Nat, n < 10 ^ 18 ∧ r = .exit 0 [st s05, .int .i64 (n : Int)] w1) := by
 have key := iter_down (f := f98.l0 C) (fun d ws w2 => ∃ i n : Nat, ws = [st s05, .int .i64 (n : Int), .slice (some ⟨rb, 0, none⟩) b.length cp, .int .i64 (b.length : Int), .int .i64 (i : Int)] ∧ i + d = b.length ∧ w2 = w1 ∧ n < 10 ^ i)
  (fun r => r = .ret [.int .i64 0, .iface 198 (.int .i64 2)] w1 ∨ ∃ n : Nat, n < 10 ^ 18 ∧ r = .exit 0 [st s05, .int .i64 (n : Int)] w1) (by
   rintro d ws w2 ⟨i, n, rfl, hi, rfl, hn⟩
   have hp18 : 10 ^ i ≤ 10 ^ 18 := Nat.pow_le_pow_right (by omega) (by omega)
   cases d with
   | zero =>
    obtain rfl : i = b.length := by omega
    exact .inr ⟨.exit 0 [st s05, .int .i64 (n : Int)] w2, by simp [f98.l0], .inr ⟨n, by omega, rfl⟩, by simp⟩
   | succ d =>
    have hil : i < b.length := by omega
    have hlt : (i : Int) < b.length := by omega
    have i1 := ix160 ⟨rb, 0, none⟩ b.length cp .i64 (i : Int) (by omega) hlt
    have c1 := rd i hil
    have hp : 10 ^ i ≤ 10 ^ 17 := Nat.pow_le_pow_right (by omega) (by omega)
    have hps : 10 ^ (i + 1) = 10 * 10 ^ i := by rw [Nat.pow_succ]; omega
    have hN256 := (b[i]).toNat_lt
    obtain ⟨N, hN⟩ : ∃ N : Nat, N = b[i].toNat := ⟨_, rfl⟩
    rw [← hN] at c1 hN256
    have e0 := u8sub N hN256
    obtain ⟨D, hD⟩ : ∃ D : Nat, D = (N + 208) % 256 := ⟨_, rfl⟩
    rw [← hD] at e0
    by_cases h9 : (9 : Int) < D
    ·refine .inr ⟨.ret [.int .i64 0, .iface 198 (.int .i64 2)] w2, ?_, .inl rfl, by simp⟩
     have h9' : 9 < D := by omega
     simp [f98.l0, hlt, hil, i1, addL, c1, e0, h9, h9', mk198]
    ·have e1 : IntKind.i64.wrap ((n : Int) * 10) = (n : Int) * 10 := wrap_i64 (by omega) (by omega)
     have e2 : IntKind.i64.wrap (D : Int) = (D : Int) := wrap_i64 (by omega) (by omega)
     have e3 : IntKind.i64.wrap ((n : Int) * 10 + (D : Int)) = ((n * 10 + D : Nat) : Int) := (wrap_i64 (by omega) (by omega)).trans (by omega)
     have e4 : IntKind.i64.wrap ((i : Int) + 1) = ((i + 1 : Nat) : Int) := (wrap_i64 (by omega) (by omega)).trans (by omega)
     refine .inl ⟨d, _, w2, by omega, ?_, ⟨i + 1, n * 10 + D, rfl, by omega, rfl, by omega⟩⟩
     obtain ⟨Q, hQ⟩ : ∃ Q : Int, Q = ((n * 10 + D : Nat) : Int) := ⟨_, rfl⟩
     obtain ⟨I, hI⟩ : ∃ Q : Int, Q = ((i + 1 : Nat) : Int) := ⟨_, rfl⟩
     rw [← hQ] at e3 ⊢
     rw [← hI] at e4 ⊢
     have h9' : ¬ 9 < D := by omega
     simp [f98.l0, hlt, hil, i1, addL, c1, e0, h9, h9', e1, cv5_3, e2, e3, e4]) b.length [st s05, .int .i64 0, .slice (some ⟨rb, 0, none⟩) b.length cp, .int .i64 (b.length : Int), .int .i64 0] w1 ⟨0, 0, rfl, by omega, rfl, by simp⟩
 obtain ⟨r, h1, h2⟩ := key
 exact ⟨r, h1, h2⟩
def NumErr (e : Value) : Prop := e = .nilIface ∨ e = .iface 198 (.int .i64 1) ∨ e = .iface 198 (.int .i64 2)
theorem conv_bytes (b : List UInt8) (w : World) : ∃ cp w1, erun Zp (convert 9 160 (st b)) w = some (.slice (some ⟨w.heap.size, 0, none⟩) b.length cp, w1) ∧ w.grownBy w1 none ∧ ∀ j (hj : j < b.length), w1.cell? ⟨w.heap.size, j, none⟩ = some (.int .u8 (b[j].toNat)) := by
 refine ⟨_, _, cv9_160 b w, bytes_grown w 5 ⟨b.toArray⟩, fun j hj => ?_⟩
 rw [bytesWorld_cell w 5 ⟨b.toArray⟩ j (by rw [st_size]; exact hj)]
 simp [List.getD_eq_getElem?_getD, Yg hj]
theorem atoi98_short (l : List UInt8) (hl : 1 ≤ l.length) (hl' : l.length ≤ 18) (w : World) : ∃ z e w', C 98 #[st l] w = some (.tuple #[.int .i64 z, e], w') ∧ w.grownBy w' none ∧ NumErr e := by
 have hs := fun t => str_len (P := Zp) Uz t l
 have ix := str_index (P := Zp) Uz l .i64 0 (by omega)
 rw [show ((0 : Nat) : Int) = 0 from rfl] at ix
 obtain ⟨N0, hN0⟩ : ∃ N : Nat, N = l[0].toNat := ⟨_, rfl⟩
 rw [← hN0] at ix
 have p1 : (0 : Int) < l.length := by omega
 have p1' : 0 < l.length := by omega
 have p2 : (l.length : Int) < 19 := by omega
 by_cases hsg : N0 = 45 ∨ N0 = 43
 ·have sl := str_from (P := Zp) Uz l .i64 1 (by omega)
  rw [show ((1 : Nat) : Int) = 1 from rfl] at sl
  obtain ⟨b, hb⟩ : ∃ b, b = l.drop 1 := ⟨_, rfl⟩
  have hbl : b.length + 1 = l.length := by rw [hb, Ye]; omega
  rw [← hb] at sl
  have hsb := fun t => str_len (P := Zp) Uz t b
  by_cases h1 : b.length = 0
  ·refine ⟨0, .iface 198 (.int .i64 2), w, f98.run rfl ?_, grown_refl _ _, .inr (.inr rfl)⟩
   have h1' : (b.length : Int) < 1 := by omega
   rcases hsg with h | h
   ·have h' : (N0 : Int) = 45 := by omega
    rw [h'] at ix
    simp [f98, hs, p1, p1', p2, ix, sl, hsb, h1', h1, mk198]
   ·have h' : (N0 : Int) = 43 := by omega
    rw [h'] at ix
    simp [f98, hs, p1, p1', p2, ix, sl, hsb, h1', h1, mk198]
  ·have h1' : ¬ (b.length : Int) < 1 := by omega
   obtain ⟨cp, w1, cv, g1, rd⟩ := conv_bytes b w
   obtain ⟨r, hr, hr2⟩ := a98_loop l b (by omega) w1 w.heap.size cp rd
   rcases hr2 with rfl | ⟨n, hn, rfl⟩
   ·refine ⟨0, .iface 198 (.int .i64 2), w1, f98.run rfl ?_, g1, .inr (.inr rfl)⟩
    rcases hsg with h | h
    ·have h' : (N0 : Int) = 45 := by omega
     rw [h'] at ix
     simp [f98, hs, p1, p1', p2, ix, sl, hsb, h1', h1, cv, hr]
    ·have h' : (N0 : Int) = 43 := by omega
     rw [h'] at ix
     simp [f98, hs, p1, p1', p2, ix, sl, hsb, h1', h1, cv, hr]
   ·rcases hsg with h | h
    ·have h' : (N0 : Int) = 45 := by omega
     rw [h'] at ix
     refine ⟨-(n : Int), .nilIface, w1, f98.run rfl ?_, g1, .inl rfl⟩
     have e1 : IntKind.i64.wrap (-(n : Int)) = -(n : Int) := wrap_i64 (by omega) (by omega)
     simp [f98, hs, p1, p1', p2, ix, sl, hsb, h1', h1, cv, hr, un_neg, e1]
    ·have h' : (N0 : Int) = 43 := by omega
     rw [h'] at ix
     refine ⟨(n : Int), .nilIface, w1, f98.run rfl ?_, g1, .inl rfl⟩
     simp [f98, hs, p1, p1', p2, ix, sl, hsb, h1', h1, cv, hr]
 ·have a1 : ¬ (N0 : Int) = 45 := by omega
  have a2 : ¬ (N0 : Int) = 43 := by omega
  obtain ⟨cp, w1, cv, g1, rd⟩ := conv_bytes l w
  obtain ⟨r, hr, hr2⟩ := a98_loop l l hl' w1 w.heap.size cp rd
  have a1' : ¬ N0 = 45 := by omega
  have a2' : ¬ N0 = 43 := by omega
  rcases hr2 with rfl | ⟨n, hn, rfl⟩
  ·refine ⟨0, .iface 198 (.int .i64 2), w1, f98.run rfl ?_, g1, .inr (.inr rfl)⟩
   simp [f98, hs, p1, p1', p2, ix, a1, a2, a1', a2', cv, hr]
  ·refine ⟨(n : Int), .nilIface, w1, f98.run rfl ?_, g1, .inl rfl⟩
   simp [f98, hs, p1, p1', p2, ix, a1, a2, a1', a2', cv, hr]
theorem low_in : ∀ N : Nat, N < 256 → 0 ≤ bits .or .u8 (N : Int) 32 ∧ bits .or .u8 (N : Int) 32 ≤ 255 := by decide +kernel
theorem lower_ok (N : Nat) (h : N < 256) (w : World) : ∃ M : Nat, C 138 #[.int .u8 (N : Int)] w = some (.int .u8 (M : Int), w) ∧ M < 256 := by
 obtain ⟨h1, h2⟩ := low_in N h
 refine ⟨(bits .or .u8 (N : Int) 32).toNat, f138.run rfl ?_, by omega⟩
 rw [Int.toNat_of_nonneg h1]
 simp [f138, p_or]
theorem cv3_154 : Pq Zp (convert 3 154 (.int .i64 64)) = some (.int .u64 64) := id (by kernel_rfl)
theorem cv3_154b : Pq Zp (convert 3 154 (.int .i64 63)) = some (.int .u64 63) := id (by kernel_rfl)
theorem cv3_159 : Pq Zp (convert 3 159 (.int .i64 10)) = some (.int .u64 10) := id (by kernel_rfl)
theorem cv3_5t : Pq Zp (convert 3 5 (.int .i64 10)) = some (.int .u8 10) := id (by kernel_rfl)
theorem cv159_2 (z : Int) : Pq Zp (convert 159 2 (.int .u64 z)) = some (.int .i64 (IntKind.i64.wrap z)) := id (by kernel_rfl)
theorem shl64 (x y : Operand) : Pq Zp (do eqGuard .shl 159 x y (.int .u64 1) (.int .u64 64); binOp .shl 159 (.int .u64 1) (.int .u64 64)) = some (.int .u64 0) := by
 rw [p_shl 159 x y .u64 .u64 1 64 (by omega)]; rfl
theorem shl63 (x y : Operand) : Pq Zp (do eqGuard .shl 159 x y (.int .u64 1) (.int .u64 63); binOp .shl 159 (.int .u64 1) (.int .u64 63)) = some (.int .u64 9223372036854775808) := by
 rw [p_shl 159 x y .u64 .u64 1 63 (by omega)]; rfl
theorem u64_range (x : Int) : 0 ≤ IntKind.u64.wrap x ∧ IntKind.u64.wrap x ≤ 18446744073709551615 := by
 simp [IntKind.wrap, IntKind.bits, IntKind.signed]
 omega
noncomputable def pu5 (call : CallF) (vs_5 : List Value) (W6 : World) : Option Res :=
  let o1_6 := nth vs_5 0
  let v8_5 := nth vs_5 1
  let v9_5 := nth vs_5 2
  let v10_2 := nth vs_5 3
  let v11_1 := nth vs_5 4
  let v12_1 := nth vs_5 5
  let v13_1 := nth vs_5 6
  let v16 := nth vs_5 7
  let v99_1 := nth vs_5 8
  let v100_2 := nth vs_5 9
  let v101_1 := nth vs_5 10
  (Pq Zp (convert 3 5 o1_6)).bind fun v136 =>
  (bin .geq v16 v136).bind fun v137 =>
  (asB v137).bind fun c137 =>
  if c137 then
   (Pq Zp (Zm 198 (Vi Ki 2))).bind fun v138 =>
   some (Xr [(Vi IntKind.u64 0), v138] W6)
  else
  (bin .geq v13_1 v10_2).bind fun v141 =>
  (asB v141).bind fun c141 =>
  if c141 then
   (Pq Zp (Zm 198 (Vi Ki 1))).bind fun v143 =>
   some (Xr [v11_1, v143] W6)
  else
  (Pq Zp (convert 3 159 o1_6)).bind fun v146 =>
  (bin .mul v13_1 v146).bind fun v147 =>
  (Pq Zp (convert 5 159 v16)).bind fun v150 =>
  (bin .add v147 v150).bind fun v151 =>
  (bin .lss v151 v147).bind fun v154 =>
  (asB v154).bind fun b155 =>
  (if b155 = false then (bin .gtr v151 v11_1).bind fun v158 =>
   some (v158, W6)
   else some ((Vb true), W6)).bind fun r159 =>
  (asB r159.1).bind fun c159 =>
  if c159 then
   (Pq Zp (Zm 198 (Vi Ki 1))).bind fun v161 =>
   some (Xr [v11_1, v161] r159.2)
  else
  some (Xn [o1_6, v8_5, v9_5, v10_2, v11_1, v12_1, v151, v99_1, v100_2, v101_1] r159.2)
theorem f129.l0.parts (call : CallF) (vs_4 : List Value) (W5 : World) : f129.l0 call vs_4 W5 =
 let o1_5 := nth vs_4 0
 let v8_4 := nth vs_4 1
 let v9_4 := nth vs_4 2
 let v10_1 := nth vs_4 3
 let v11 := nth vs_4 4
 let v12 := nth vs_4 5
 let v13 := nth vs_4 6
 let v99 := nth vs_4 7
 let v100_1 := nth vs_4 8
 let v101 := nth vs_4 9
 (bin .lss v101 v100_1).bind fun v102 =>
 (asB v102).bind fun c102 =>
 if c102 then
  ((Pq Zp (Instr.indexAt 160 v99 v101)).bind fun v103 =>
  (rrun Zp (Zl 5 v103) W5).bind fun v104 =>
  ((bin .eql v104 (Vi Ku 95)).bind fun v108 =>
  (asB v108).bind fun b109 =>
  (if b109 = true then some (v8_4, W5)
   else some ((Vb false), W5)).bind fun r111 =>
  (asB r111.1).bind fun c106 =>
  if c106 then
   some (Xx 4 [o1_5, v8_4, v9_4, v10_1, v11, (Vb true), v13, v99, v100_1, v101] r111.2)
  else
  (bin .leq (Vi Ku 48) v104).bind fun v114 =>
  (asB v114).bind fun b115 =>
  (if b115 = true then (bin .leq v104 (Vi Ku 57)).bind fun v117 =>
   some (v117, r111.2)
   else some ((Vb false), r111.2)).bind fun r118 =>
  (asB r118.1).bind fun c112 =>
  if c112 then
   (bin .sub v104 (Vi Ku 48)).bind fun v120 =>
   some (Xn [o1_5, v8_4, v9_4, v10_1, v11, v12, v13, v120, v99, v100_1, v101] r118.2)
  else
  (call 138 #[v104] r118.2).bind fun r123 =>
  (bin .leq (Vi Ku 97) r123.1).bind fun v124 =>
  (asB v124).bind fun b125 =>
  (if b125 = true then (call 138 #[v104] r123.2).bind fun r127 =>
   (bin .leq r127.1 (Vi Ku 122)).bind fun v128 =>
   some (v128, r127.2)
   else some ((Vb false), r123.2)).bind fun r129 =>
  (asB r129.1).bind fun c121 =>
  if c121 then
   (call 138 #[v104] r129.2).bind fun r131 =>
   (bin .sub r131.1 (Vi Ku 97)).bind fun v132 =>
   (bin .add v132 (Vi Ku 10)).bind fun v133 =>
   some (Xn [o1_5, v8_4, v9_4, v10_1, v11, v12, v13, v133, v99, v100_1, v101] r131.2)
  else
  (Pq Zp (Zm 198 (Vi Ki 2))).bind fun v105 =>
  some (Xr [(Vi IntKind.u64 0), v105] r129.2)).bind fun (r : Res) => (r.unblock 5).cont (pu5 call)).bind fun (r : Res) => (r.unblock 4).cont fun vs_6 W7 =>
  let o1_7 := nth vs_6 0
  let v8_6 := nth vs_6 1
  let v9_6 := nth vs_6 2
  let v10_3 := nth vs_6 3
  let v11_2 := nth vs_6 4
  let v12_2 := nth vs_6 5
  let v13_2 := nth vs_6 6
  let v99_2 := nth vs_6 7
  let v100_3 := nth vs_6 8
  let v101_2 := nth vs_6 9
  (bin .add v101_2 (Vi Ki 1)).bind fun v163 =>
  some (Xn [o1_7, v8_6, v9_6, v10_3, v11_2, v12_2, v13_2, v99_2, v100_3, v163] W7)
 else
 some (Xx 3 [v9_4, v12, v13] W5) := rfl
abbrev puS (s : List UInt8) (n : Int) (rb : Nat) (len cp : Nat) (i : Int) : List Value := [.int .i64 10, .bool false, st s, .int .u64 1844674407370955162, .int .u64 18446744073709551615, .bool false, .int .u64 n, .slice (some ⟨rb, 0, none⟩) len cp, .int .i64 (len : Int), .int .i64 i]
def PuRet (w : World) (r : Res) : Prop := ∃ (z k : Int), (k = 1 ∨ k = 2) ∧ 0 ≤ z ∧ z ≤ 18446744073709551615 ∧ r = .ret [.int .u64 z, .iface 198 (.int .i64 k)] w
theorem pu5_ok (s : List UInt8) (n : Int) (hn : 0 ≤ n) (hn' : n ≤ 18446744073709551615) (rb len cp : Nat) (i : Int) (D : Nat) (hD : D < 256) (w : World) :
  ∃ q, pu5 C [.int .i64 10, .bool false, st s, .int .u64 1844674407370955162, .int .u64 18446744073709551615, .bool false, .int .u64 n, .int .u8 (D : Int), .slice (some ⟨rb, 0, none⟩) len cp, .int .i64 (len : Int), .int .i64 i] w = some q ∧ (PuRet w q ∨ ∃ z : Int, 0 ≤ z ∧ z ≤ 18446744073709551615 ∧ q = .norm (puS s z rb len cp i) w) := by
 by_cases h10 : (10 : Int) ≤ D
 ·have h10' : 10 ≤ D := by omega
  exact ⟨.ret [.int .u64 0, .iface 198 (.int .i64 2)] w, by simp [pu5, cv3_5t, h10, h10', mk198], .inl ⟨0, 2, .inr rfl, by omega, by omega, rfl⟩⟩
 ·have h10' : ¬ 10 ≤ D := by omega
  by_cases hc : 1844674407370955162 ≤ n
  ·exact ⟨.ret [.int .u64 18446744073709551615, .iface 198 (.int .i64 1)] w, by simp [pu5, cv3_5t, h10, h10', hc, mk198], .inl ⟨18446744073709551615, 1, .inl rfl, by omega, by omega, rfl⟩⟩
  ·obtain ⟨A, hA⟩ : ∃ A, IntKind.u64.wrap (n * 10) = A := ⟨_, rfl⟩
   obtain ⟨E, hE⟩ : ∃ A, IntKind.u64.wrap (D : Int) = A := ⟨_, rfl⟩
   obtain ⟨B, hB⟩ : ∃ B, IntKind.u64.wrap (A + E) = B := ⟨_, rfl⟩
   obtain ⟨b1, b2⟩ := u64_range (A + E)
   rw [hB] at b1 b2
   have hmax : ¬ (18446744073709551615 : Int) < B := by omega
   by_cases hlt2 : B < A
   ·exact ⟨.ret [.int .u64 18446744073709551615, .iface 198 (.int .i64 1)] w, by simp [pu5, cv3_5t, h10, h10', hc, mk198, cv3_159, hA, cv5_159, hE, hB, hlt2], .inl ⟨18446744073709551615, 1, .inl rfl, by omega, by omega, rfl⟩⟩
   ·exact ⟨.norm (puS s B rb len cp i) w, by simp [pu5, puS, cv3_5t, h10, h10', hc, mk198, cv3_159, hA, cv5_159, hE, hB, hlt2, hmax], .inr ⟨B, b1, b2, rfl⟩⟩
theorem pu_round (s : List UInt8) (n : Int) (hn : 0 ≤ n) (hn' : n ≤ 18446744073709551615) (b : List UInt8) (hb : b.length ≤ 100000) (rb cp : Nat) (i : Nat) (hil : i < b.length) (w2 : World) (c1 : w2.cell? ⟨rb, i, none⟩ = some (.int .u8 (b[i].toNat))) :
  ∃ q, f129.l0 C (puS s n rb b.length cp (i : Int)) w2 = some q ∧ (PuRet w2 q ∨ ∃ z : Int, 0 ≤ z ∧ z ≤ 18446744073709551615 ∧ q = .norm (puS s z rb b.length cp ((i + 1 : Nat) : Int)) w2) := by
 have hlt : (i : Int) < b.length := by omega
 have i1 := ix160 ⟨rb, 0, none⟩ b.length cp .i64 (i : Int) (by omega) hlt
 have hN256 := (b[i]).toNat_lt
 obtain ⟨N, hN⟩ : ∃ N : Nat, N = b[i].toNat := ⟨_, rfl⟩
 rw [← hN] at c1 hN256
 have e4 : IntKind.i64.wrap ((i : Int) + 1) = ((i + 1 : Nat) : Int) := (wrap_i64 (by omega) (by omega)).trans (by omega)
 obtain ⟨I, hI⟩ : ∃ I : Int, I = ((i + 1 : Nat) : Int) := ⟨_, rfl⟩
 rw [← hI] at e4 ⊢
 have fin : ∀ D : Nat, D < 256 → (f129.l0 C (puS s n rb b.length cp (i : Int)) w2 = (pu5 C [.int .i64 10, .bool false, st s, .int .u64 1844674407370955162, .int .u64 18446744073709551615, .bool false, .int .u64 n, .int .u8 (D : Int), .slice (some ⟨rb, 0, none⟩) b.length cp, .int .i64 (b.length : Int), .int .i64 (i : Int)] w2).bind fun (r : Res) => (r.unblock 4).cont fun vs_6 W7 => (bin .add (nth vs_6 9) (Vi Ki 1)).bind fun v163 => some (Xn [nth vs_6 0, nth vs_6 1, nth vs_6 2, nth vs_6 3, nth vs_6 4, nth vs_6 5, nth vs_6 6, nth vs_6 7, nth vs_6 8, v163] W7)) →
   ∃ q, f129.l0 C (puS s n rb b.length cp (i : Int)) w2 = some q ∧ (PuRet w2 q ∨ ∃ z : Int, 0 ≤ z ∧ z ≤ 18446744073709551615 ∧ q = .norm (puS s z rb b.length cp I) w2) := by
  intro D hD heq
  obtain ⟨q, hq, hq2⟩ := pu5_ok s n hn hn' rb b.length cp (i : Int) D hD w2
  rw [hq] at heq
  rcases hq2 with ⟨z, k, hk, z0, z1, rfl⟩ | ⟨z, z0, z1, rfl⟩
  ·exact ⟨_, heq, .inl ⟨z, k, hk, z0, z1, rfl⟩⟩
  ·refine ⟨.norm (puS s z rb b.length cp I) w2, ?_, .inr ⟨z, z0, z1, rfl⟩⟩
   rw [heq]
   simp [puS, e4]
 by_cases hdg : 48 ≤ N ∧ N ≤ 57
 ·have g1 : (48 : Int) ≤ N := by omega
  have g2 : (N : Int) ≤ 57 := by omega
  have g3 : ¬ (N : Int) = 95 := by omega
  have g3' : ¬ N = 95 := by omega
  have e0 : IntKind.u8.wrap ((N : Int) - 48) = ((N - 48 : Nat) : Int) := by rw [show (N : Int) - 48 = ((N - 48 : Nat) : Int) by omega, wrap_u8n]; congr 1; omega
  refine fin (N - 48) (by omega) ?_
  rw [f129.l0.parts]
  obtain ⟨D, hD⟩ : ∃ D : Int, D = ((N - 48 : Nat) : Int) := ⟨_, rfl⟩
  rw [← hD] at e0 ⊢
  simp [puS, hlt, hil, i1, addL, c1, g1, g2, g3, g3', hdg.1, hdg.2, e0]
 ·obtain ⟨M, kM, hM⟩ := lower_ok N hN256 w2
  obtain ⟨NI, hNI⟩ : ∃ NI : Int, NI = (N : Int) := ⟨_, rfl⟩
  obtain ⟨MI, hMI⟩ : ∃ NI : Int, NI = (M : Int) := ⟨_, rfl⟩
  rw [← hNI] at c1 kM
  rw [← hMI] at kM
  by_cases hlo : 97 ≤ M ∧ M ≤ 122
  ·have q1 : (97 : Int) ≤ MI := by omega
   have q2 : MI ≤ 122 := by omega
   have e0 : IntKind.u8.wrap (MI - 97) = ((M - 97 : Nat) : Int) := by rw [show MI - 97 = ((M - 97 : Nat) : Int) by omega, wrap_u8n]; congr 1; omega
   have e1 : IntKind.u8.wrap (((M - 97 : Nat) : Int) + 10) = ((M - 97 + 10 : Nat) : Int) := by rw [show ((M - 97 : Nat) : Int) + 10 = ((M - 97 + 10 : Nat) : Int) by omega, wrap_u8n]; congr 1; omega
   refine fin (M - 97 + 10) (by omega) ?_
   rw [f129.l0.parts]
   obtain ⟨D, hD⟩ : ∃ D : Int, D = ((M - 97 : Nat) : Int) := ⟨_, rfl⟩
   obtain ⟨E, hE⟩ : ∃ D : Int, D = ((M - 97 + 10 : Nat) : Int) := ⟨_, rfl⟩
   rw [← hD] at e0 e1
   rw [← hE] at e1 ⊢
   by_cases g1 : (48 : Int) ≤ NI
   ·have g2 : ¬ NI ≤ 57 := by omega
    by_cases g3 : NI = 95
    ·subst g3
     simp [puS, hlt, hil, i1, addL, c1, kM, q1, q2, e0, e1]
    ·simp [puS, hlt, hil, i1, addL, c1, g1, g2, g3, kM, q1, q2, e0, e1]
   ·have g3 : ¬ NI = 95 := by omega
    simp [puS, hlt, hil, i1, addL, c1, g1, g3, kM, q1, q2, e0, e1]
  ·refine ⟨.ret [.int .u64 0, .iface 198 (.int .i64 2)] w2, ?_, .inl ⟨0, 2, .inr rfl, by omega, by omega, rfl⟩⟩
   rw [f129.l0.parts]
   have hlo' : ((97 : Int) ≤ MI ∧ ¬ MI ≤ 122) ∨ ¬ (97 : Int) ≤ MI := by omega
   by_cases g1 : (48 : Int) ≤ NI
   ·have g2 : ¬ NI ≤ 57 := by omega
    by_cases g3 : NI = 95
    ·subst g3
     rcases hlo' with ⟨q1, q2⟩ | q1
     ·simp [puS, hlt, hil, i1, addL, c1, kM, q1, q2, mk198]
     ·simp [puS, hlt, hil, i1, addL, c1, kM, q1, mk198]
    ·rcases hlo' with ⟨q1, q2⟩ | q1
     ·simp [puS, hlt, hil, i1, addL, c1, g1, g2, g3, kM, q1, q2, mk198]
     ·simp [puS, hlt, hil, i1, addL, c1, g1, g2, g3, kM, q1, mk198]
   ·have g3 : ¬ NI = 95 := by omega
    rcases hlo' with ⟨q1, q2⟩ | q1
    ·simp [puS, hlt, hil, i1, addL, c1, g1, g3, kM, q1, q2, mk198]
    ·simp [puS, hlt, hil, i1, addL, c1, g1, g3, kM, q1, mk198]
theorem pu_loop (s b : List UInt8) (w1 : World) (rb cp : Nat) (hb : b.length ≤ 100000) (rd : ∀ j (hj : j < b.length), w1.cell? ⟨rb, j, none⟩ = some (.int .u8 (b[j].toNat))) :
  ∃ r, iter (f129.l0 C) (puS s 0 rb b.length cp 0) w1 = some r ∧ (PuRet w1 r ∨ ∃ z : Int, 0 ≤ z ∧ z ≤ 18446744073709551615 ∧ r = .exit 3 [st s, .bool false, .int .u64 z] w1) := by
 have key := iter_down (f := f129.l0 C) (fun d ws w2 => ∃ (i : Nat) (n : Int), ws = puS s n rb b.length cp (i : Int) ∧ i + d = b.length ∧ w2 = w1 ∧ 0 ≤ n ∧ n ≤ 18446744073709551615)
  (fun r => PuRet w1 r ∨ ∃ z : Int, 0 ≤ z ∧ z ≤ 18446744073709551615 ∧ r = .exit 3 [st s, .bool false, .int .u64 z] w1) (by
   rintro d ws w2 ⟨i, n, rfl, hi, rfl, hn, hn'⟩
   cases d with
   | zero =>
    obtain rfl : i = b.length := by omega
    exact .inr ⟨.exit 3 [st s, .bool false, .int .u64 n] w2, by simp [f129.l0, puS], .inr ⟨n, hn, hn', rfl⟩, by simp⟩
   | succ d =>
    obtain ⟨q, hq, hq2⟩ := pu_round s n hn hn' b hb rb cp i (by omega) w2 (rd i (by omega))
    rcases hq2 with ⟨z, k, hk, z0, z1, rfl⟩ | ⟨z, z0, z1, rfl⟩
    ·exact .inr ⟨_, hq, .inl ⟨z, k, hk, z0, z1, rfl⟩, by simp⟩
    ·exact .inl ⟨d, _, w2, by omega, hq, ⟨i + 1, z, rfl, by omega, rfl, z0, z1⟩⟩) b.length (puS s 0 rb b.length cp 0) w1 ⟨0, 0, rfl, by omega, rfl, by omega, by omega⟩
 obtain ⟨r, h1, h2⟩ := key
 exact ⟨r, h1, h2⟩
theorem parseUint_ok (s : List UInt8) (h0 : s ≠ []) (hl : s.length ≤ 100000) (w : World) : ∃ (z : Int) (e : Value) (w' : World), C 129 #[st s, .int .i64 10, .int .i64 0] w = some (.tuple #[.int .u64 z, e], w') ∧ w.grownBy w' none ∧ NumErr e ∧ 0 ≤ z ∧ z ≤ 18446744073709551615 := by
 have eq : ∀ x y, Pq Zp (do eqGuard .eql 9 x y (st s) (.string ⟨#[]⟩); binOp .eql 9 (st s) (.string ⟨#[]⟩)) = some (.bool (decide (s = []))) := fun x y => str_eql (P := Zp) (t := 9) x y s []
 have hd : decide (s = []) = false := by simp [h0]
 simp only [hd] at eq
 obtain ⟨cp, w1, cv, g1, rd⟩ := conv_bytes s w
 obtain ⟨r, hr, hr2⟩ := pu_loop s s w1 w.heap.size cp hl rd
 simp only [puS] at hr
 have eM : IntKind.u64.wrap (-1) = 18446744073709551615 := by decide
 rcases hr2 with ⟨z, k, hk, z0, z1, rfl⟩ | ⟨z, z0, z1, rfl⟩
 ·refine ⟨z, .iface 198 (.int .i64 k), w1, f129.run rfl ?_, g1, ?_, z0, z1⟩
  ·simp [f129, eq, cv3_154, shl64, eM, cv, hr]
  ·rcases hk with rfl | rfl
   ·exact .inr (.inl rfl)
   ·exact .inr (.inr rfl)
 ·refine ⟨z, .nilIface, w1, f129.run rfl ?_, g1, .inl rfl, z0, z1⟩
  simp [f129, eq, cv3_154, shl64, eM, cv, hr]
theorem neq198 (x y : Operand) (a b : Int) (w : World) : rrun Zp (do eqGuard .neq 32 x y (.iface 198 (.int .i64 a)) (.iface 198 (.int .i64 b)); binOp .neq 32 (.iface 198 (.int .i64 a)) (.iface 198 (.int .i64 b))) w = some (.bool (a != b)) := id (by kernel_rfl)
theorem eql198 (x y : Operand) (a b : Int) (w : World) : rrun Zp (do eqGuard .eql 32 x y (.iface 198 (.int .i64 a)) (.iface 198 (.int .i64 b)); binOp .eql 32 (.iface 198 (.int .i64 a)) (.iface 198 (.int .i64 b))) w = some (.bool (a == b)) := id (by kernel_rfl)
theorem parseInt_ok (s : List UInt8) (h2 : 2 ≤ s.length) (hl : s.length ≤ 100000) (w : World) : ∃ (z : Int) (e : Value) (w' : World), C 118 #[st s, .int .i64 10, .int .i64 0] w = some (.tuple #[.int .i64 z, e], w') ∧ w.grownBy w' none ∧ NumErr e := by
 have eq : ∀ x y, Pq Zp (do eqGuard .eql 9 x y (st s) (.string ⟨#[]⟩); binOp .eql 9 (st s) (.string ⟨#[]⟩)) = some (.bool (decide (s = []))) := fun x y => str_eql (P := Zp) (t := 9) x y s []
 have hne : s ≠ [] := by rintro rfl; simp at h2
 have hd : decide (s = []) = false := by simp [hne]
 simp only [hd] at eq
 have ix := str_index (P := Zp) Uz s .i64 0 (by omega)
 rw [show ((0 : Nat) : Int) = 0 from rfl] at ix
 obtain ⟨N0, hN0⟩ : ∃ N : Int, N = (s[0].toNat : Int) := ⟨_, rfl⟩
 rw [← hN0] at ix
 have sl := str_from (P := Zp) Uz s .i64 1 (by omega)
 rw [show ((1 : Nat) : Int) = 1 from rfl] at sl
 obtain ⟨b1, hb1⟩ : ∃ b, b = s.drop 1 := ⟨_, rfl⟩
 have hb1l : b1.length + 1 = s.length := by rw [hb1, Ye]; omega
 rw [← hb1] at sl
 obtain ⟨b, neg, hbne, hbl, hhead⟩ : ∃ (b : List UInt8) (neg : Bool), b ≠ [] ∧ b.length ≤ 100000 ∧ ((N0 = 43 ∧ b = b1 ∧ neg = false) ∨ (N0 = 45 ∧ b = b1 ∧ neg = true) ∨ (N0 ≠ 43 ∧ N0 ≠ 45 ∧ b = s ∧ neg = false)) := by
  have hb1ne : b1 ≠ [] := by rintro h; rw [h] at hb1l; simp at hb1l; omega
  by_cases h43 : N0 = 43
  ·exact ⟨b1, false, hb1ne, by omega, .inl ⟨h43, rfl, rfl⟩⟩
  ·by_cases h45 : N0 = 45
   ·exact ⟨b1, true, hb1ne, by omega, .inr (.inl ⟨h45, rfl, rfl⟩)⟩
   ·exact ⟨s, false, hne, hl, .inr (.inr ⟨h43, h45, rfl, rfl⟩)⟩
 obtain ⟨u, e, w1, k1, g1, he, u0, u1⟩ := parseUint_ok b hbne hbl w
 have e63 : IntKind.i64.wrap 63 = 63 := by decide
 have fin : ∀ (z : Int) (e' : Value), NumErr e' → (f118 C (st s) (.int .i64 10) (.int .i64 0) w = some (.tuple #[.int .i64 z, e'], w1)) → ∃ (z : Int) (e : Value) (w' : World), C 118 #[st s, .int .i64 10, .int .i64 0] w = some (.tuple #[.int .i64 z, e], w') ∧ w.grownBy w' none ∧ NumErr e := fun z e' h h1 => ⟨z, e', w1, f118.run rfl h1, g1, h⟩
 rcases he with rfl | rfl | rfl
 ·by_cases hc : 9223372036854775808 ≤ u
  ·by_cases hgt : 9223372036854775808 < u
   ·rcases hhead with ⟨rfl, rfl, rfl⟩ | ⟨rfl, rfl, rfl⟩ | ⟨a1, a2, rfl, rfl⟩
    ·exact fin _ (.iface 198 (.int .i64 1)) (.inr (.inl rfl)) (by simp [f118, eq, ix, sl, k1, e63, cv3_154b, shl63, hc, hgt, cv159_2, mk198, un_neg]; rfl)
    ·exact fin _ (.iface 198 (.int .i64 1)) (.inr (.inl rfl)) (by simp [f118, eq, ix, sl, k1, e63, cv3_154b, shl63, hc, hgt, cv159_2, mk198, un_neg]; rfl)
    ·exact fin _ (.iface 198 (.int .i64 1)) (.inr (.inl rfl)) (by simp [f118, eq, ix, a1, a2, k1, e63, cv3_154b, shl63, hc, hgt, cv159_2, mk198, un_neg]; rfl)
   ·rcases hhead with ⟨rfl, rfl, rfl⟩ | ⟨rfl, rfl, rfl⟩ | ⟨a1, a2, rfl, rfl⟩
    ·exact fin _ (.iface 198 (.int .i64 1)) (.inr (.inl rfl)) (by simp [f118, eq, ix, sl, k1, e63, cv3_154b, shl63, hc, hgt, cv159_2, mk198, un_neg]; rfl)
    ·exact fin _ .nilIface (.inl rfl) (by simp [f118, eq, ix, sl, k1, e63, cv3_154b, shl63, hc, hgt, cv159_2, mk198, un_neg]; rfl)
    ·exact fin _ (.iface 198 (.int .i64 1)) (.inr (.inl rfl)) (by simp [f118, eq, ix, a1, a2, k1, e63, cv3_154b, shl63, hc, hgt, cv159_2, mk198, un_neg]; rfl)
  ·have hgt : ¬ 9223372036854775808 < u := by omega
   rcases hhead with ⟨rfl, rfl, rfl⟩ | ⟨rfl, rfl, rfl⟩ | ⟨a1, a2, rfl, rfl⟩
   ·exact fin _ .nilIface (.inl rfl) (by simp [f118, eq, ix, sl, k1, e63, cv3_154b, shl63, hc, hgt, cv159_2, mk198, un_neg]; rfl)
   ·exact fin _ .nilIface (.inl rfl) (by simp [f118, eq, ix, sl, k1, e63, cv3_154b, shl63, hc, hgt, cv159_2, mk198, un_neg]; rfl)
   ·exact fin _ .nilIface (.inl rfl) (by simp [f118, eq, ix, a1, a2, k1, e63, cv3_154b, shl63, hc, hgt, cv159_2, mk198, un_neg]; rfl)
 ·by_cases hc : 9223372036854775808 ≤ u
  ·by_cases hgt : 9223372036854775808 < u
   ·rcases hhead with ⟨rfl, rfl, rfl⟩ | ⟨rfl, rfl, rfl⟩ | ⟨a1, a2, rfl, rfl⟩
    ·exact fin _ (.iface 198 (.int .i64 1)) (.inr (.inl rfl)) (by simp [f118, eq, ix, sl, k1, e63, cv3_154b, shl63, hc, hgt, cv159_2, mk198, neq198, un_neg]; rfl)
    ·exact fin _ (.iface 198 (.int .i64 1)) (.inr (.inl rfl)) (by simp [f118, eq, ix, sl, k1, e63, cv3_154b, shl63, hc, hgt, cv159_2, mk198, neq198, un_neg]; rfl)
    ·exact fin _ (.iface 198 (.int .i64 1)) (.inr (.inl rfl)) (by simp [f118, eq, ix, a1, a2, k1, e63, cv3_154b, shl63, hc, hgt, cv159_2, mk198, neq198, un_neg]; rfl)
   ·rcases hhead with ⟨rfl, rfl, rfl⟩ | ⟨rfl, rfl, rfl⟩ | ⟨a1, a2, rfl, rfl⟩
    ·exact fin _ (.iface 198 (.int .i64 1)) (.inr (.inl rfl)) (by simp [f118, eq, ix, sl, k1, e63, cv3_154b, shl63, hc, hgt, cv159_2, mk198, neq198, un_neg]; rfl)
    ·exact fin _ .nilIface (.inl rfl) (by simp [f118, eq, ix, sl, k1, e63, cv3_154b, shl63, hc, hgt, cv159_2, mk198, neq198, un_neg]; rfl)
    ·exact fin _ (.iface 198 (.int .i64 1)) (.inr (.inl rfl)) (by simp [f118, eq, ix, a1, a2, k1, e63, cv3_154b, shl63, hc, hgt, cv159_2, mk198, neq198, un_neg]; rfl)
  ·have hgt : ¬ 9223372036854775808 < u := by omega
   rcases hhead with ⟨rfl, rfl, rfl⟩ | ⟨rfl, rfl, rfl⟩ | ⟨a1, a2, rfl, rfl⟩
   ·exact fin _ .nilIface (.inl rfl) (by simp [f118, eq, ix, sl, k1, e63, cv3_154b, shl63, hc, hgt, cv159_2, mk198, neq198, un_neg]; rfl)
   ·exact fin _ .nilIface (.inl rfl) (by simp [f118, eq, ix, sl, k1, e63, cv3_154b, shl63, hc, hgt, cv159_2, mk198, neq198, un_neg]; rfl)
   ·exact fin _ .nilIface (.inl rfl) (by simp [f118, eq, ix, a1, a2, k1, e63, cv3_154b, shl63, hc, hgt, cv159_2, mk198, neq198, un_neg]; rfl)
 ·rcases hhead with ⟨rfl, rfl, rfl⟩ | ⟨rfl, rfl, rfl⟩ | ⟨a1, a2, rfl, rfl⟩
  ·exact fin 0 (.iface 198 (.int .i64 2)) (.inr (.inr rfl)) (by simp [f118, eq, ix, sl, k1, mk198, neq198])
  ·exact fin 0 (.iface 198 (.int .i64 2)) (.inr (.inr rfl)) (by simp [f118, eq, ix, sl, k1, mk198, neq198])
  ·exact fin 0 (.iface 198 (.int .i64 2)) (.inr (.inr rfl)) (by simp [f118, eq, ix, a1, a2, k1, mk198, neq198])
theorem atoi98_any (l : List UInt8) (hl' : l.length ≤ 100000) (w : World) : ∃ z e w', C 98 #[st l] w = some (.tuple #[.int .i64 z, e], w') ∧ w.grownBy w' none ∧ NumErr e := by
 by_cases h0 : l.length = 0
 ·have : l = [] := List.length_eq_zero_iff.mp h0
  subst this
  have hs := fun t => str_len (P := Zp) Uz t []
  have eq : ∀ x y, Pq Zp (do eqGuard .eql 9 x y (st []) (.string ⟨#[]⟩); binOp .eql 9 (st []) (.string ⟨#[]⟩)) = some (.bool true) := fun x y => str_eql (P := Zp) (t := 9) x y [] []
  have k : C 118 #[st [], .int .i64 10, .int .i64 0] w = some (.tuple #[.int .i64 0, .iface 198 (.int .i64 2)], w) := f118.run rfl (by simp [f118, eq, mk198])
  exact ⟨0, .iface 198 (.int .i64 2), w, f98.run rfl (by simp [f98, hs, k]), grown_refl _ _, .inr (.inr rfl)⟩
 have hl : 1 ≤ l.length := by omega
 by_cases h : l.length ≤ 18
 ·exact atoi98_short l hl h w
 ·obtain ⟨z, e, w', k, g, he⟩ := parseInt_ok l (by omega) hl' w
  have hs := fun t => str_len (P := Zp) Uz t l
  have p1 : (0 : Int) < l.length := by omega
  have p1' : 0 < l.length := by omega
  have p2 : ¬ (l.length : Int) < 19 := by omega
  have p2' : ¬ l.length < 19 := by omega
  exact ⟨z, e, w', f98.run rfl (by simp [f98, hs, p1, p1', p2, p2', k]), g, he⟩
theorem alloc211 (a b c : Value) (w : World) : erun Zp (Zo 211 (.agg #[a, b, c])) w = some (.pointer (some ⟨w.heap.size, 0, none⟩), w.alloc (.cells (Value.agg #[a, b, c]).cells 211)) := by
 rw [box_any]
theorem syntax_ok {w : World} (E : ErrVars w) (fn : ByteArray) (l : List UInt8) (hl : l.length ≤ 100000) : ∃ v w', C 119 #[.string fn, st l] w = some (v, w') ∧ w.grownBy w' none := by
 obtain ⟨w1, h1, g1⟩ := clone_ok l hl w.drew
 have G1 := grown_step (drew_grown w) g1
 obtain ⟨⟨t, v, c5, _⟩, _⟩ := E.grown G1
 obtain ⟨⟨t0, v0, c50, hlt⟩, _⟩ := E
 have c5w : w1.cell? ⟨5, 0, none⟩ = w.cell? ⟨5, 0, none⟩ := World.cell?_of_block (G1.block 5 hlt (by simp))
 rw [c5w] at c5
 have c50 := c5
 rw [← c5w] at c5
 refine ⟨.pointer (some ⟨w1.heap.size, 0, none⟩), _, f119.run rfl ?_, grown_step G1 (World.grownBy_alloc w1 (.cells (Value.agg #[.string fn, st l, .iface t v]).cells 211) none)⟩
 simp [f119, h1, c5, c50, build211, alloc211, chkThen]
theorem range_ok {w : World} (E : ErrVars w) (fn : ByteArray) (l : List UInt8) (hl : l.length ≤ 100000) : ∃ v w', C 120 #[.string fn, st l] w = some (v, w') ∧ w.grownBy w' none := by
 obtain ⟨w1, h1, g1⟩ := clone_ok l hl w.drew
 have G1 := grown_step (drew_grown w) g1
 obtain ⟨_, ⟨t, v, c5, _⟩⟩ := E.grown G1
 obtain ⟨_, ⟨t0, v0, c50, hlt⟩⟩ := E
 have c5w : w1.cell? ⟨6, 0, none⟩ = w.cell? ⟨6, 0, none⟩ := World.cell?_of_block (G1.block 6 hlt (by simp))
 rw [c5w] at c5
 have c50 := c5
 rw [← c5w] at c5
 refine ⟨.pointer (some ⟨w1.heap.size, 0, none⟩), _, f120.run rfl ?_, grown_step G1 (World.grownBy_alloc w1 (.cells (Value.agg #[.string fn, st l, .iface t v]).cells 211) none)⟩
 simp [f120, h1, c5, c50, build211, alloc211, chkThen]
theorem toError_ok {w : World} (E : ErrVars w) (fn : ByteArray) (a b : Value) (l : List UInt8) (hl : l.length ≤ 100000) (k : Int) (hk : k = 1 ∨ k = 2) : ∃ v w', C 99 #[.string fn, st l, a, b, .iface 198 (.int .i64 k)] w = some (.iface 201 v, w') ∧ w.grownBy w' none := by
 rcases hk with rfl | rfl
 ·obtain ⟨v, w', h, g⟩ := range_ok E fn l hl
  exact ⟨v, w', f99.run rfl (by simp [f99, mk198, eql198, h, mk201]), g⟩
 ·obtain ⟨v, w', h, g⟩ := syntax_ok E fn l hl
  exact ⟨v, w', f99.run rfl (by simp [f99, mk198, eql198, h, mk201]), g⟩
theorem atoi_any {w : World} (E : ErrVars w) (l : List UInt8) (hl' : l.length ≤ 100000) : ∃ z e w', C 66 #[st l] w = some (.tuple #[.int .i64 z, e], w') ∧ w.grownBy w' none ∧ (e = .nilIface ∨ ∃ v, e = .iface 201 v) := by
 obtain ⟨z, e, w1, h, g, he⟩ := atoi98_any l hl' w
 have E1 := E.grown g
 rcases he with rfl | rfl | rfl
 ·exact ⟨z, .nilIface, w1, f66.run rfl (by simp [f66, h]), g, .inl rfl⟩
 ·obtain ⟨v, w2, h2, g2⟩ := toError_ok E1 ⟨#[65, 116, 111, 105]⟩ (.int .i64 0) (.int .i64 0) l hl' 1 (.inl rfl)
  exact ⟨z, .iface 201 v, w2, f66.run rfl (by simp [f66, h, h2]), grown_step g g2, .inr ⟨v, rfl⟩⟩
 ·obtain ⟨v, w2, h2, g2⟩ := toError_ok E1 ⟨#[65, 116, 111, 105]⟩ (.int .i64 0) (.int .i64 0) l hl' 2 (.inr rfl)
  exact ⟨z, .iface 201 v, w2, f66.run rfl (by simp [f66, h, h2]), grown_step g g2, .inr ⟨v, rfl⟩⟩
def fadeNum (l : List UInt8) : Nat := ((List.range 101).find? fun k => decide (1 ≤ k) && decide (l = dec k)).getD 0
theorem fadeNum_dec {k : Nat} (h1 : 1 ≤ k) (h2 : k ≤ 100) : fadeNum (dec k) = k := by
 have e : ∀ k, k < 101 → 1 ≤ k → fadeNum (dec k) = k := by decide +kernel
 exact e k (by omega) h1
theorem fadeNum_some {l : List UInt8} (h : fadeNum l ≠ 0) : 1 ≤ fadeNum l ∧ fadeNum l ≤ 100 ∧ l = dec (fadeNum l) := by
 unfold fadeNum at h ⊢
 cases hf : (List.range 101).find? fun k => decide (1 ≤ k) && decide (l = dec k) with
 | none => rw [hf] at h; simp at h
 | some k =>
  have h1 := List.find?_some hf
  have h2 := List.mem_range.mp (List.mem_of_find?_eq_some hf)
  simp only [Bool.and_eq_true, decide_eq_true_eq] at h1
  simp only [Option.getD_some]
  exact ⟨h1.1, by omega, h1.2⟩
theorem isFade_any {w : World} (hG : GlobOk gl2 w) (E : ErrVars w) (l : List UInt8) (hl' : l.length ≤ 100000) : ∃ w', C 65 #[st l] w = some (.bool (decide (fadeNum l ≠ 0)), w') ∧ w.grownBy w' none := by
 by_cases h : fadeNum l = 0
 ·obtain ⟨z, e, w1, k1, g1, he⟩ := atoi_any E l hl'
  have hd : decide (fadeNum l ≠ 0) = false := by simp [h]
  rw [hd]
  rcases he with rfl | ⟨v, rfl⟩
  ·by_cases z1 : 1 ≤ z
   ·by_cases z2 : z ≤ 100
    ·obtain ⟨k, rfl⟩ : ∃ k : Nat, z = (k : Int) := ⟨z.toNat, by omega⟩
     obtain ⟨w2, k2, g2⟩ := itoa_ok (globOk_grown hG g1) (k := k) (by omega)
     have hne : dec k ≠ l := by
      rintro rfl
      rw [fadeNum_dec (by omega) (by omega)] at h
      omega
     have eq := fun x y => str_eql (P := Zp) (t := 9) x y (dec k) l
     have hd2 : decide (dec k = l) = false := by simp [hne]
     simp only [hd2] at eq
     refine ⟨w2, f65.run rfl ?_, grown_step g1 g2⟩
     obtain ⟨K, hK⟩ : ∃ K : Int, K = (k : Int) := ⟨_, rfl⟩
     rw [← hK] at k1 k2 z1 z2
     simp [f65, k1, z1, z2, k2, eq]
    ·exact ⟨w1, f65.run rfl (by simp [f65, k1, z1, z2]), g1⟩
   ·exact ⟨w1, f65.run rfl (by simp [f65, k1, z1]), g1⟩
  ·exact ⟨w1, f65.run rfl (by simp [f65, k1]), g1⟩
 ·obtain ⟨h1, h2, h3⟩ := fadeNum_some h
  obtain ⟨w1, k1, g1⟩ := isFade_ok hG h1 h2
  rw [← h3] at k1
  have hd : decide (fadeNum l ≠ 0) = true := by simp [h]
  rw [hd]
  exact ⟨w1, k1, g1⟩
def goodB (mk i : Nat) (c : UInt8) : Bool := if i = 8 then decide (c.toNat = mk) else if i % 3 = 2 then decide (c.toNat = 58) else decide (48 ≤ c.toNat) && decide (c.toNat ≤ 57)
theorem goodB_iff (mk i : Nat) (c : UInt8) : goodB mk i c = true ↔ goodAt mk i c := by
 unfold goodB goodAt
 split
 ·simp
 ·split
  ·simp
  ·simp
def formB (mk : Nat) (s : List UInt8) : Bool := decide (s.length = 11) && (List.range 11).all fun i => goodB mk i (s.getD i 0)
theorem formB_iff (mk : Nat) (s : List UInt8) : formB mk s = true ↔ s.length = 11 ∧ ∀ i c, s[i]? = some c → goodB mk i c = true := by
 unfold formB
 simp only [Bool.and_eq_true, decide_eq_true_eq, List.all_eq_true, List.mem_range]
 constructor
 ·rintro ⟨h1, h2⟩
  refine ⟨h1, fun i c hi => ?_⟩
  have hl := (List.getElem?_eq_some_iff.mp hi).1
  have := h2 i (by omega)
  rwa [List.getD_eq_getElem?_getD, hi, Option.getD_some] at this
 ·rintro ⟨h1, h2⟩
  refine ⟨h1, fun i hi => ?_⟩
  have hl : i < s.length := by omega
  rw [List.getD_eq_getElem?_getD, Yg hl, Option.getD_some]
  exact h2 i _ (Yg hl)
theorem dec_any (c : UInt8) (r : List UInt8) : ∃ R sz, decodeL (c :: r) = (R, sz) ∧ ((c.toNat < 128 ∧ R = c.toNat ∧ sz = 1) ∨ (128 ≤ c.toNat ∧ 128 ≤ R)) := by
 by_cases hc : c.toNat < 128
 ·exact ⟨c.toNat, 1, dec_asc r hc, .inl ⟨hc, rfl, rfl⟩⟩
 ·have hc' : 128 ≤ c.toNat := by omega
  cases ho : signOk (lead c) r with
  | true =>
   obtain ⟨e1, _, e3, _⟩ := dec_ok hc' ho
   exact ⟨_, _, e1, .inr ⟨hc', e3⟩⟩
  | false => exact ⟨65533, 1, dec_bad hc' ho, .inr ⟨hc', by omega⟩⟩
theorem form_any {w : World} (c n d r : Int) (s : List UInt8) (hl : s.length ≤ 100000) : ∃ (a : Int) (w' : World), C 132 #[.agg #[.int .i64 c, .int .i64 n, .int .i64 d, .int .i64 r], st s] w = some (.int .i64 a, w') ∧ w.grownBy w' none ∧ (formB (markOf r) s = true → a = -1) ∧ (formB (markOf r) s = false → 0 ≤ a ∧ a ≤ 100000) := by
 cases hf : formB (markOf r) s with
 | true =>
  obtain ⟨h1, h2⟩ := (formB_iff _ _).mp hf
  obtain ⟨w', h, g⟩ := form_ok (w := w) c n d r s h1 fun i c hi => (goodB_iff _ _ _).mp (h2 i c hi)
  exact ⟨-1, w', h, g, fun _ => rfl, fun h => by cases h⟩
 | false =>
  have hnot : ¬ (s.length = 11 ∧ ∀ i c, s[i]? = some c → goodB (markOf r) i c = true) := fun h => by
   have := (formB_iff _ _).mpr h
   rw [hf] at this
   cases this
  have s0 : Sat w emp w := ⟨Grew.refl _ _, ⟨fun _ => False, rfl⟩⟩
  have y0 := s0.newBlk 145 (rc (c, n, d, r))
  obtain ⟨w0, hw0⟩ : ∃ w0, w0 = w.alloc (.cells (rc (c, n, d, r)).toArray 145) := ⟨_, rfl⟩
  have bx : erun Zp (Zo 145 (.agg #[.int .i64 c, .int .i64 n, .int .i64 d, .int .i64 r])) w = some (.pointer (some ⟨w.heap.size, 0, none⟩), w0) := by rw [hw0]; rfl
  rw [← hw0] at y0
  have s1 := y0.newIter ⟨s.toArray⟩
  have rg := str_range (P := Zp) Uz ⟨s.toArray⟩ w0
  have hsz : (⟨s.toArray⟩ : ByteArray).size = s.length := st_size s
  have mb : markOf r = 58 ∨ markOf r = 59 := by unfold markOf; split <;> simp
  have key := iter_down (f := f132.l0 C) (fun k ws w1 => ∃ i : Nat, ws = [st s, .pointer (some ⟨w.heap.size, 0, none⟩), .int .i64 (i : Int), .pointer (some ⟨w0.heap.size, 0, none⟩)] ∧ i + k = 12 ∧ i ≤ s.length ∧ i ≤ 11 ∧ (∀ j c, j < i → s[j]? = some c → goodB (markOf r) j c = true) ∧ Sat w (iterA w0.heap.size ⟨s.toArray⟩ i * (blkA w.heap.size 145 (rc (c, n, d, r)) * emp)) w1)
   (fun q => ∃ w', w.grownBy w' none ∧ ((∃ i : Nat, q = .exit 0 [st s, .int .i64 (i : Int)] w' ∧ i = s.length ∧ i < 11) ∨ ∃ a : Int, q = .ret [.int .i64 a] w' ∧ 0 ≤ a ∧ a ≤ 100000)) (by
    rintro k ws w1 ⟨i, rfl, hik, his, hi11, hpre, x⟩
    by_cases hend : i = s.length
    ·have h1 := x.iterEnd 0 (P := Zp) (by rw [hsz]; omega)
     have hlt : i < 11 := by
      by_cases h : i < 11
      ·exact h
      ·exfalso
       refine hnot ⟨by omega, fun j c hj => hpre j c ?_ hj⟩
       have := (List.getElem?_eq_some_iff.mp hj).1
       omega
     exact .inr ⟨.exit 0 [st s, .int .i64 (i : Int)] w1, by simp [f132.l0, h1], ⟨w1, grown_of x, .inl ⟨i, rfl, hend, hlt⟩⟩, by simp⟩
    ·have hil : i < s.length := by omega
     obtain ⟨k, rfl⟩ : ∃ k', k = k' + 1 := ⟨k - 1, by omega⟩
     obtain ⟨ch, hch⟩ : ∃ ch, s[i]? = some ch := ⟨s[i], Yg hil⟩
     have hct : s.drop i = ch :: s.drop (i + 1) := by
      rw [List.drop_eq_getElem_cons hil]
      rw [Yg hil] at hch
      rw [Option.some.inj hch]
     obtain ⟨R, sz, hdl, hR⟩ := dec_any ch (s.drop (i + 1))
     have hdec : Utf8.decode ⟨s.toArray⟩ i = (R, sz) := by
      rw [← decodeL_drop]
      show decodeL (s.drop i) = _
      rw [hct, hdl]
     obtain ⟨w2, h2, x2⟩ := x.iterNext 0 (P := Zp) (by rw [hsz]; exact hil)
     rw [hdec] at h2 x2
     simp only [] at h2
     have x2 : Sat w (iterA w0.heap.size ⟨s.toArray⟩ (i + sz) * (blkA w.heap.size 145 (rc (c, n, d, r)) * emp)) w2 := x2
     have e1 : IntKind.i64.wrap ((i : Int) + 1) = ((i + 1 : Nat) : Int) := (wrap_i64 (by omega) (by omega)).trans (by omega)
     obtain ⟨RI, hRI⟩ : ∃ RI : Int, RI = (R : Int) := ⟨_, rfl⟩
     rw [← hRI] at h2
     by_cases h11 : i = 11
     ·subst h11
      exact .inr ⟨.ret [.int .i64 11] w2, by simp [f132.l0, h2], ⟨w2, grown_of x2, .inr ⟨11, rfl, by omega, by omega⟩⟩, by simp⟩
     have n11 : ¬ (i : Int) = 11 := by omega
     by_cases hg : goodB (markOf r) i ch = true
     ·have hgood := (goodB_iff _ _ _).mp hg
      have hlow : ch.toNat < 128 ∧ R = ch.toNat ∧ sz = 1 := by
       rcases hR with h | ⟨h, _⟩
       ·exact h
       ·exfalso
        unfold goodAt at hgood
        split at hgood
        ·omega
        ·split at hgood <;> omega
      obtain ⟨hl1, hl2, rfl⟩ := hlow
      have hpre' : ∀ j c, j < i + 1 → s[j]? = some c → goodB (markOf r) j c = true := fun j c hj hjc => by
       by_cases hji : j = i
       ·subst hji
        rw [hch] at hjc
        cases hjc
        exact hg
       ·exact hpre j c (by omega) hjc
      by_cases h8 : i = 8
      ·subst h8
       rw [goodAt, if_pos rfl] at hgood
       have xb := x2.eq (by ac_rfl : _ = blkA w.heap.size 145 (rc (c, n, d, r)) * (iterA w0.heap.size ⟨s.toArray⟩ (8 + 1) * emp))
       have lb := ld145b xb.blk
       obtain ⟨w3, h3, g3⟩ := mark_ok c n d r w2
       have cv := cv5_21 (markOf r : Int)
       have e2 : IntKind.i32.wrap (markOf r : Int) = (markOf r : Int) := by rcases mb with h | h <;> rw [h] <;> decide
       rw [e2, show (markOf r : Int) = RI by omega] at cv
       rw [show (markOf r : Int) = RI by omega] at h3
       refine .inl ⟨k, _, w3, by omega, ?_, ⟨9, rfl, by omega, by omega, by omega, hpre', x2.grown g3⟩⟩
       simp only [rv] at lb
       simp [f132.l0, h2, lb, h3, cv]
       decide
      ·rw [goodAt, if_neg h8] at hgood
       have n8 : ¬ (i : Int) = 8 := by omega
       have q := remN i 3 (by omega)
       rw [show ((3 : Nat) : Int) = 3 from rfl] at q
       by_cases h3 : i % 3 = 2
       ·rw [if_pos h3] at hgood
        have hN' : RI = 58 := by omega
        rw [hN'] at h2
        rw [h3] at q
        refine .inl ⟨k, _, w2, by omega, ?_, ⟨i + 1, rfl, by omega, by omega, by omega, hpre', x2⟩⟩
        simp [f132.l0, h2, n11, n8, q, e1]
       ·rw [if_neg h3] at hgood
        have a1 : ¬ RI < 48 := by omega
        have a2 : ¬ (57 : Int) < RI := by omega
        obtain ⟨Q, hQ⟩ : ∃ Q : Int, Q = ((i % 3 : Nat) : Int) := ⟨_, rfl⟩
        have hQ2 : ¬ Q = 2 := by omega
        rw [← hQ] at q
        refine .inl ⟨k, _, w2, by omega, ?_, ⟨i + 1, rfl, by omega, by omega, by omega, hpre', x2⟩⟩
        simp [f132.l0, h2, n11, n8, q, hQ2, a1, a2, e1]
     ·have hbad : ¬ goodAt (markOf r) i ch := fun h => hg ((goodB_iff _ _ _).mpr h)
      by_cases h8 : i = 8
      ·subst h8
       rw [goodAt, if_pos rfl] at hbad
       have xb := x2.eq (by ac_rfl : _ = blkA w.heap.size 145 (rc (c, n, d, r)) * (iterA w0.heap.size ⟨s.toArray⟩ (8 + sz) * emp))
       have lb := ld145b xb.blk
       obtain ⟨w3, h3, g3⟩ := mark_ok c n d r w2
       have cv := cv5_21 (markOf r : Int)
       have e2 : IntKind.i32.wrap (markOf r : Int) = (markOf r : Int) := by rcases mb with h | h <;> rw [h] <;> decide
       rw [e2] at cv
       have hne : ¬ RI = (markOf r : Int) := by
        rcases hR with ⟨h1, h2, _⟩ | ⟨h1, h2⟩
        ·omega
        ·rcases mb with h | h <;> omega
       refine .inr ⟨.ret [.int .i64 8] w3, ?_, ⟨w3, grown_step (grown_of x2) g3, .inr ⟨8, rfl, by omega, by omega⟩⟩, by simp⟩
       obtain ⟨K, hK⟩ : ∃ K : Int, K = (markOf r : Int) := ⟨_, rfl⟩
       rw [← hK] at cv h3 hne
       simp only [rv] at lb
       simp [f132.l0, h2, lb, h3, cv, hne]
      ·rw [goodAt, if_neg h8] at hbad
       have n8 : ¬ (i : Int) = 8 := by omega
       have q := remN i 3 (by omega)
       rw [show ((3 : Nat) : Int) = 3 from rfl] at q
       refine .inr ⟨.ret [.int .i64 (i : Int)] w2, ?_, ⟨w2, grown_of x2, .inr ⟨(i : Int), rfl, by omega, by omega⟩⟩, by simp⟩
       by_cases h3 : i % 3 = 2
       ·rw [if_pos h3] at hbad
        have hN' : ¬ RI = 58 := by
         rcases hR with ⟨h1, h2, _⟩ | ⟨h1, h2⟩ <;> omega
        rw [h3] at q
        simp [f132.l0, h2, n11, n8, q, hN']
       ·rw [if_neg h3] at hbad
        obtain ⟨Q, hQ⟩ : ∃ Q : Int, Q = ((i % 3 : Nat) : Int) := ⟨_, rfl⟩
        have hQ2 : ¬ Q = 2 := by omega
        rw [← hQ] at q
        by_cases a1 : RI < 48
        ·simp [f132.l0, h2, n11, n8, q, hQ2, a1]
        ·have a2 : (57 : Int) < RI := by
          rcases hR with ⟨h1, h2, _⟩ | ⟨h1, h2⟩ <;> omega
         simp [f132.l0, h2, n11, n8, q, hQ2, a1, a2]) 12 _ _ ⟨0, rfl, by omega, by omega, by omega, fun j c hj => by omega, s1⟩
  obtain ⟨q, h1, w', g, h2⟩ := key
  have hsl := fun ty => str_len (P := Zp) Uz ty s
  rcases h2 with ⟨i, rfl, hi, hlt⟩ | ⟨a, rfl, a0, a1⟩
  ·refine ⟨(s.length : Int), w', f132.run rfl ?_, g, fun h => (by cases h), fun _ => by omega⟩
   have hlt' : (i : Int) < 11 := by omega
   simp at h1
   simp [f132, bx, rg, h1, hlt, hlt', hsl]
  ·refine ⟨a, w', f132.run rfl ?_, g, fun h => (by cases h), fun _ => ⟨a0, a1⟩⟩
   simp at h1
   simp [f132, bx, rg, h1]
def dgt (s : List UInt8) (i : Nat) : Nat := (s.getD i 0).toNat - 48
def pt (s : List UInt8) (i : Nat) : Nat := 10 * dgt s i + dgt s (i + 1)
def partBad (x : Int × Int × Int × Int) (h mi se fr : Nat) : Bool := decide (23 < h) || decide (59 < mi) || decide (59 < se) || decide (x.1 ≤ (fr : Int)) || (decide (mi % 10 ≠ 0) && decide (se = 0) && decide ((fr : Int) < x.2.2.2))
def numOf (x : Int × Int × Int × Int) (s : List UInt8) : Option Int := if formB (markOf x.2.2.2) s = true ∧ partBad x (pt s 0) (pt s 3) (pt s 6) (pt s 9) = false then some (numP x.1 x.2.2.2 (pt s 0) (pt s 3) (pt s 6) (pt s 9)) else none
theorem dig_at {mk : Nat} {s : List UInt8} (h : formB mk s = true) {i : Nat} (hi : i + 1 < 11) (h8 : i ≠ 8) (h7 : i ≠ 7) (h3 : i % 3 = 0) : s[i]? = some (UInt8.ofNat (48 + pt s i / 10)) ∧ s[i + 1]? = some (UInt8.ofNat (48 + pt s i % 10)) ∧ pt s i < 100 := by
 obtain ⟨hl, hg⟩ := (formB_iff _ _).mp h
 have a0 : s[i]? = some s[i] := Yg (by omega)
 have a1 : s[i + 1]? = some s[i + 1] := Yg (by omega)
 have g0 := (goodB_iff _ _ _).mp (hg i _ a0)
 have g1 := (goodB_iff _ _ _).mp (hg (i + 1) _ a1)
 rw [goodAt, if_neg h8, if_neg (by omega)] at g0
 rw [goodAt, if_neg (by omega), if_neg (by omega)] at g1
 have e0 : dgt s i = s[i].toNat - 48 := by unfold dgt; rw [List.getD_eq_getElem?_getD, a0, Option.getD_some]
 have e1 : dgt s (i + 1) = s[i + 1].toNat - 48 := by unfold dgt; rw [List.getD_eq_getElem?_getD, a1, Option.getD_some]
 have p : pt s i = 10 * (s[i].toNat - 48) + (s[i + 1].toNat - 48) := by unfold pt; rw [e0, e1]
 refine ⟨?_, ?_, by omega⟩
 ·rw [a0, show 48 + pt s i / 10 = s[i].toNat by omega]
  simp
 ·rw [a1, show 48 + pt s i % 10 = s[i + 1].toNat by omega]
  simp
theorem form_nm {r : Int} {s : List UInt8} (h : formB (markOf r) s = true) : s = nm (pt s 0) (pt s 3) (pt s 6) (pt s 9) (markOf r) := by
 obtain ⟨hl, hg⟩ := (formB_iff _ _).mp h
 obtain ⟨p0, p1, _⟩ := dig_at h (i := 0) (by omega) (by omega) (by omega) (by omega)
 obtain ⟨p3, p4, _⟩ := dig_at h (i := 3) (by omega) (by omega) (by omega) (by omega)
 obtain ⟨p6, p7, _⟩ := dig_at h (i := 6) (by omega) (by omega) (by omega) (by omega)
 obtain ⟨p9, pA, _⟩ := dig_at h (i := 9) (by omega) (by omega) (by omega) (by omega)
 have ofn : ∀ (c : UInt8) (n : Nat), c.toNat = n → c = UInt8.ofNat n := fun c n h => by rw [← h]; simp
 have c2 : s[2]? = some 58 := by
  have a : s[2]? = some s[2] := Yg (by omega)
  have g := (goodB_iff _ _ _).mp (hg 2 _ a)
  rw [goodAt, if_neg (by decide), if_pos (by decide)] at g
  rw [a, ofn _ _ g]
  rfl
 have c5 : s[5]? = some 58 := by
  have a : s[5]? = some s[5] := Yg (by omega)
  have g := (goodB_iff _ _ _).mp (hg 5 _ a)
  rw [goodAt, if_neg (by decide), if_pos (by decide)] at g
  rw [a, ofn _ _ g]
  rfl
 have c8 : s[8]? = some (UInt8.ofNat (markOf r)) := by
  have a : s[8]? = some s[8] := Yg (by omega)
  have g := (goodB_iff _ _ _).mp (hg 8 _ a)
  rw [goodAt, if_pos rfl] at g
  rw [a, ofn _ _ g]
 apply List.ext_getElem?
 intro i
 by_cases hi : i < 11
 ·rcases (show i = 0 ∨ i = 1 ∨ i = 2 ∨ i = 3 ∨ i = 4 ∨ i = 5 ∨ i = 6 ∨ i = 7 ∨ i = 8 ∨ i = 9 ∨ i = 10 by omega) with rfl | rfl | rfl | rfl | rfl | rfl | rfl | rfl | rfl | rfl | rfl
  ·rw [p0]; rfl
  ·rw [p1]; rfl
  ·rw [c2]; rfl
  ·rw [p3]; rfl
  ·rw [p4]; rfl
  ·rw [c5]; rfl
  ·rw [p6]; rfl
  ·rw [p7]; rfl
  ·rw [c8]; rfl
  ·rw [p9]; rfl
  ·rw [pA]; rfl
 ·rw [List.getElem?_eq_none (by omega), List.getElem?_eq_none (by simp [nm]; omega)]
theorem read_any {x : Int × Int × Int × Int} (hx : x ∈ rates) (h0 : x.1 ≠ 0) (s : List UInt8) (hsl : s.length ≤ 100000) (w : World) :
  ∃ (n a e : Int) (w' : World), C 123 #[rv x, st s] w = some (.tuple #[.int .i64 n, .int .i64 a, .int .i64 e], w') ∧ w.grownBy w' none ∧ ((numOf x s = some n ∧ e = 0) ∨ (numOf x s = none ∧ e ≠ 0)) := by
 obtain ⟨r1, r2, r3, r4⟩ := rate_in hx h0
 by_cases hgood : formB (markOf x.2.2.2) s = true ∧ partBad x (pt s 0) (pt s 3) (pt s 6) (pt s 9) = false
 ·obtain ⟨hf, hp⟩ := hgood
  simp only [partBad, Bool.or_eq_false_iff, Bool.and_eq_false_iff, decide_eq_false_iff_not] at hp
  obtain ⟨⟨⟨⟨p1, p2⟩, p3⟩, p4⟩, p5⟩ := hp
  obtain ⟨w', h, g⟩ := read_ok hx h0 (pt s 0) (pt s 3) (pt s 6) (pt s 9) (by omega) (by omega) (by omega) (by omega) (fun h => by
   rcases p5 with (p5 | p5) | p5
   ·exact p5 h.1
   ·exact p5 h.2.1
   ·exact p5 h.2.2) w
  rw [← form_nm hf] at h
  refine ⟨_, 0, 0, w', h, g, .inl ⟨?_, rfl⟩⟩
  unfold numOf
  rw [if_pos ⟨hf, by simp only [partBad, Bool.or_eq_false_iff, Bool.and_eq_false_iff, decide_eq_false_iff_not]; exact ⟨⟨⟨⟨p1, p2⟩, p3⟩, p4⟩, p5⟩⟩]
 ·have hno : numOf x s = none := by unfold numOf; rw [if_neg hgood]
  obtain ⟨c, nu, de, d⟩ := x
  simp only at r1 r2 r3 r4 hgood ⊢
  obtain ⟨w1, hw1⟩ : ∃ w1, w1 = w.alloc (.cells (rc (c, nu, de, d)).toArray 145) := ⟨_, rfl⟩
  have b1 : Blk w1 w.heap.size 145 (rc (c, nu, de, d)) := hw1 ▸ Blk.new w 145 _
  have G1 : w.grownBy w1 none := hw1 ▸ World.grownBy_alloc w _ none
  have bx1 : erun Zp (Zo 145 (.agg #[.int .i64 c, .int .i64 nu, .int .i64 de, .int .i64 d])) w = some (.pointer (some ⟨w.heap.size, 0, none⟩), w1) := by rw [hw1]; rfl
  obtain ⟨w2, hw2⟩ : ∃ w2, w2 = w1.alloc (.cells #[st s] 9) := ⟨_, rfl⟩
  have b2 : Blk w2 w1.heap.size 9 [st s] := hw2 ▸ Blk.new w1 9 [st s]
  have G2 : w1.grownBy w2 none := hw2 ▸ World.grownBy_alloc w1 _ none
  have bx2 : erun Zp (Zo 9 (st s)) w1 = some (.pointer (some ⟨w1.heap.size, 0, none⟩), w2) := by rw [hw2]; rfl
  have b12 : Blk w2 w.heap.size 145 (rc (c, nu, de, d)) := b1.grown G2 (by simp)
  have l2 := ld145b b12
  have c2 := b2.cell_eq 0 rfl
  obtain ⟨a, w3, h3, G3, fa, fb⟩ := form_any (w := w2) c nu de d s hsl
  simp only [rv] at l2 ⊢
  have G12 := grown_step (grown_step G1 G2) G3
  cases hf : formB (markOf d) s with
  | false =>
   obtain ⟨a0, a1⟩ := fb hf
   exact ⟨0, a, 182, w3, f123.run rfl (by simp [f123, bx1, bx2, l2, c2, h3, a0]), G12, .inr ⟨hno, by omega⟩⟩
  | true =>
   have ha := fa hf
   subst ha
   have hp : partBad (c, nu, de, d) (pt s 0) (pt s 3) (pt s 6) (pt s 9) = true := by
    cases h : partBad (c, nu, de, d) (pt s 0) (pt s 3) (pt s 6) (pt s 9) with
    | true => rfl
    | false => exact absurd ⟨hf, h⟩ hgood
   obtain ⟨hl, _⟩ := (formB_iff _ _).mp hf
   obtain ⟨u0, u1, k0⟩ := dig_at hf (i := 0) (by omega) (by omega) (by omega) (by omega)
   obtain ⟨u3, u4, k3⟩ := dig_at hf (i := 3) (by omega) (by omega) (by omega) (by omega)
   obtain ⟨u6, u7, k6⟩ := dig_at hf (i := 6) (by omega) (by omega) (by omega) (by omega)
   obtain ⟨u9, uA, k9⟩ := dig_at hf (i := 9) (by omega) (by omega) (by omega) (by omega)
   generalize pt s 0 = h at hp u0 u1 k0
   generalize pt s 3 = mi at hp u3 u4 k3
   generalize pt s 6 = se at hp u6 u7 k6
   generalize pt s 9 = fr at hp u9 uA k9
   have b13 := b12.grown G3 (by simp)
   have b23 := b2.grown G3 (by simp)
   have c0 : w3.cell? ⟨w.heap.size, 0, none⟩ = some (.int .i64 c) := b13.cell_eq 0 rfl
   have c3 : w3.cell? ⟨w.heap.size, 3, none⟩ = some (.int .i64 d) := b13.cell_eq 3 rfl
   have p0 : C 133 #[.int .i64 0, .pointer (some ⟨w1.heap.size, 0, none⟩)] w3 = some (.int .i64 (h : Int), w3.drew) := part_ok b23 0 h (by omega) (by omega) (by omega) u0 u1
   have p3 : C 133 #[.int .i64 3, .pointer (some ⟨w1.heap.size, 0, none⟩)] w3.drew = some (.int .i64 (mi : Int), w3.drew.drew) := part_ok (w := w3.drew) b23 3 mi (by omega) (by omega) (by omega) u3 u4
   have p6 : C 133 #[.int .i64 6, .pointer (some ⟨w1.heap.size, 0, none⟩)] w3.drew.drew = some (.int .i64 (se : Int), w3.drew.drew.drew) := part_ok (w := w3.drew.drew) b23 6 se (by omega) (by omega) (by omega) u6 u7
   have p9 : C 133 #[.int .i64 9, .pointer (some ⟨w1.heap.size, 0, none⟩)] w3.drew.drew.drew = some (.int .i64 (fr : Int), w3.drew.drew.drew.drew) := part_ok (w := w3.drew.drew.drew) b23 9 fr (by omega) (by omega) (by omega) u9 uA
   have G7 : w.grownBy w3.drew.drew.drew.drew none := grown_step (grown_step (grown_step (grown_step G12 (drew_grown _)) (drew_grown _)) (drew_grown _)) (drew_grown _)
   have q1 := remN mi 10 (by omega)
   rw [show ((10 : Nat) : Int) = 10 from rfl] at q1
   simp only [partBad, Bool.or_eq_true, Bool.and_eq_true, decide_eq_true_eq] at hp
   obtain ⟨H, hH⟩ : ∃ H : Int, H = (h : Int) := ⟨_, rfl⟩
   obtain ⟨MI, hMI⟩ : ∃ H : Int, H = (mi : Int) := ⟨_, rfl⟩
   obtain ⟨SE, hSE⟩ : ∃ H : Int, H = (se : Int) := ⟨_, rfl⟩
   obtain ⟨FR, hFR⟩ : ∃ H : Int, H = (fr : Int) := ⟨_, rfl⟩
   rw [← hH] at p0
   rw [← hMI] at p3 q1
   rw [← hSE] at p6
   rw [← hFR] at p9
   by_cases z1 : (23 : Int) < H
   ·exact ⟨0, 0, 184, _, f123.run rfl (by simp [f123, bx1, bx2, l2, c2, h3, callV, p0, p3, p6, p9, z1]), G7, .inr ⟨hno, by omega⟩⟩
   by_cases z2 : (59 : Int) < MI
   ·exact ⟨0, 3, 182, _, f123.run rfl (by simp [f123, bx1, bx2, l2, c2, h3, callV, p0, p3, p6, p9, z1, z2]), G7, .inr ⟨hno, by omega⟩⟩
   by_cases z3 : (59 : Int) < SE
   ·exact ⟨0, 6, 182, _, f123.run rfl (by simp [f123, bx1, bx2, l2, c2, h3, callV, p0, p3, p6, p9, z1, z2, z3]), G7, .inr ⟨hno, by omega⟩⟩
   by_cases z4 : c ≤ FR
   ·exact ⟨0, 9, 182, _, f123.run rfl (by simp [f123, bx1, bx2, l2, c2, h3, callV, p0, p3, p6, p9, z1, z2, z3, addL, c0, z4]), G7, .inr ⟨hno, by omega⟩⟩
   have hdrop : mi % 10 ≠ 0 ∧ se = 0 ∧ (fr : Int) < d := by
    rcases hp with (((hp | hp) | hp) | hp) | hp
    ·omega
    ·omega
    ·omega
    ·omega
    ·exact ⟨hp.1.1, hp.1.2, hp.2⟩
   obtain ⟨Q, hQ⟩ : ∃ Q : Int, Q = ((mi % 10 : Nat) : Int) := ⟨_, rfl⟩
   rw [← hQ] at q1
   have y1 : ¬ Q = 0 := by omega
   have y2 : SE = 0 := by omega
   have y3 : FR < d := by omega
   rw [y2] at p6
   exact ⟨0, 9, 183, _, f123.run rfl (by simp [f123, bx1, bx2, l2, c2, h3, callV, p0, p3, p6, p9, z1, z2, addL, c0, z4, q1, y1, c3, y3]), G7, .inr ⟨hno, by omega⟩⟩
section
variable {W : World} {X : Asn W.heap.size}
theorem number_any {w : World} (x0 : Sat W X w) (T : Tb w) {r : Int} (h1 : 1 ≤ r) (h7 : r ≤ 7) {x : Int × Int × Int × Int} (hx : rates[r.toNat]? = some x) (s : List UInt8) (hsl : s.length ≤ 100000) :
  ∃ (v : Value) (w' : World) (n : Int), C 100 #[.int .i64 r, st s] w = some (.tuple #[.int .i64 n, v], w') ∧
   ((numOf x s = some n ∧ v = .nilIface ∧ Sat W X w') ∨ (numOf x s = none ∧ ∃ b a e, v = .iface 82 (.pointer (some ⟨b, 0, none⟩)) ∧ Sat W (blkA b 83 [.int .i64 a, .int .i64 e] * X) w')) := by
 have hm := List.mem_of_getElem? hx
 have h0 : x.1 ≠ 0 := by
  obtain ⟨y, hy, _, hy0, _⟩ := rate_of h1 h7
  rw [hx] at hy
  cases hy
  exact hy0
 obtain ⟨w1, j1, g1⟩ := find_in T r.toNat (by omega) hx
 rw [show ((r.toNat : Nat) : Int) = r by omega] at j1
 obtain ⟨w2, j2, bl2, g2⟩ := lay145 x w1
 have l2 := ld145b bl2
 obtain ⟨n, a, e, w3, j3, g3, hres⟩ := read_any hm h0 s hsl w2
 have x3 := ((x0.grown g1).grown g2).grown g3
 rcases hres with ⟨hn, rfl⟩ | ⟨hn, he⟩
 ·exact ⟨.nilIface, w3, n, f100.run rfl (by simp [f100, j1, alloc145, j2, l2, j3]), .inl ⟨hn, rfl, x3⟩⟩
 ·have b : Pq Zp (Zb 83 #[(0, .int .i64 a), (1, .int .i64 e)]) = some (.agg #[.int .i64 a, .int .i64 e]) := id (by kernel_rfl)
  have mk82 : ∀ v, Pq Zp (Zm 82 v) = some (.iface 82 v) := fun v => id (by kernel_rfl)
  have x4 := x3.newBlk 83 [.int .i64 a, .int .i64 e]
  refine ⟨.iface 82 (.pointer (some ⟨w3.heap.size, 0, none⟩)), _, 0, f100.run rfl ?_, .inr ⟨hn, _, a, e, rfl, x4⟩⟩
  simp [f100, j1, alloc145, j2, l2, j3, he, b, box_any, Value.cells, mk82]
theorem time_any {w : World} (L : Lay W) {rb : Nat} {B : Option Addr} {cc : Nat} {y : Wd} {rest : List Wd} {e r : Int} (h1 : 1 ≤ r) (h7 : r ≤ 7) {xr : Int × Int × Int × Int} (hx : rates[r.toNat]? = some xr) (hs : y.s.length ≤ 100000) (x : Sat W (rdrS rb B cc (y :: rest) e X) w) (hc : (y :: rest).length ≤ cc) (hl : (y :: rest).length ≤ 30000) (hz : nextE false (y :: rest) e = none) :
  (∃ (n : Int) (B' : Option Addr) (cc' : Nat) (w' : World), numOf xr y.s = some n ∧ C 68 #[.pointer (some ⟨rb, 0, none⟩), .int .i64 r] w = some (.tuple #[.int .i64 n, wv (y.a : Int) y.s false false, .nilIface], w') ∧ Sat W (rdrS rb B' cc' rest e X) w' ∧ rest.length ≤ cc') ∨
  (∃ (b : Nat) (w' : World), numOf xr y.s = none ∧ C 68 #[.pointer (some ⟨rb, 0, none⟩), .int .i64 r] w = some (.tuple #[.int .i64 0, wv (y.a : Int) y.s false false, .iface 82 (.pointer (some ⟨b, 0, none⟩))], w') ∧ Sat W (blkA b 83 [.int .i64 (y.a : Int), .int .i64 194] * X) w') := by
 have x1 := x.newBlk 114 (wc 0 [] false false)
 have a1 := alloc114 w
 obtain ⟨w1, hw1⟩ : ∃ w1, w1 = w.alloc (.cells (wc 0 [] false false).toArray 114) := ⟨_, rfl⟩
 rw [← hw1] at x1 a1
 have y1 : Sat W (rdrS rb B cc (y :: rest) e (blkA w.heap.size 114 (wc 0 [] false false) * X)) w1 := x1.eq (by unfold rdrS; ac_rfl)
 obtain ⟨B', cc', w2, h2, y2, hcc, _, _, _⟩ := next_good y1 hc hl false hz
 have y3 := y2.newBlk 114 (wc 0 [] false false)
 have a3 := alloc114 w2
 obtain ⟨w3, hw3⟩ : ∃ w3, w3 = w2.alloc (.cells (wc 0 [] false false).toArray 114) := ⟨_, rfl⟩
 rw [← hw3] at y3 a3
 obtain ⟨w4, h4, y4⟩ := put_word y3 rfl (y.a : Int) y.s false false
 have q1' : w4.cell? ⟨w2.heap.size, 1, none⟩ = some (st y.s) := y4.cell 1 rfl
 obtain ⟨v, w5, n, h5, hres⟩ := number_any y4 (L.grown (grown_of y4)).t h1 h7 hx y.s hs
 rcases hres with ⟨hn, rfl, y5⟩ | ⟨hn, b, fa, fe, rfl, y5⟩
 ·left
  have y6 := y5.grown (World.grownBy_alloc w5 (.cells #[.pointer none] 82) none)
  have a6 := alloc82 w5
  obtain ⟨w6, hw6⟩ : ∃ w6, w6 = w5.alloc (.cells #[.pointer none] 82) := ⟨_, rfl⟩
  rw [← hw6] at y6 a6
  have l6 := ld_word y6.drew
  have asn := as_nil (.iface 85 (.pointer (some ⟨w5.heap.size, 0, none⟩))) w6
  have y7 : Sat W (blkA w.heap.size 114 (wc 0 [] false false) * (blkA w2.heap.size 114 (wc (y.a : Int) y.s false false) * rdrS rb B' cc' rest e X)) w6.drew := y6.drew.eq (by unfold rdrS; ac_rfl)
  obtain ⟨w8, h8, y8⟩ := put_word y7 rfl (y.a : Int) y.s false false
  have l8 := ld_word y8
  refine ⟨n, B', cc', w8, hn, f68.run rfl ?_, y8.right.right, hcc⟩
  simp [f68, a1, h2, a3, h4, addL, q1', h5, a6, mk85, asn, l6, h8, l8]
 ·right
  have y6 := y5.newBlk 82 [.pointer none]
  have a6 := alloc82 w5
  obtain ⟨w6, hw6⟩ : ∃ w6, w6 = w5.alloc (.cells #[.pointer none] 82) := ⟨_, rfl⟩
  have y6 : Sat W (blkA w5.heap.size 82 [.pointer none] * (blkA b 83 [.int .i64 fa, .int .i64 fe] * (blkA w2.heap.size 114 (wc (y.a : Int) y.s false false) * rdrS rb B' cc' rest e (blkA w.heap.size 114 (wc 0 [] false false) * X)))) w6 := hw6 ▸ y6
  rw [← hw6] at a6
  have hh : w6.cell? ⟨0, 0, none⟩ = some hnd := (L.grown (grown_of y6)).h
  have asn := asF_ok (e := ⟨b, 0, none⟩) hh (y6.cell 0 rfl) (y6.frozen 0)
  -- what As leaves
  have z1 := (((y6.alloc_ge (.cells #[.pointer (some ⟨w5.heap.size, 0, none⟩)] 85)).alloc_ge (.cells #[.pointer (some ⟨15, 85, none⟩), .pointer (some ⟨w6.heap.size, 0, none⟩), .int .u64 150] 137)).alloc_ge (.cells #[.pointer (some ⟨15, 85, none⟩), .pointer (some ⟨w6.heap.size, 0, none⟩), .int .u64 150] 137)).alloc_ge (.cells #[.pointer (some ⟨b, 0, none⟩)] 82)
  have z2 := z1.store 0 (.pointer (some ⟨b, 0, none⟩)) (cs' := [.pointer (some ⟨b, 0, none⟩)]) rfl
  obtain ⟨w7, hw7⟩ : ∃ w7, w7 = asWF ⟨b, 0, none⟩ ⟨w5.heap.size, 0, none⟩ w6 := ⟨_, rfl⟩
  have z2 : Sat W (blkA w5.heap.size 82 [.pointer (some ⟨b, 0, none⟩)] * (blkA b 83 [.int .i64 fa, .int .i64 fe] * (blkA w2.heap.size 114 (wc (y.a : Int) y.s false false) * rdrS rb B' cc' rest e (blkA w.heap.size 114 (wc 0 [] false false) * X)))) w7 := hw7 ▸ z2
  rw [← hw7] at asn
  have z3 : Sat W (blkA w2.heap.size 114 (wc (y.a : Int) y.s false false) * (blkA w.heap.size 114 (wc 0 [] false false) * X)) w7.drew := (z2.drew.eq (by unfold rdrS; ac_rfl : _ = (blkA w5.heap.size 82 [.pointer (some ⟨b, 0, none⟩)] * (blkA b 83 [.int .i64 fa, .int .i64 fe] * (blkA rb 64 [.slice B' rest.length cc', .int .i64 e] * rdP B' (wcs rest)))) * (blkA w2.heap.size 114 (wc (y.a : Int) y.s false false) * (blkA w.heap.size 114 (wc 0 [] false false) * X)))).right
  have l6 := ld_word z3
  have c7 : w7.cell? ⟨w2.heap.size, 0, none⟩ = some (.int .i64 (y.a : Int)) := z3.cell 0 rfl
  obtain ⟨b8, w8, h8, z8⟩ := fault_ok z3 (y.a : Int) 194
  have z8' : Sat W (blkA w2.heap.size 114 (wc (y.a : Int) y.s false false) * (blkA b8 83 [.int .i64 (y.a : Int), .int .i64 194] * (blkA w.heap.size 114 (wc 0 [] false false) * X))) w8 := z8.eq (by ac_rfl)
  have l8 := ld_word z8'
  have z9 : Sat W (blkA w.heap.size 114 (wc 0 [] false false) * (blkA w2.heap.size 114 (wc (y.a : Int) y.s false false) * (blkA b8 83 [.int .i64 (y.a : Int), .int .i64 194] * X))) w8 := z8.eq (by ac_rfl)
  obtain ⟨w9, h9, zA⟩ := put_word z9 rfl (y.a : Int) y.s false false
  have l9 := ld_word zA
  refine ⟨b8, w9, hn, f68.run rfl ?_, zA.right.right⟩
  have hn0 : n = n := rfl
  simp [f68, a1, h2, a3, h4, addL, q1', h5, a6, mk85, asn, l6, c7, h8, l8, h9, l9, chkThen]
end
def ev3E (t : List UInt8) (r : Int) (q : List Ev) (ws : List Wd) (ev : Ev) (a1 a5 : Int) : Option (Int × Int) := match ws with
 | y :: _ => some ((y.a : Int), 193)
 | [] => match ckCode t r (q ++ [ev]) with
  | none => none
  | some (_, z) => if z = 194 then some (a5, 194) else some (a1, 195)
section
variable {W : World} {X : Asn W.heap.size}
theorem ev3_any {w : World} (L : Lay W) {rb lb eb b6 b11 : Nat} {B : Option Addr} {cc : Nat} {e r a1 a5 : Int} {s1 s5 : List UInt8} {t : List UInt8} {v : Value} {q : List Ev} {ev : Ev} {ws : List Wd} (hql : q.length ≤ 199) (hs : Short (q ++ [ev])) (hl : ws.length ≤ 30000)
  (x : Sat W (rdrS rb B cc ws e (blkA eb 51 ev.cs * cutS lb t r v q (blkA b6 114 (wc a1 s1 false false) * (blkA b11 114 (wc a5 s5 false false) * X)))) w) :
  (ev3E t r q ws ev a1 a5 = none ∧ ∃ v' w', ev3 C [.pointer (some ⟨rb, 0, none⟩), .pointer (some ⟨lb, 0, none⟩), .pointer (some ⟨eb, 0, none⟩), .pointer (some ⟨b6, 0, none⟩), .pointer (some ⟨b11, 0, none⟩)] w = some (.ret [.nilIface] w') ∧ Sat W (cutS lb t r v' (q ++ [ev]) X) w') ∨
  (∃ a z b w', ev3E t r q ws ev a1 a5 = some (a, z) ∧ ev3 C [.pointer (some ⟨rb, 0, none⟩), .pointer (some ⟨lb, 0, none⟩), .pointer (some ⟨eb, 0, none⟩), .pointer (some ⟨b6, 0, none⟩), .pointer (some ⟨b11, 0, none⟩)] w = some (.ret [.iface 82 (.pointer (some ⟨b, 0, none⟩))] w') ∧ Sat W (blkA b 83 [.int .i64 a, .int .i64 z] * X) w') := by
 match ws, hl, x with
 | y :: rest, hl, x =>
  right
  obtain ⟨b, w1, h1, x1⟩ := done_more x hl
  refine ⟨(y.a : Int), 193, b, w1, rfl, by simp [ev3, h1], ?_⟩
  have x2 := x1.eq (by unfold cutS; ac_rfl : _ = (blkA eb 51 ev.cs * (blkA lb 30 [st t, .int .i64 r, v] * (rowA 51 5 v q.length (q.flatMap Ev.cs) * (blkA b6 114 (wc a1 s1 false false) * blkA b11 114 (wc a5 s5 false false))))) * (blkA b 83 [.int .i64 (y.a : Int), .int .i64 193] * X))
  exact x2.right
 | [], hl, x =>
  have dn := done_nil x
  obtain ⟨Y, hY⟩ : ∃ Y : Asn W.heap.size, Y = blkA b6 114 (wc a1 s1 false false) * (blkA b11 114 (wc a5 s5 false false) * X) := ⟨_, rfl⟩
  rw [← hY] at x
  have x1 : Sat W (cutS lb t r v q (blkA eb 51 ev.cs * Y)) w.drew := (x.drew.eq (by unfold rdrS cutS; ac_rfl : _ = (blkA rb 64 [.slice B ([] : List Wd).length cc, .int .i64 e] * rdP B (wcs [])) * cutS lb t r v q (blkA eb 51 ev.cs * Y))).right
  have c2' : w.cell? ⟨lb, 2, none⟩ = some v := x1.cell 2 rfl
  have xe : Sat W (blkA eb 51 ev.cs * cutS lb t r v q Y) w.drew := x1.eq (by unfold cutS; ac_rfl)
  have le := ev_bl xe
  have b1 := bs28 ev w.drew
  have xr : Sat W (rowA 51 5 v q.length (q.flatMap Ev.cs) * (blkA lb 30 [st t, .int .i64 r, v] * (blkA eb 51 ev.cs * Y))) w.drew := x1.eq (by unfold cutS; ac_rfl)
  obtain ⟨v', w2, h2, x2⟩ := xr.push (ty := 28) (P := Zp) Tryz.underlying28 inf51 zero51 size51 bytes51 rfl (by decide) (news := ev.cs) rfl (cs_one ev) (by simp [maxLen]; omega) (by omega)
  have h2' : erun Zp (Builtin.append_ #[28, 28] 28 #[v, .slice (some ⟨w.heap.size, 0, none⟩) 1 1]) (w.drew.alloc (.cells ev.cs.toArray 51)) = some (v', w2) := h2
  have c2a : (w.drew.alloc (.cells ev.cs.toArray 51)).cell? ⟨lb, 2, none⟩ = some v := (x1.grown (World.grownBy_alloc w.drew (.cells ev.cs.toArray 51) none)).cell 2 rfl
  have hfm : q.flatMap Ev.cs ++ ev.cs = (q ++ [ev]).flatMap Ev.cs := by simp
  rw [hfm, show q.length + 1 = (q ++ [ev]).length by simp] at x2
  obtain ⟨A', c', rfl, hc', _⟩ := own_form x2.row
  have x3 : Sat W (blkA lb 30 [st t, .int .i64 r, v] * (rowA 51 5 (.slice A' (q ++ [ev]).length c') (q ++ [ev]).length ((q ++ [ev]).flatMap Ev.cs) * (blkA eb 51 ev.cs * Y))) w2 := x2.eq (by ac_rfl)
  have h3 := x3.blk.store (P := Zp) (t := 28) (j := 2) (v := .slice A' (q ++ [ev]).length c') inf28 size28 (by simp) rfl rfl
  have x4 := x3.store 2 (.slice A' (q ++ [ev]).length c') (cs' := [st t, .int .i64 r, .slice A' (q ++ [ev]).length c']) rfl
  obtain ⟨w4, hw4⟩ : ∃ w4, w4 = w2.setCell ⟨lb, 2, none⟩ (.slice A' (q ++ [ev]).length c') := ⟨_, rfl⟩
  rw [← hw4] at h3 x4
  have l4 := ld_cut x4
  have x4r : Sat W (rowA 51 5 (.slice A' (q ++ [ev]).length c') (q ++ [ev]).length ((q ++ [ev]).flatMap Ev.cs) * (blkA lb 30 [st t, .int .i64 r, .slice A' (q ++ [ev]).length c'] * (blkA eb 51 ev.cs * Y))) w4 := x4.eq (by ac_rfl)
  have L4 := L.grown (grown_of x4)
  obtain ⟨u, w5, h5, g5, e5⟩ := Check_ok L4.u L4.t t r (Rd.own x4r.row) hc' hs
  simp only [cutV] at h5
  have mk : Pq Zp (Zm 35 (.int .i64 194)) = some (.iface 35 (.int .i64 194)) := id (by kernel_rfl)
  have x5 : Sat W (blkA eb 51 ev.cs * cutS lb t r (.slice A' (q ++ [ev]).length c') (q ++ [ev]) Y) w5 := (x4.grown g5).eq (by unfold cutS; ac_rfl)
  obtain ⟨N, hN⟩ : ∃ N, N = (q ++ [ev]).length := ⟨_, rfl⟩
  rw [← hN] at h2' h3 l4 h5
  unfold ev3E
  cases hck : ckCode t r (q ++ [ev]) with
  | none =>
   left
   rw [hck] at e5
   have e5' : u = .nilIface := e5
   subst e5'
   have isn := is_nil 194 w5
   refine ⟨rfl, _, w5, ?_, x5.right.eq (by rw [hY]) |> fun z => ((z.eq (by unfold cutS; ac_rfl : _ = (blkA b6 114 (wc a1 s1 false false) * blkA b11 114 (wc a5 s5 false false)) * cutS lb t r (.slice A' (q ++ [ev]).length c') (q ++ [ev]) X)).right)⟩
   simp [ev3, dn, nilV, addL, c2', le, b1, h2', c2a, h3, l4, h5, isn, mk, chkThen]
  | some p =>
   right
   rw [hck] at e5
   obtain ⟨k, z⟩ := p
   obtain ⟨b, rfl, hb, _⟩ := e5
   have cb : w5.cell? ⟨b, 1, none⟩ = some (.int .i64 z) := hb.cell_eq 1 rfl
   have isz := is_any (z := 194) cb
   have xY : Sat W Y w5 := (x5.eq (by unfold cutS; ac_rfl : _ = (blkA eb 51 ev.cs * (blkA lb 30 [st t, .int .i64 r, .slice A' (q ++ [ev]).length c'] * rowA 51 5 (.slice A' (q ++ [ev]).length c') (q ++ [ev]).length ((q ++ [ev]).flatMap Ev.cs))) * Y)).right
   rw [hY] at xY
   have c6 : w5.cell? ⟨b6, 0, none⟩ = some (.int .i64 a1) := xY.cell 0 rfl
   have xY2 : Sat W (blkA b11 114 (wc a5 s5 false false) * (blkA b6 114 (wc a1 s1 false false) * X)) w5 := xY.eq (by ac_rfl)
   have c11 : w5.cell? ⟨b11, 0, none⟩ = some (.int .i64 a5) := xY2.cell 0 rfl
   by_cases hz : z = 194
   ·have hzb : (z == 194) = true := by simp [hz]
    rw [hzb] at isz
    obtain ⟨b8, w8, h8, z8⟩ := fault_ok xY.right.right a5 194
    refine ⟨a5, 194, b8, w8, by show (if z = 194 then some (a5, 194) else some (a1, 195)) = some (a5, (194 : Int)); rw [if_pos hz], ?_, z8⟩
    simp [ev3, dn, nilV, addL, c2', le, b1, h2', c2a, h3, l4, h5, isz, mk, c11, h8, chkThen]
   ·have hzb : (z == 194) = false := by simp [hz]
    rw [hzb] at isz
    obtain ⟨b8, w8, h8, z8⟩ := fault_ok xY.right.right a1 195
    refine ⟨a1, 195, b8, w8, by show (if z = 194 then some (a5, 194) else some (a1, 195)) = some (a1, (195 : Int)); rw [if_neg hz], ?_, z8⟩
    simp [ev3, dn, nilV, addL, c2', le, b1, h2', c2a, h3, l4, h5, isz, mk, c6, h8, chkThen]
end
def ev3R (t : List UInt8) (r : Int) (q : List Ev) (ws : List Wd) (ev : Ev) (a1 a5 : Int) : Except (Int × Int) Ev := match ev3E t r q ws ev a1 a5 with
 | none => .ok ev
 | some x => .error x
def ev2D (t : List UInt8) (r : Int) (q : List Ev) (f a1 : Int) (s : List UInt8) (i o : Int) (a5 e : Int) (ws : List Wd) : Except (Int × Int) Ev := match ws with
 | [] => ev3R t r q [] ⟨s, i, o, f, []⟩ a1 a5
 | y :: ws' => match nextE true (y :: ws') e with
  | some x => .error x
  | none => ev3R t r q ws' ⟨s, i, o, f, y.s⟩ a1 a5
def ev2B (x : Int × Int × Int × Int) (t : List UInt8) (r : Int) (q : List Ev) (f a1 : Int) (s : List UInt8) (i e : Int) (ws : List Wd) : Except (Int × Int) Ev := match nextE false ws e with
 | some p => .error p
 | none => match ws with
  | [] => .error (0, 0)
  | y :: ws' => match numOf x y.s with
   | none => .error ((y.a : Int), 194)
   | some o => ev2D t r q f a1 s i o (y.a : Int) e ws'
def ev2A (x : Int × Int × Int × Int) (t : List UInt8) (r : Int) (q : List Ev) (f a1 : Int) (s : List UInt8) (e : Int) (ws : List Wd) : Except (Int × Int) Ev := match nextE false ws e with
 | some p => .error p
 | none => match ws with
  | [] => .error (0, 0)
  | y :: ws' => match numOf x y.s with
   | none => .error ((y.a : Int), 194)
   | some i => ev2B x t r q f a1 s i e ws'
def ev2R (x : Int × Int × Int × Int) (t : List UInt8) (r : Int) (q : List Ev) (f a1 e : Int) (ws : List Wd) : Except (Int × Int) Ev := match plainE isName ws e with
 | some p => .error p
 | none => match ws with
  | [] => .error (0, 0)
  | y :: ws' => ev2A x t r q f a1 y.s e ws'
section
variable {W : World} {X : Asn W.heap.size}
theorem time_next {w : World} {rb : Nat} {B : Option Addr} {cc : Nat} {ws : List Wd} {e r : Int} (x : Sat W (rdrS rb B cc ws e X) w) (hc : ws.length ≤ cc) (hl : ws.length ≤ 30000) {a z : Int} (hz : nextE false ws e = some (a, z)) :
  ∃ b w', C 68 #[.pointer (some ⟨rb, 0, none⟩), .int .i64 r] w = some (.tuple #[.int .i64 0, wv 0 [] false false, .iface 82 (.pointer (some ⟨b, 0, none⟩))], w') ∧ Sat W (blkA b 83 [.int .i64 a, .int .i64 z] * X) w' := by
 have x1 := x.newBlk 114 (wc 0 [] false false)
 have a1 := alloc114 w
 obtain ⟨w1, hw1⟩ : ∃ w1, w1 = w.alloc (.cells (wc 0 [] false false).toArray 114) := ⟨_, rfl⟩
 rw [← hw1] at x1 a1
 have y1 : Sat W (rdrS rb B cc ws e (blkA w.heap.size 114 (wc 0 [] false false) * X)) w1 := x1.eq (by unfold rdrS; ac_rfl)
 obtain ⟨b, w2, h2, y2⟩ := next_bad y1 hc hl false hz
 have y3 := y2.newBlk 114 (wc 0 [] false false)
 have a3 := alloc114 w2
 obtain ⟨w3, hw3⟩ : ∃ w3, w3 = w2.alloc (.cells (wc 0 [] false false).toArray 114) := ⟨_, rfl⟩
 rw [← hw3] at y3 a3
 obtain ⟨w4, h4, y4⟩ := put_word y3 rfl 0 [] false false
 have l4 := ld_word y4.drew
 have y5 : Sat W (blkA w.heap.size 114 (wc 0 [] false false) * (blkA w2.heap.size 114 (wc 0 [] false false) * (blkA b 83 [.int .i64 a, .int .i64 z] * X))) w4.drew := y4.drew.eq (by ac_rfl)
 obtain ⟨w6, h6, y6⟩ := put_word y5 rfl 0 [] false false
 have l6 := ld_word y6
 refine ⟨b, w6, f68.run rfl ?_, y6.right.right⟩
 simp [f68, a1, h2, a3, h4, l4, h6, l6, chkThen]
def EvEnd (W : World) (X : Asn W.heap.size) (lb : Nat) (t : List UInt8) (r : Int) (q : List Ev) (res : Except (Int × Int) Ev) (out : Option Res) : Prop :=
 (∃ ev v' w', res = .ok ev ∧ ckCode t r (q ++ [ev]) = none ∧ out = some (.ret [.nilIface] w') ∧ Sat W (cutS lb t r v' (q ++ [ev]) X) w') ∨
 (∃ a z b w', res = .error (a, z) ∧ out = some (.ret [.iface 82 (.pointer (some ⟨b, 0, none⟩))] w') ∧ Sat W (blkA b 83 [.int .i64 a, .int .i64 z] * X) w')
theorem end_of {w : World} (L : Lay W) {rb lb eb b6 b11 : Nat} {B : Option Addr} {cc : Nat} {e r a1 a5 : Int} {s1 s5 : List UInt8} {t : List UInt8} {v : Value} {q : List Ev} {ev : Ev} {ws : List Wd} (hql : q.length ≤ 199) (hs : Short (q ++ [ev])) (hl : ws.length ≤ 30000)
  (x : Sat W (rdrS rb B cc ws e (blkA eb 51 ev.cs * cutS lb t r v q (blkA b6 114 (wc a1 s1 false false) * (blkA b11 114 (wc a5 s5 false false) * X)))) w) :
  EvEnd W X lb t r q (ev3R t r q ws ev a1 a5) (ev3 C [.pointer (some ⟨rb, 0, none⟩), .pointer (some ⟨lb, 0, none⟩), .pointer (some ⟨eb, 0, none⟩), .pointer (some ⟨b6, 0, none⟩), .pointer (some ⟨b11, 0, none⟩)] w) := by
 rcases ev3_any L hql hs hl x with ⟨h1, v', w', h2, h3⟩ | ⟨a, z, b, w', h1, h2, h3⟩
 ·refine .inl ⟨ev, v', w', by unfold ev3R; rw [h1], ?_, h2, h3⟩
  cases ws with
  | cons y rest => simp [ev3E] at h1
  | nil =>
   cases hck : ckCode t r (q ++ [ev]) with
   | none => rfl
   | some p =>
    obtain ⟨k, z⟩ := p
    simp only [ev3E, hck] at h1
    split at h1 <;> cases h1
 ·exact .inr ⟨a, z, b, w', by unfold ev3R; rw [h1], h2, h3⟩
theorem ev2_any {w : World} (L : Lay W) {rb lb eb b6 : Nat} {B : Option Addr} {cc : Nat} {e r f a1 : Int} {s1 : List UInt8} {t : List UInt8} {v : Value} {q : List Ev} {xr : Int × Int × Int × Int} (h1 : 1 ≤ r) (h7 : r ≤ 7) (hx : rates[r.toNat]? = some xr) (hql : q.length ≤ 199) (hsq : Short q) {ws : List Wd} (hs : ∀ y ∈ ws, y.s.length ≤ 30000) (hl : ws.length ≤ 30000) (hc : ws.length ≤ cc)
  (x : Sat W (rdrS rb B cc ws e (evB eb [] 0 0 f [] * cutS lb t r v q (blkA b6 114 (wc a1 s1 false false) * X))) w) :
  EvEnd W X lb t r q (ev2R xr t r q f a1 e ws) (ev2 C [.pointer (some ⟨rb, 0, none⟩), .pointer (some ⟨lb, 0, none⟩), .pointer (some ⟨eb, 0, none⟩), .pointer (some ⟨b6, 0, none⟩)] w) := by
 unfold ev2R
 cases hp : plainE isName ws e with
 | some p =>
  obtain ⟨a, z⟩ := p
  obtain ⟨a0, s0, t0, d0, b, w1, k1, z1⟩ := plain_bad holds_name hs x hc hl hp
  have z2 := z1.newBlk 114 (wc 0 [] false false)
  have a2 := alloc114 w1
  obtain ⟨w2, hw2⟩ : ∃ w2, w2 = w1.alloc (.cells (wc 0 [] false false).toArray 114) := ⟨_, rfl⟩
  rw [← hw2] at z2 a2
  obtain ⟨w3, k3, z3⟩ := put_word z2 rfl a0 s0 t0 d0
  refine .inr ⟨a, z, b, w3, rfl, by simp [ev2, k1, a2, k3], ?_⟩
  exact ((z3.right).eq (by unfold cutS evB; ac_rfl : _ = blkA b 83 [.int .i64 a, .int .i64 z] * ((evB eb [] 0 0 f [] * (blkA lb 30 [st t, .int .i64 r, v] * (rowA 51 5 v q.length (q.flatMap Ev.cs) * blkA b6 114 (wc a1 s1 false false)))) * X))).drop2
 | none =>
  match ws, hs, hl, hc, x, hp with
  | [], hs, hl, hc, x, hp => simp [plainE, nextE] at hp
  | y3 :: ws3, hs, hl, hc, x, hp =>
   simp only
   have hs3 := hs y3 (by simp)
   have hl3 : ws3.length ≤ 30000 := by simp at hl; omega
   obtain ⟨B1, cc1, w1, k1, z1, hc1, _⟩ := plain_good holds_name hs3 x hc hl hp
   have z2 := z1.newBlk 114 (wc 0 [] false false)
   have a2 := alloc114 w1
   obtain ⟨w2, hw2⟩ : ∃ w2, w2 = w1.alloc (.cells (wc 0 [] false false).toArray 114) := ⟨_, rfl⟩
   rw [← hw2] at z2 a2
   obtain ⟨w3, k3, z3⟩ := put_word z2 rfl (y3.a : Int) y3.s false false
   have q3' : w3.cell? ⟨w1.heap.size, 1, none⟩ = some (st y3.s) := z3.cell 1 rfl
   obtain ⟨Y, hY⟩ : ∃ Y : Asn W.heap.size, Y = blkA b6 114 (wc a1 s1 false false) * X := ⟨_, rfl⟩
   rw [← hY] at z3
   have z4 : Sat W (evB eb [] 0 0 f [] * (rdrS rb B1 cc1 ws3 e (cutS lb t r v q Y))) w3 := (z3.right).eq (by unfold rdrS evB cutS; ac_rfl)
   have k4 := z4.blk.store (P := Zp) (t := 9) (j := 0) (v := st y3.s) inf9 size9 (by simp) rfl rfl
   have z5 := z4.store 0 (st y3.s) (cs' := [st y3.s, .int .i64 0, .int .i64 0, .int .i64 f, st []]) rfl
   obtain ⟨w5, hw5⟩ : ∃ w5, w5 = w3.setCell ⟨eb, 0, none⟩ (st y3.s) := ⟨_, rfl⟩
   rw [← hw5] at k4 z5
   have z5l : Sat W (blkA lb 30 [st t, .int .i64 r, v] * (rowA 51 5 v q.length (q.flatMap Ev.cs) * (evB eb y3.s 0 0 f [] * (rdrS rb B1 cc1 ws3 e Y)))) w5 := z5.eq (by unfold rdrS evB cutS; ac_rfl)
   have c5' : w5.cell? ⟨lb, 1, none⟩ = some (.int .i64 r) := z5l.cell 1 rfl
   have z6 : Sat W (rdrS rb B1 cc1 ws3 e (evB eb y3.s 0 0 f [] * cutS lb t r v q Y)) w5 := z5.eq (by unfold rdrS evB cutS; ac_rfl)
   unfold ev2A
   cases hp4 : nextE false ws3 e with
   | some p =>
    obtain ⟨a, z⟩ := p
    obtain ⟨b, w7, k7, z7⟩ := time_next (r := r) z6 hc1 hl3 hp4
    have z8 : Sat W (evB eb y3.s 0 0 f [] * (blkA b 83 [.int .i64 a, .int .i64 z] * cutS lb t r v q Y)) w7 := z7.eq (by unfold evB cutS; ac_rfl)
    have k8 := z8.blk.store (P := Zp) (t := 3) (j := 1) (v := .int .i64 0) inf3 size3 (by simp) rfl rfl
    have z9 := z8.store 1 (.int .i64 0) (cs' := [st y3.s, .int .i64 0, .int .i64 0, .int .i64 f, st []]) rfl
    refine .inr ⟨a, z, b, _, rfl, by simp [ev2, k1, a2, k3, addL, q3', k4, nilV, c5', k7, k8]; rfl, ?_⟩
    exact ((z9.right).eq (by rw [hY]; unfold cutS; ac_rfl : _ = blkA b 83 [.int .i64 a, .int .i64 z] * ((blkA lb 30 [st t, .int .i64 r, v] * (rowA 51 5 v q.length (q.flatMap Ev.cs) * blkA b6 114 (wc a1 s1 false false))) * X))).drop2
   | none =>
    match ws3, hs, hl, hl3, hc1, z6, hp4, hp with
    | [], hs, hl, hl3, hc1, z6, hp4, hp => simp [nextE] at hp4
    | y4 :: ws4, hs, hl, hl3, hc1, z6, hp4, hp =>
     simp only
     have hs4 := hs y4 (by simp)
     have hl4 : ws4.length ≤ 30000 := by simp at hl3; omega
     rcases time_any L h1 h7 hx (by omega) z6 hc1 hl3 hp4 with ⟨i, B7, cc7, w7, hn7, k7, z7, hc7⟩ | ⟨b, w7, hn7, k7, z7⟩
     ·rw [hn7]
      simp only
      have z8 : Sat W (evB eb y3.s 0 0 f [] * (rdrS rb B7 cc7 ws4 e (cutS lb t r v q Y))) w7 := z7.eq (by unfold rdrS evB cutS; ac_rfl)
      have k8 := z8.blk.store (P := Zp) (t := 3) (j := 1) (v := .int .i64 i) inf3 size3 (by simp) rfl rfl
      have z9 := z8.store 1 (.int .i64 i) (cs' := [st y3.s, .int .i64 i, .int .i64 0, .int .i64 f, st []]) rfl
      obtain ⟨w9, hw9⟩ : ∃ w9, w9 = w7.setCell ⟨eb, 1, none⟩ (.int .i64 i) := ⟨_, rfl⟩
      rw [← hw9] at k8 z9
      have zA := z9.newBlk 114 (wc 0 [] false false)
      have aA := alloc114 w9
      obtain ⟨wA, hwA⟩ : ∃ wA, wA = w9.alloc (.cells (wc 0 [] false false).toArray 114) := ⟨_, rfl⟩
      rw [← hwA] at zA aA
      obtain ⟨wB, kB, zB⟩ := put_word zA rfl 0 [] false false
      have zBl : Sat W (blkA lb 30 [st t, .int .i64 r, v] * (rowA 51 5 v q.length (q.flatMap Ev.cs) * (blkA w9.heap.size 114 (wc 0 [] false false) * (evB eb y3.s i 0 f [] * (rdrS rb B7 cc7 ws4 e Y))))) wB := zB.eq (by unfold rdrS evB cutS; ac_rfl)
      have cB' : wB.cell? ⟨lb, 1, none⟩ = some (.int .i64 r) := zBl.cell 1 rfl
      have zC : Sat W (rdrS rb B7 cc7 ws4 e (blkA w9.heap.size 114 (wc 0 [] false false) * (evB eb y3.s i 0 f [] * cutS lb t r v q Y))) wB := zB.eq (by unfold rdrS evB cutS; ac_rfl)
      unfold ev2B
      cases hp5 : nextE false ws4 e with
      | some p =>
       obtain ⟨a, z⟩ := p
       obtain ⟨b, wD, kD, zD⟩ := time_next (r := r) zC hc7 hl4 hp5
       have zE : Sat W (evB eb y3.s i 0 f [] * (blkA w9.heap.size 114 (wc 0 [] false false) * (blkA b 83 [.int .i64 a, .int .i64 z] * cutS lb t r v q Y))) wD := zD.eq (by unfold evB cutS; ac_rfl)
       have kE := zE.blk.store (P := Zp) (t := 3) (j := 2) (v := .int .i64 0) inf3 size3 (by simp) rfl rfl
       have zF := zE.store 2 (.int .i64 0) (cs' := [st y3.s, .int .i64 i, .int .i64 0, .int .i64 f, st []]) rfl
       obtain ⟨wF, hwF⟩ : ∃ wF, wF = wD.setCell ⟨eb, 2, none⟩ (.int .i64 0) := ⟨_, rfl⟩
       rw [← hwF] at kE zF
       obtain ⟨wG, kG, zG⟩ := put_word (zF.right) rfl 0 [] false false
       refine .inr ⟨a, z, b, wG, rfl, by simp [ev2, k1, a2, k3, addL, q3', k4, nilV, c5', k7, k8, build114z, aA, kB, cB', kD, kE, kG], ?_⟩
       exact ((zG.right).eq (by rw [hY]; unfold cutS; ac_rfl : _ = blkA b 83 [.int .i64 a, .int .i64 z] * ((blkA lb 30 [st t, .int .i64 r, v] * (rowA 51 5 v q.length (q.flatMap Ev.cs) * blkA b6 114 (wc a1 s1 false false))) * X))).drop2
      | none =>
       match ws4, hs, hl, hl3, hl4, hc1, hc7, z6, zC, hp5, hp4, hp with
       | [], hs, hl, hl3, hl4, hc1, hc7, z6, zC, hp5, hp4, hp => simp [nextE] at hp5
       | y5 :: ws5, hs, hl, hl3, hl4, hc1, hc7, z6, zC, hp5, hp4, hp =>
        simp only
        have hs5 := hs y5 (by simp)
        have hl5 : ws5.length ≤ 30000 := by simp at hl4; omega
        rcases time_any L h1 h7 hx (by omega) zC hc7 hl4 hp5 with ⟨o, BD, ccD, wD, hnD, kD, zD, hcD⟩ | ⟨b, wD, hnD, kD, zD⟩
        ·rw [hnD]
         simp only
         have zE : Sat W (evB eb y3.s i 0 f [] * (blkA w9.heap.size 114 (wc 0 [] false false) * (rdrS rb BD ccD ws5 e (cutS lb t r v q Y)))) wD := zD.eq (by unfold rdrS evB cutS; ac_rfl)
         have kE := zE.blk.store (P := Zp) (t := 3) (j := 2) (v := .int .i64 o) inf3 size3 (by simp) rfl rfl
         have zF := zE.store 2 (.int .i64 o) (cs' := [st y3.s, .int .i64 i, .int .i64 o, .int .i64 f, st []]) rfl
         obtain ⟨wF, hwF⟩ : ∃ wF, wF = wD.setCell ⟨eb, 2, none⟩ (.int .i64 o) := ⟨_, rfl⟩
         rw [← hwF] at kE zF
         have zG : Sat W (blkA w9.heap.size 114 (wc 0 [] false false) * (evB eb y3.s i o f [] * (rdrS rb BD ccD ws5 e (cutS lb t r v q Y)))) wF := zF.eq (by unfold evB; ac_rfl)
         obtain ⟨wH, kH, zH⟩ := put_word zG rfl (y5.a : Int) y5.s false false
         have zI : Sat W (rdrS rb BD ccD ws5 e (evB eb y3.s i o f [] * cutS lb t r v q (blkA b6 114 (wc a1 s1 false false) * (blkA w9.heap.size 114 (wc (y5.a : Int) y5.s false false) * X)))) wH := zH.eq (by rw [hY]; unfold rdrS evB cutS; ac_rfl)
         have cI := zI.cell 0 rfl
         unfold ev2D
         match ws5, hs, hl5, hcD, zI, cI with
         | [], hs, hl5, hcD, zI, cI =>
          simp only
          have cI' : wH.cell? ⟨rb, 0, none⟩ = some (.slice BD 0 ccD) := cI
          have hend := end_of L (ev := ⟨y3.s, i, o, f, []⟩) hql (by
           intro ev hev
           rcases List.mem_append.mp hev with h | h
           ·exact hsq ev h
           ·simp only [List.mem_singleton] at h
            subst h
            exact ⟨by show y3.s.length ≤ _; omega, by simp⟩) (by simp) zI
          have he : ev2 C [.pointer (some ⟨rb, 0, none⟩), .pointer (some ⟨lb, 0, none⟩), .pointer (some ⟨eb, 0, none⟩), .pointer (some ⟨b6, 0, none⟩)] w = ev3 C [.pointer (some ⟨rb, 0, none⟩), .pointer (some ⟨lb, 0, none⟩), .pointer (some ⟨eb, 0, none⟩), .pointer (some ⟨b6, 0, none⟩), .pointer (some ⟨w9.heap.size, 0, none⟩)] wH := by
           simp [ev2, k1, a2, k3, addL, q3', k4, nilV, c5', k7, k8, build114z, aA, kB, cB', kD, kE, kH, cI']
          rw [he]
          exact hend
         | y6 :: ws6, hs, hl5, hcD, zI, cI =>
          simp only
          obtain ⟨N, hN⟩ : ∃ N, N = (y6 :: ws6).length := ⟨_, rfl⟩
          have hN1 : 0 < N := by rw [hN]; simp
          have hN1' : (0 : Int) < (N : Int) := by omega
          rw [← hN] at cI
          have cI' : wH.cell? ⟨rb, 0, none⟩ = some (.slice BD N ccD) := cI
          cases hp6 : nextE true (y6 :: ws6) e with
          | some p =>
           obtain ⟨a, z⟩ := p
           obtain ⟨b, wJ, kJ, zJ⟩ := next_bad zI hcD hl5 true hp6
           have zK := zJ.newBlk 114 (wc 0 [] false false)
           have aK := alloc114 wJ
           obtain ⟨wK, hwK⟩ : ∃ wK, wK = wJ.alloc (.cells (wc 0 [] false false).toArray 114) := ⟨_, rfl⟩
           rw [← hwK] at zK aK
           obtain ⟨wM, kM, zM⟩ := put_word zK rfl 0 [] false false
           refine .inr ⟨a, z, b, wM, rfl, by simp [ev2, k1, a2, k3, addL, q3', k4, nilV, c5', k7, k8, build114z, aA, kB, cB', kD, kE, kH, cI', hN1, hN1', kJ, aK, kM], ?_⟩
           exact ((zM.right).eq (by unfold cutS evB; ac_rfl : _ = blkA b 83 [.int .i64 a, .int .i64 z] * ((evB eb y3.s i o f [] * (blkA lb 30 [st t, .int .i64 r, v] * (rowA 51 5 v q.length (q.flatMap Ev.cs) * (blkA b6 114 (wc a1 s1 false false) * blkA w9.heap.size 114 (wc (y5.a : Int) y5.s false false))))) * X))).drop2
          | none =>
           simp only
           obtain ⟨BJ, ccJ, wJ, kJ, zJ, hcJ, _, _, h100⟩ := next_good zI hcD hl5 true hp6
           have zK := zJ.newBlk 114 (wc 0 [] false false)
           have aK := alloc114 wJ
           obtain ⟨wK, hwK⟩ : ∃ wK, wK = wJ.alloc (.cells (wc 0 [] false false).toArray 114) := ⟨_, rfl⟩
           rw [← hwK] at zK aK
           obtain ⟨wM, kM, zM⟩ := put_word zK rfl (y6.a : Int) y6.s true false
           have qM : wM.cell? ⟨wJ.heap.size, 1, none⟩ = some (st y6.s) := zM.cell 1 rfl
           have zN : Sat W (evB eb y3.s i o f [] * (rdrS rb BJ ccJ ws6 e (cutS lb t r v q (blkA b6 114 (wc a1 s1 false false) * (blkA w9.heap.size 114 (wc (y5.a : Int) y5.s false false) * X))))) wM := (zM.right).eq (by unfold rdrS evB cutS; ac_rfl)
           have kN := zN.blk.store (P := Zp) (t := 9) (j := 4) (v := st y6.s) inf9 size9 (by simp) rfl rfl
           have zO := zN.store 4 (st y6.s) (cs' := [st y3.s, .int .i64 i, .int .i64 o, .int .i64 f, st y6.s]) rfl
           obtain ⟨wO, hwO⟩ : ∃ wO, wO = wM.setCell ⟨eb, 4, none⟩ (st y6.s) := ⟨_, rfl⟩
           rw [← hwO] at kN zO
           have h100' := h100 rfl
           have hend := end_of L (ev := ⟨y3.s, i, o, f, y6.s⟩) (ws := ws6) (B := BJ) (cc := ccJ) (e := e) (rb := rb) hql (by
            intro ev hev
            rcases List.mem_append.mp hev with h | h
            ·exact hsq ev h
            ·simp only [List.mem_singleton] at h
             subst h
             exact ⟨by show y3.s.length ≤ _; omega, by show y6.s.length ≤ _; omega⟩) (by simp at hl5; omega) (zO.eq (by unfold rdrS cutS Ev.cs; ac_rfl))
           have he : ev2 C [.pointer (some ⟨rb, 0, none⟩), .pointer (some ⟨lb, 0, none⟩), .pointer (some ⟨eb, 0, none⟩), .pointer (some ⟨b6, 0, none⟩)] w = ev3 C [.pointer (some ⟨rb, 0, none⟩), .pointer (some ⟨lb, 0, none⟩), .pointer (some ⟨eb, 0, none⟩), .pointer (some ⟨b6, 0, none⟩), .pointer (some ⟨w9.heap.size, 0, none⟩)] wO := by
            simp [ev2, k1, a2, k3, addL, q3', k4, nilV, c5', k7, k8, build114z, aA, kB, cB', kD, kE, kH, cI', hN1, hN1', kJ, aK, kM, qM, kN]
           rw [he]
           exact hend
        ·rw [hnD]
         simp only
         have zE : Sat W (evB eb y3.s i 0 f [] * (blkA w9.heap.size 114 (wc 0 [] false false) * (blkA b 83 [.int .i64 (y5.a : Int), .int .i64 194] * cutS lb t r v q Y))) wD := zD.eq (by unfold evB cutS; ac_rfl)
         have kE := zE.blk.store (P := Zp) (t := 3) (j := 2) (v := .int .i64 0) inf3 size3 (by simp) rfl rfl
         have zF := zE.store 2 (.int .i64 0) (cs' := [st y3.s, .int .i64 i, .int .i64 0, .int .i64 f, st []]) rfl
         obtain ⟨wF, hwF⟩ : ∃ wF, wF = wD.setCell ⟨eb, 2, none⟩ (.int .i64 0) := ⟨_, rfl⟩
         rw [← hwF] at kE zF
         obtain ⟨wG, kG, zG⟩ := put_word (zF.right) rfl (y5.a : Int) y5.s false false
         refine .inr ⟨(y5.a : Int), 194, b, wG, rfl, by simp [ev2, k1, a2, k3, addL, q3', k4, nilV, c5', k7, k8, build114z, aA, kB, cB', kD, kE, kG], ?_⟩
         exact ((zG.right).eq (by rw [hY]; unfold cutS; ac_rfl : _ = blkA b 83 [.int .i64 (y5.a : Int), .int .i64 194] * ((blkA lb 30 [st t, .int .i64 r, v] * (rowA 51 5 v q.length (q.flatMap Ev.cs) * blkA b6 114 (wc a1 s1 false false))) * X))).drop2
     ·rw [hn7]
      simp only
      have z8 : Sat W (evB eb y3.s 0 0 f [] * (blkA b 83 [.int .i64 (y4.a : Int), .int .i64 194] * cutS lb t r v q Y)) w7 := z7.eq (by unfold evB cutS; ac_rfl)
      have k8 := z8.blk.store (P := Zp) (t := 3) (j := 1) (v := .int .i64 0) inf3 size3 (by simp) rfl rfl
      have z9 := z8.store 1 (.int .i64 0) (cs' := [st y3.s, .int .i64 0, .int .i64 0, .int .i64 f, st []]) rfl
      refine .inr ⟨(y4.a : Int), 194, b, _, rfl, by simp [ev2, k1, a2, k3, addL, q3', k4, nilV, c5', k7, k8]; rfl, ?_⟩
      exact ((z9.right).eq (by rw [hY]; unfold cutS; ac_rfl : _ = blkA b 83 [.int .i64 (y4.a : Int), .int .i64 194] * ((blkA lb 30 [st t, .int .i64 r, v] * (rowA 51 5 v q.length (q.flatMap Ev.cs) * blkA b6 114 (wc a1 s1 false false))) * X))).drop2
end
def isCutF (s : List UInt8) : Bool := decide (s = tCut) || decide (s = tFade)
def isFadeB (s : List UInt8) : Bool := decide (fadeNum s ≠ 0)
def headA (ws : List Wd) : Int := match ws with
 | [] => 0
 | y :: _ => (y.a : Int)
def evF (x : Int × Int × Int × Int) (t : List UInt8) (r : Int) (q : List Ev) (a1 e : Int) (ws : List Wd) : Except (Int × Int) Ev := match plainE isFadeB ws e with
 | some p => .error p
 | none => match ws with
  | [] => .error (0, 0)
  | y :: ws' => ev2R x t r q (fadeNum y.s : Nat) a1 e ws'
def evR (x : Int × Int × Int × Int) (t : List UInt8) (r : Int) (q : List Ev) (e : Int) (ws : List Wd) : Except (Int × Int) Ev :=
 if q.length = 200 then .error (headA ws, 196) else match plainE isCutF ws e with
  | some p => .error p
  | none => match ws with
   | [] => .error (0, 0)
   | y :: ws' => if y.s = tFade then evF x t r q (y.a : Int) e ws' else ev2R x t r q 0 (y.a : Int) e ws'
section
variable {W : World} {X : Asn W.heap.size}
theorem holds_fade (L : Lay W) (E : ErrVars W) : Holds W (.func (.func 65) #[] #[]) isFadeB := fun Y w s hs x => by
 obtain ⟨w', h, g⟩ := isFade_any (globOk_grown L.g (grown_of x)) (E.grown (grown_of x)) s (by omega)
 have h' : C 65 #[st s] w = some (.bool (isFadeB s), w') := h
 exact ⟨w', by simpa [callV] using h', x.grown g⟩
def EvRes (W : World) (X : Asn W.heap.size) (lb : Nat) (t : List UInt8) (r : Int) (q : List Ev) (res : Except (Int × Int) Ev) (out : Option (Value × World)) : Prop :=
 (∃ ev v' w', res = .ok ev ∧ ckCode t r (q ++ [ev]) = none ∧ out = some (.nilIface, w') ∧ Sat W (cutS lb t r v' (q ++ [ev]) X) w') ∨
 (∃ a z b w', res = .error (a, z) ∧ out = some (.iface 82 (.pointer (some ⟨b, 0, none⟩)), w') ∧ Sat W (blkA b 83 [.int .i64 a, .int .i64 z] * X) w')
theorem event_any {w : World} (L : Lay W) (E : ErrVars W) {rb lb : Nat} {B : Option Addr} {cc : Nat} {e r : Int} {t : List UInt8} {v : Value} {q : List Ev} {xr : Int × Int × Int × Int} (h1 : 1 ≤ r) (h7 : r ≤ 7) (hx : rates[r.toNat]? = some xr) (hql : q.length ≤ 200) (hsq : Short q) {ws : List Wd} (hne : ws ≠ []) (hs : ∀ y ∈ ws, y.s.length ≤ 30000) (hl : ws.length ≤ 30000) (hc : ws.length ≤ cc)
  (x : Sat W (rdrS rb B cc ws e (cutS lb t r v q X)) w) :
  EvRes W X lb t r q (evR xr t r q e ws) (C 28 #[.pointer (some ⟨rb, 0, none⟩), .pointer (some ⟨lb, 0, none⟩)] w) := by
 have xr0 : Sat W (rowA 51 5 v q.length (q.flatMap Ev.cs) * (blkA lb 30 [st t, .int .i64 r, v] * rdrS rb B cc ws e X)) w := x.eq (by unfold rdrS cutS; ac_rfl)
 obtain ⟨A, c, rfl, hcq, _⟩ := own_form xr0.row
 have xl : Sat W (blkA lb 30 [st t, .int .i64 r, .slice A q.length c] * (rowA 51 5 (.slice A q.length c) q.length (q.flatMap Ev.cs) * rdrS rb B cc ws e X)) w := xr0.eq (by ac_rfl)
 have c0 : w.cell? ⟨lb, 2, none⟩ = some (.slice A q.length c) := xl.cell 2 rfl
 unfold evR
 by_cases h200 : q.length = 200
 ·rw [if_pos h200]
  match ws, hne, hs, hl, hc, x with
  | y :: rest, _, hs, hl, hc, x =>
   have c1 := x.cell 0 rfl
   have xd : Sat W (rdP B (wcs (y :: rest)) * (blkA rb 64 [.slice B (y :: rest).length cc, .int .i64 e] * cutS lb t r (.slice A q.length c) q X)) w := x.eq (by unfold rdrS; ac_rfl)
   have hrd := Sat.rd xd
   obtain ⟨N, hN⟩ : ∃ N : Nat, N = (y :: rest).length := ⟨_, rfl⟩
   have hN1 : 1 ≤ N := by rw [hN]; simp
   rw [← hN] at c1
   cases B with
   | none =>
    have h0 : wcs (y :: rest) = [] := hrd
    rw [wcs_cons] at h0
    simp [wc] at h0
   | some ba =>
    have i0 := ix62 ba N cc .i64 0 (by omega) (by omega)
    simp only [Int.toNat_zero, Nat.zero_mul] at i0
    have l0 : w.cell? (ba.add 0) = some (.int .i64 (y.a : Int)) := hrd 0 _ (by rw [wcs_cons]; rfl)
    have l0' : w.cell? ba = some (.int .i64 (y.a : Int)) := by simpa using l0
    obtain ⟨b, w1, k1, z1⟩ := fault_ok x (y.a : Int) 196
    refine .inr ⟨(y.a : Int), 196, b, w1, rfl, f28.run rfl ?_, ?_⟩
    ·rw [f28.parts]
     have h200i : (q.length : Int) = 200 := by omega
     have c1' : w.cell? ⟨rb, 0, none⟩ = some (.slice (some ba) N cc) := c1
     simp [nilV, addL, c0, h200i, h200, c1', i0, l0, l0', k1]
    ·exact (z1.eq (by unfold rdrS cutS; ac_rfl : _ = blkA b 83 [.int .i64 (y.a : Int), .int .i64 196] * ((blkA rb 64 [.slice (some ba) (y :: rest).length cc, .int .i64 e] * (rdP (some ba) (wcs (y :: rest)) * (blkA lb 30 [st t, .int .i64 r, .slice A q.length c] * rowA 51 5 (.slice A q.length c) q.length (q.flatMap Ev.cs)))) * X))).drop2
 ·rw [if_neg h200]
  have h200i : ¬ (q.length : Int) = 200 := by omega
  have a0 := alloc51 w
  have x1 := x.newBlk 51 [st [], .int .i64 0, .int .i64 0, .int .i64 0, st []]
  obtain ⟨w1, hw1⟩ : ∃ w1, w1 = w.alloc (.cells #[st [], .int .i64 0, .int .i64 0, .int .i64 0, st []] 51) := ⟨_, rfl⟩
  have x1 : Sat W (evB w.heap.size [] 0 0 0 [] * rdrS rb B cc ws e (cutS lb t r (.slice A q.length c) q X)) w1 := hw1 ▸ x1
  rw [← hw1] at a0
  have x2 : Sat W (rdrS rb B cc ws e (evB w.heap.size [] 0 0 0 [] * cutS lb t r (.slice A q.length c) q X)) w1 := x1.eq (by unfold rdrS; ac_rfl)
  cases hp : plainE isCutF ws e with
  | some p =>
   obtain ⟨a, z⟩ := p
   obtain ⟨a9, s9, t9, d9, b, w3, k3, z3⟩ := plain_bad holds_cut hs x2 hc hl hp
   have z4 := z3.newBlk 114 (wc 0 [] false false)
   have a4 := alloc114 w3
   obtain ⟨w4, hw4⟩ : ∃ w4, w4 = w3.alloc (.cells (wc 0 [] false false).toArray 114) := ⟨_, rfl⟩
   rw [← hw4] at z4 a4
   obtain ⟨w5, k5, z5⟩ := put_word z4 rfl a9 s9 t9 d9
   refine .inr ⟨a, z, b, w5, rfl, f28.run rfl (by rw [f28.parts]; simp [nilV, addL, c0, h200i, a0, k3, a4, k5]), ?_⟩
   exact ((z5.right).eq (by unfold cutS evB; ac_rfl : _ = blkA b 83 [.int .i64 a, .int .i64 z] * ((evB w.heap.size [] 0 0 0 [] * (blkA lb 30 [st t, .int .i64 r, .slice A q.length c] * rowA 51 5 (.slice A q.length c) q.length (q.flatMap Ev.cs))) * X))).drop2
  | none =>
   match ws, hne, hs, hl, hc, x2, hp with
   | y1 :: ws1, _, hs, hl, hc, x2, hp =>
    simp only
    have hs1 := hs y1 (by simp)
    have hl1 : ws1.length ≤ 30000 := by simp at hl; omega
    obtain ⟨B3, cc3, w3, k3, z3, hc3, _⟩ := plain_good holds_cut hs1 x2 hc hl hp
    have z4 := z3.newBlk 114 (wc 0 [] false false)
    have a4 := alloc114 w3
    obtain ⟨w4, hw4⟩ : ∃ w4, w4 = w3.alloc (.cells (wc 0 [] false false).toArray 114) := ⟨_, rfl⟩
    rw [← hw4] at z4 a4
    obtain ⟨w5, k5, z5⟩ := put_word z4 rfl (y1.a : Int) y1.s false false
    have q5 : w5.cell? ⟨w3.heap.size, 1, none⟩ = some (st y1.s) := z5.cell 1 rfl
    have eq : ∀ a b, Pq Zp (do eqGuard .eql 9 a b (st y1.s) (.string ⟨#[102, 97, 100, 101]⟩); binOp .eql 9 (st y1.s) (.string ⟨#[102, 97, 100, 101]⟩)) = some (.bool (decide (y1.s = tFade))) := fun a b => str_eql (P := Zp) (t := 9) a b y1.s tFade
    obtain ⟨S1, hS1⟩ : ∃ S, S = st y1.s := ⟨_, rfl⟩
    by_cases hf : y1.s = tFade
    ·rw [if_pos hf]
     have hd : decide (y1.s = tFade) = true := by simp [hf]
     simp only [hd, ← hS1] at eq
     rw [← hS1] at q5
     have z6 : Sat W (rdrS rb B3 cc3 ws1 e (evB w.heap.size [] 0 0 0 [] * cutS lb t r (.slice A q.length c) q (blkA w3.heap.size 114 (wc (y1.a : Int) y1.s false false) * X))) w5 := z5.eq (by unfold rdrS cutS; ac_rfl)
     unfold evF
     cases hp2 : plainE isFadeB ws1 e with
     | some p =>
      obtain ⟨a, z⟩ := p
      obtain ⟨a9, s9, t9, d9, b, w7, k7, z7⟩ := plain_bad (holds_fade L E) (fun y hy => hs y (by simp [hy])) z6 hc3 hl1 hp2
      have z8 := z7.newBlk 114 (wc 0 [] false false)
      have a8 := alloc114 w7
      obtain ⟨w8, hw8⟩ : ∃ w8, w8 = w7.alloc (.cells (wc 0 [] false false).toArray 114) := ⟨_, rfl⟩
      rw [← hw8] at z8 a8
      obtain ⟨w9, k9, z9⟩ := put_word z8 rfl a9 s9 t9 d9
      refine .inr ⟨a, z, b, w9, rfl, f28.run rfl (by rw [f28.parts]; simp [nilV, addL, c0, h200i, a0, k3, a4, k5, q5, eq, k7, a8, k9]), ?_⟩
      exact ((z9.right).eq (by unfold cutS evB; ac_rfl : _ = blkA b 83 [.int .i64 a, .int .i64 z] * ((evB w.heap.size [] 0 0 0 [] * (blkA lb 30 [st t, .int .i64 r, .slice A q.length c] * (rowA 51 5 (.slice A q.length c) q.length (q.flatMap Ev.cs) * blkA w3.heap.size 114 (wc (y1.a : Int) y1.s false false)))) * X))).drop2
     | none =>
      match ws1, hs, hl1, hc3, z6, hp2 with
      | [], hs, hl1, hc3, z6, hp2 => simp [plainE, nextE] at hp2
      | y2 :: ws2, hs, hl1, hc3, z6, hp2 =>
       simp only
       have hs2 := hs y2 (by simp)
       have hl2 : ws2.length ≤ 30000 := by simp at hl1; omega
       obtain ⟨B7, cc7, w7, k7, z7, hc7, hfb⟩ := plain_good (holds_fade L E) hs2 z6 hc3 hl1 hp2
       have hfn : fadeNum y2.s ≠ 0 := by simpa [isFadeB] using hfb
       obtain ⟨f1, f2, f3⟩ := fadeNum_some hfn
       have z8 := z7.newBlk 114 (wc 0 [] false false)
       have a8 := alloc114 w7
       obtain ⟨w8, hw8⟩ : ∃ w8, w8 = w7.alloc (.cells (wc 0 [] false false).toArray 114) := ⟨_, rfl⟩
       rw [← hw8] at z8 a8
       obtain ⟨w9, k9, z9⟩ := put_word z8 rfl (y2.a : Int) y2.s false false
       have q9 : w9.cell? ⟨w7.heap.size, 1, none⟩ = some (st y2.s) := z9.cell 1 rfl
       obtain ⟨wA, kA, gA⟩ := atoi_dec (k := fadeNum y2.s) (by omega) w9
       rw [← f3] at kA
       obtain ⟨FN, hFN⟩ : ∃ FN : Int, FN = ((fadeNum y2.s : Nat) : Int) := ⟨_, rfl⟩
       rw [← hFN] at kA ⊢
       have zA : Sat W (evB w.heap.size [] 0 0 0 [] * (rdrS rb B7 cc7 ws2 e (cutS lb t r (.slice A q.length c) q (blkA w3.heap.size 114 (wc (y1.a : Int) y1.s false false) * X)))) wA := ((z9.grown gA).right).eq (by unfold rdrS cutS; ac_rfl)
       have kB := zA.blk.store (P := Zp) (t := 3) (j := 3) (v := .int .i64 FN) inf3 size3 (by simp) rfl rfl
       have zB := zA.store 3 (.int .i64 FN) (cs' := [st [], .int .i64 0, .int .i64 0, .int .i64 FN, st []]) rfl
       obtain ⟨wB, hwB⟩ : ∃ wB, wB = wA.setCell ⟨w.heap.size, 3, none⟩ (.int .i64 FN) := ⟨_, rfl⟩
       rw [← hwB] at kB zB
       have zC : Sat W (rdrS rb B7 cc7 ws2 e (evB w.heap.size [] 0 0 FN [] * cutS lb t r (.slice A q.length c) q (blkA w3.heap.size 114 (wc (y1.a : Int) y1.s false false) * X))) wB := zB.eq (by unfold rdrS evB cutS; ac_rfl)
       rcases ev2_any L h1 h7 hx (by omega) hsq (fun y hy => hs y (by simp [hy])) hl2 hc7 zC with ⟨ev, v', w', r1, r0, r2, r3⟩ | ⟨a, z, b, w', r1, r2, r3⟩
       ·exact .inl ⟨ev, v', w', r1, r0, f28.run rfl (by rw [f28.parts]; simp [nilV, addL, c0, h200i, a0, k3, a4, k5, q5, eq, k7, a8, k9, q9, kA, kB, r2]), r3⟩
       ·exact .inr ⟨a, z, b, w', r1, f28.run rfl (by rw [f28.parts]; simp [nilV, addL, c0, h200i, a0, k3, a4, k5, q5, eq, k7, a8, k9, q9, kA, kB, r2]), r3⟩
    ·rw [if_neg hf]
     have hd : decide (y1.s = tFade) = false := by simp [hf]
     simp only [hd, ← hS1] at eq
     rw [← hS1] at q5
     have z6 : Sat W (rdrS rb B3 cc3 ws1 e (evB w.heap.size [] 0 0 0 [] * cutS lb t r (.slice A q.length c) q (blkA w3.heap.size 114 (wc (y1.a : Int) y1.s false false) * X))) w5 := z5.eq (by unfold rdrS cutS; ac_rfl)
     rcases ev2_any L h1 h7 hx (by omega) hsq (fun y hy => hs y (by simp [hy])) hl1 hc3 z6 with ⟨ev, v', w', r1, r0, r2, r3⟩ | ⟨a, z, b, w', r1, r2, r3⟩
     ·exact .inl ⟨ev, v', w', r1, r0, f28.run rfl (by rw [f28.parts]; simp [nilV, addL, c0, h200i, a0, k3, a4, k5, q5, eq, r2]), r3⟩
     ·exact .inr ⟨a, z, b, w', r1, f28.run rfl (by rw [f28.parts]; simp [nilV, addL, c0, h200i, a0, k3, a4, k5, q5, eq, r2]), r3⟩
end
def listR (e : Int) (ws : List Wd) : Except (Int × Int) (List UInt8 × Int) := match plainE isList ws e with
 | some p => .error p
 | none => match plainE isRate ws.tail e with
  | some p => .error p
  | none => match nextE true ws.tail.tail e with
   | some p => .error p
   | none => match ws with
    | _ :: y2 :: y3 :: [] => .ok (y3.s, rateOf y2.s)
    | _ :: _ :: _ :: y4 :: _ => .error ((y4.a : Int), 193)
    | _ => .error (0, 0)
section
variable {W : World} {X : Asn W.heap.size}
theorem plainE_ne {f : List UInt8 → Bool} {ws : List Wd} {e : Int} (h : plainE f ws e = none) : ∃ y r, ws = y :: r := by
 cases ws with
 | nil => simp [plainE, nextE] at h
 | cons y r => exact ⟨y, r, rfl⟩
theorem list_any {w : World} {rb : Nat} {B : Option Addr} {cc : Nat} {e : Int} {ws : List Wd} (hs : ∀ y ∈ ws, y.s.length ≤ 30000) (hl : ws.length ≤ 30000) (hc : ws.length ≤ cc) (x : Sat W (rdrS rb B cc ws e X) w) :
  (∃ t r w', listR e ws = .ok (t, r) ∧ C 27 #[.pointer (some ⟨rb, 0, none⟩)] w = some (.tuple #[.agg #[st t, .int .i64 r, .slice none 0 0], .nilIface], w') ∧ Sat W X w') ∨
  (∃ a z b w' t r, listR e ws = .error (a, z) ∧ C 27 #[.pointer (some ⟨rb, 0, none⟩)] w = some (.tuple #[.agg #[st t, .int .i64 r, .slice none 0 0], .iface 82 (.pointer (some ⟨b, 0, none⟩))], w') ∧ Sat W (blkA b 83 [.int .i64 a, .int .i64 z] * X) w') := by
 have b0 : Pq Zp (Zb 30 #[]) = some (.agg #[st [], .int .i64 0, .slice none 0 0]) := id (by kernel_rfl)
 unfold listR
 have x1 := x.newBlk 30 [st [], .int .i64 0, .slice none 0 0]
 have a1 := alloc30 w
 obtain ⟨w1, hw1⟩ : ∃ w1, w1 = w.alloc (.cells [st [], .int .i64 0, .slice none 0 0].toArray 30) := ⟨_, rfl⟩
 rw [← hw1] at x1 a1
 have z1 : Sat W (rdrS rb B cc ws e (blkA w.heap.size 30 [st [], .int .i64 0, .slice none 0 0] * X)) w1 := x1.eq (by unfold rdrS; ac_rfl)
 cases h1 : plainE isList ws e with
 | some p =>
  right
  obtain ⟨a, z⟩ := p
  obtain ⟨a9, s9, t9, d9, b, w2, k2, z2⟩ := plain_bad holds_list hs z1 hc hl h1
  have x3 := z2.newBlk 114 (wc 0 [] false false)
  have a3 := alloc114 w2
  obtain ⟨w3, hw3⟩ : ∃ w3, w3 = w2.alloc (.cells (wc 0 [] false false).toArray 114) := ⟨_, rfl⟩
  rw [← hw3] at x3 a3
  obtain ⟨w4, k4, z4⟩ := put_word x3 rfl a9 s9 t9 d9
  have z5 : Sat W (blkA w.heap.size 30 [st [], .int .i64 0, .slice none 0 0] * (blkA b 83 [.int .i64 a, .int .i64 z] * X)) w4 := (z4.right).eq (by ac_rfl)
  obtain ⟨w6, k6, z6⟩ := put_blk z5 inf30 (v := .agg #[st [], .int .i64 0, .slice none 0 0]) (cs' := [st [], .int .i64 0, .slice none 0 0]) rfl (by rw [size30]; rfl) rfl (by simp [Value.oneCell'])
  have l6 := ld_cut z6
  have z5d : Sat W (blkA w.heap.size 30 [st [], .int .i64 0, .slice none 0 0] * (blkA b 83 [.int .i64 a, .int .i64 z] * X)) w4.drew := z5.drew
  refine ⟨a, z, b, w6, [], 0, rfl, f27.run rfl ?_, z6.right⟩
  simp [f27, a1, k2, a3, k4, b0, k6, l6]
 | none =>
  obtain ⟨y1, ws1, rfl⟩ := plainE_ne h1
  simp only [List.tail_cons]
  have hl1 : ws1.length ≤ 30000 := by simp at hl; omega
  obtain ⟨B2, cc2, w2, k2, z2, hc2, _⟩ := plain_good holds_list (hs y1 (by simp)) z1 hc hl h1
  have x3 := z2.newBlk 114 (wc 0 [] false false)
  have a3 := alloc114 w2
  obtain ⟨w3, hw3⟩ : ∃ w3, w3 = w2.alloc (.cells (wc 0 [] false false).toArray 114) := ⟨_, rfl⟩
  rw [← hw3] at x3 a3
  obtain ⟨w4, k4, z4⟩ := put_word x3 rfl (y1.a : Int) y1.s false false
  have z5 : Sat W (rdrS rb B2 cc2 ws1 e (blkA w.heap.size 30 [st [], .int .i64 0, .slice none 0 0] * X)) w4 := (z4.right).eq (by unfold rdrS; ac_rfl)
  cases h2 : plainE isRate ws1 e with
  | some p =>
   right
   obtain ⟨a, z⟩ := p
   obtain ⟨a9, s9, t9, d9, b, w6, k6, z6⟩ := plain_bad holds_rate (fun y hy => hs y (by simp [hy])) z5 hc2 hl1 h2
   have x7 := z6.newBlk 114 (wc 0 [] false false)
   have a7 := alloc114 w6
   obtain ⟨w7, hw7⟩ : ∃ w7, w7 = w6.alloc (.cells (wc 0 [] false false).toArray 114) := ⟨_, rfl⟩
   rw [← hw7] at x7 a7
   obtain ⟨w8, k8, z8⟩ := put_word x7 rfl a9 s9 t9 d9
   have z9 : Sat W (blkA w.heap.size 30 [st [], .int .i64 0, .slice none 0 0] * (blkA b 83 [.int .i64 a, .int .i64 z] * X)) w8 := (z8.right).eq (by ac_rfl)
   obtain ⟨wA, kA, zA⟩ := put_blk z9 inf30 (v := .agg #[st [], .int .i64 0, .slice none 0 0]) (cs' := [st [], .int .i64 0, .slice none 0 0]) rfl (by rw [size30]; rfl) rfl (by simp [Value.oneCell'])
   have lA := ld_cut zA
   refine ⟨a, z, b, wA, [], 0, rfl, f27.run rfl ?_, zA.right⟩
   simp [f27, a1, k2, a3, k4, k6, a7, k8, b0, kA, lA]
  | none =>
   obtain ⟨y2, ws2, rfl⟩ := plainE_ne h2
   simp only [List.tail_cons]
   have hl2 : ws2.length ≤ 30000 := by simp at hl1; omega
   obtain ⟨B6, cc6, w6, k6, z6, hc6, _⟩ := plain_good holds_rate (hs y2 (by simp)) z5 hc2 hl1 h2
   have x7 := z6.newBlk 114 (wc 0 [] false false)
   have a7 := alloc114 w6
   obtain ⟨w7, hw7⟩ : ∃ w7, w7 = w6.alloc (.cells (wc 0 [] false false).toArray 114) := ⟨_, rfl⟩
   rw [← hw7] at x7 a7
   obtain ⟨w8, k8, z8⟩ := put_word x7 rfl (y2.a : Int) y2.s false false
   have z9 : Sat W (rdrS rb B6 cc6 ws2 e (blkA w6.heap.size 114 (wc (y2.a : Int) y2.s false false) * (blkA w.heap.size 30 [st [], .int .i64 0, .slice none 0 0] * X))) w8 := z8.eq (by unfold rdrS; ac_rfl)
   cases h3 : nextE true ws2 e with
   | some p =>
    right
    obtain ⟨a, z⟩ := p
    obtain ⟨b, wA, kA, zA⟩ := next_bad z9 hc6 hl2 true h3
    have xB := zA.newBlk 114 (wc 0 [] false false)
    have aB := alloc114 wA
    obtain ⟨wB, hwB⟩ : ∃ wB, wB = wA.alloc (.cells (wc 0 [] false false).toArray 114) := ⟨_, rfl⟩
    rw [← hwB] at xB aB
    obtain ⟨wC, kC, zC⟩ := put_word xB rfl 0 [] false false
    have zD : Sat W (blkA w.heap.size 30 [st [], .int .i64 0, .slice none 0 0] * (blkA w6.heap.size 114 (wc (y2.a : Int) y2.s false false) * (blkA b 83 [.int .i64 a, .int .i64 z] * X))) wC := (zC.right).eq (by ac_rfl)
    obtain ⟨wE, kE, zE⟩ := put_blk zD inf30 (v := .agg #[st [], .int .i64 0, .slice none 0 0]) (cs' := [st [], .int .i64 0, .slice none 0 0]) rfl (by rw [size30]; rfl) rfl (by simp [Value.oneCell'])
    have lE := ld_cut zE
    refine ⟨a, z, b, wE, [], 0, rfl, f27.run rfl ?_, zE.right.right⟩
    simp [f27, a1, k2, a3, k4, k6, a7, k8, kA, aB, kC, b0, kE, lE]
   | none =>
    cases ws2 with
    | nil => simp [nextE] at h3
    | cons y3 ws3 =>
     have hl3 : ws3.length ≤ 30000 := by simp at hl2; omega
     obtain ⟨BA, ccA, wA, kA, zA, hcA, _, _, _⟩ := next_good z9 hc6 hl2 true h3
     have xB := zA.newBlk 114 (wc 0 [] false false)
     have aB := alloc114 wA
     obtain ⟨wB, hwB⟩ : ∃ wB, wB = wA.alloc (.cells (wc 0 [] false false).toArray 114) := ⟨_, rfl⟩
     rw [← hwB] at xB aB
     obtain ⟨wC, kC, zC⟩ := put_word xB rfl (y3.a : Int) y3.s true false
     have q1' : wC.cell? ⟨wA.heap.size, 1, none⟩ = some (st y3.s) := zC.drew.cell 1 rfl
     have zD : Sat W (blkA w6.heap.size 114 (wc (y2.a : Int) y2.s false false) * (rdrS rb BA ccA ws3 e (blkA wA.heap.size 114 (wc (y3.a : Int) y3.s true false) * (blkA w.heap.size 30 [st [], .int .i64 0, .slice none 0 0] * X)))) wC.drew := zC.drew.eq (by unfold rdrS; ac_rfl)
     have q2' : wC.cell? ⟨w6.heap.size, 1, none⟩ = some (st y2.s) := zD.cell 1 rfl
     have ro := rateOf_ok y2.s wC.drew
     have bt := build30t y3.s (rateOf y2.s)
     have zE : Sat W (rdrS rb BA ccA ws3 e (blkA wA.heap.size 114 (wc (y3.a : Int) y3.s true false) * (blkA w6.heap.size 114 (wc (y2.a : Int) y2.s false false) * (blkA w.heap.size 30 [st [], .int .i64 0, .slice none 0 0] * X)))) wC.drew := zD.eq (by unfold rdrS; ac_rfl)
     cases ws3 with
     | nil =>
      left
      have dn := done_nil zE
      have zF : Sat W (blkA w.heap.size 30 [st [], .int .i64 0, .slice none 0 0] * ((blkA rb 64 [.slice BA ([] : List Wd).length ccA, .int .i64 e] * (rdP BA (wcs []) * (blkA w6.heap.size 114 (wc (y2.a : Int) y2.s false false) * blkA wA.heap.size 114 (wc (y3.a : Int) y3.s true false)))) * X)) wC.drew := zE.eq (by unfold rdrS; ac_rfl)
      obtain ⟨wG, kG, zG⟩ := put_blk zF inf30 (v := .agg #[st y3.s, .int .i64 (rateOf y2.s), .slice none 0 0]) (cs' := [st y3.s, .int .i64 (rateOf y2.s), .slice none 0 0]) rfl (by rw [size30]; rfl) rfl (by simp [Value.oneCell'])
      have lG := ld_cut zG
      refine ⟨y3.s, rateOf y2.s, wG, rfl, f27.run rfl ?_, zG.right.right⟩
      simp [f27, a1, k2, a3, k4, k6, a7, k8, kA, aB, kC, addL, q1', q2', ro, bt, dn, kG, lG, chkThen]
     | cons y4 ws4 =>
      right
      obtain ⟨b, wF, kF, zF⟩ := done_more zE hl3
      have q1F : wF.cell? ⟨wA.heap.size, 1, none⟩ = some (st y3.s) := (zF.eq (by ac_rfl : _ = blkA wA.heap.size 114 (wc (y3.a : Int) y3.s true false) * (blkA b 83 [.int .i64 (y4.a : Int), .int .i64 193] * (blkA w6.heap.size 114 (wc (y2.a : Int) y2.s false false) * (blkA w.heap.size 30 [st [], .int .i64 0, .slice none 0 0] * X))))).cell 1 rfl
      have q2F : wF.cell? ⟨w6.heap.size, 1, none⟩ = some (st y2.s) := (zF.eq (by ac_rfl : _ = blkA w6.heap.size 114 (wc (y2.a : Int) y2.s false false) * (blkA b 83 [.int .i64 (y4.a : Int), .int .i64 193] * (blkA wA.heap.size 114 (wc (y3.a : Int) y3.s true false) * (blkA w.heap.size 30 [st [], .int .i64 0, .slice none 0 0] * X))))).cell 1 rfl
      have zG : Sat W (blkA w.heap.size 30 [st [], .int .i64 0, .slice none 0 0] * ((blkA wA.heap.size 114 (wc (y3.a : Int) y3.s true false) * blkA w6.heap.size 114 (wc (y2.a : Int) y2.s false false)) * (blkA b 83 [.int .i64 (y4.a : Int), .int .i64 193] * X))) wF := zF.eq (by ac_rfl)
      obtain ⟨wH, kH, zH⟩ := put_blk zG inf30 (v := .agg #[st y3.s, .int .i64 (rateOf y2.s), .slice none 0 0]) (cs' := [st y3.s, .int .i64 (rateOf y2.s), .slice none 0 0]) rfl (by rw [size30]; rfl) rfl (by simp [Value.oneCell'])
      have lH := ld_cut zH
      refine ⟨(y4.a : Int), 193, b, wH, y3.s, rateOf y2.s, rfl, f27.run rfl ?_, zH.right.right⟩
      simp [f27, a1, k2, a3, k4, k6, a7, k8, kA, aB, kC, addL, q1', q2', ro, bt, kF, q1F, q2F, kH, lH, chkThen]
end
theorem vs_sign {c : UInt8} {r : List UInt8} (hv : vs 0 (c :: r) = true) : vs 0 ((c :: r).take (wid c)) = true := by
 obtain ⟨R, e1, e2, e3, e4, e5, e6, e7, e8, e9⟩ := sign_at hv
 by_cases hc : c.toNat < 128
 ·have : wid c = 1 := by simp [wid, hc]
  rw [this, List.take_succ_cons, List.take_zero, vs_byte _ hc]
  rfl
 ·obtain ⟨m, hm⟩ : ∃ m, wid c = m + 1 := ⟨wid c - 1, by omega⟩
  have hc' : 128 ≤ c.toNat := by omega
  have hwc : wid c = (lead c).2.1 := by simp [wid, hc]
  rw [hm, List.take_succ_cons, vs_lead _ hc']
  rw [vs_lead r hc'] at hv
  simp only [Bool.and_eq_true] at hv
  have hl := so_len hv.1
  have hlen : (r.take m).length = m := by rw [List.length_take]; omega
  have hs : signOk (lead c) (r.take m) = true := by
   have hk := hv.1
   unfold signOk at hk ⊢
   have hn1 : (lead c).2.1 = m + 1 := by rw [← hwc, hm]
   rw [hn1] at hk hl ⊢
   rcases hl with ⟨h1, h2⟩ | ⟨h1, h2⟩ | ⟨h1, h2⟩
   ·obtain rfl : m = 1 := by omega
    obtain ⟨a, t, rfl, _⟩ := so2 hk
    exact hk
   ·obtain rfl : m = 2 := by omega
    obtain ⟨a, b, t, rfl, _⟩ := so3 hk
    exact hk
   ·obtain rfl : m = 3 := by omega
    obtain ⟨a, b, d, t, rfl, _⟩ := so4 hk
    exact hk
  rw [hs, Bool.true_and, List.drop_eq_nil_of_le (by omega)]
  rfl
theorem vs_cut : ∀ (n : Nat) (l : List UInt8) (i : Nat) (b : UInt8), l.length ≤ n → vs 0 l = true → l[i]? = some b → b.toNat < 128 → vs 0 (l.take i) = true
 | _, [], i, b, _, _, h, _ => by simp at h
 | 0, c :: r, i, b, hn, _, _, _ => by simp at hn
 | n + 1, c :: r, i, b, hn, hv, h, hb => by
  obtain ⟨R, e1, e2, e3, e4, e5, e6, e7, e8, e9⟩ := sign_at hv
  by_cases hi : i = 0
  ·subst hi
   rfl
  by_cases hlt : i < wid c
  ·exfalso
   by_cases hc : c.toNat < 128
   ·have : wid c = 1 := by simp [wid, hc]
    omega
   ·have hm : b ∈ (c :: r).take (wid c) := by
     rw [List.mem_iff_getElem?]
     exact ⟨i, by rw [List.getElem?_take, if_pos hlt]; exact h⟩
    rw [← e2] at hm
    have := enc_all (e6 (by omega)) e3 b hm
    omega
  ·have ih := vs_cut n ((c :: r).drop (wid c)) (i - wid c) b (by rw [Ye]; simp at hn ⊢; omega) e9 (by rw [List.getElem?_drop, show wid c + (i - wid c) = i by omega]; exact h) hb
   have e : (c :: r).take i = (c :: r).take (wid c) ++ ((c :: r).drop (wid c)).take (i - wid c) := by rw [← List.take_add, show wid c + (i - wid c) = i by omega]
   rw [e]
   exact vs_app (vs_sign hv) ih
theorem qt_len : ∀ (l : List UInt8) (k : Nat) (tu b : Bool) (o : List UInt8) (p : Nat) (o' : List UInt8) (b' : Bool) (p' : Nat), qt k l tu b o p = some (o', b', p') → o'.length + (p + k) ≤ o.length + p'
 | [], k, tu, b, o, p, o', b', p', h => by cases k <;> simp [qt] at h
 | c :: r, k + 1, tu, b, o, p, o', b', p', h => by
  rw [qt] at h
  have := qt_len r k tu b o (p + 1) o' b' p' h
  omega
 | c :: r, 0, true, b, o, p, o', b', p', h => by
  rw [qt] at h
  split at h
  ·have := qt_len r 0 _ _ _ _ _ _ _ h
   simp at this
   omega
  ·split at h
   ·have := qt_len r 0 _ _ _ _ _ _ _ h
    simp at this
    omega
   ·have := qt_len r _ _ _ _ _ _ _ _ h
    omega
 | c :: r, 0, false, b, o, p, o', b', p', h => by
  rw [qt] at h
  split at h
  ·have := qt_len r 0 _ _ _ _ _ _ _ h
   omega
  ·split at h
   ·cases h
    omega
   ·have := qt_len r _ _ _ _ _ _ _ _ h
    have h2 : ((c :: r).take (wid c)).length ≤ wid c := by rw [List.length_take]; omega
    rw [Ya] at this
    omega
theorem qt_valid : ∀ (n : Nat) (l : List UInt8) (tu b : Bool) (o : List UInt8) (p : Nat) (o' : List UInt8) (b' : Bool) (p' : Nat), l.length ≤ n → vs 0 l = true → vs 0 o = true → qt 0 l tu b o p = some (o', b', p') → vs 0 o' = true
 | _, [], tu, b, o, p, o', b', p', _, _, _, h => by simp [qt] at h
 | 0, c :: r, tu, b, o, p, o', b', p', hn, _, _, _ => by simp at hn
 | n + 1, c :: r, tu, b, o, p, o', b', p', hn, hv, ho, h => by
  obtain ⟨R, e1, e2, e3, e4, e5, e6, e7, e8, e9⟩ := sign_at hv
  obtain ⟨m, hm⟩ : ∃ m, wid c = m + 1 := ⟨wid c - 1, by omega⟩
  have step : ∀ tu b o, vs 0 o = true → qt (wid c - 1) r tu b o (p + 1) = some (o', b', p') → vs 0 o' = true := by
   intro tu b o ho h
   rw [qt_drop] at h
   have hd : (c :: r).drop (wid c) = r.drop (wid c - 1) := by rw [hm, List.drop_succ_cons, Nat.add_sub_cancel]
   rw [hd] at e9
   exact qt_valid n (r.drop (wid c - 1)) tu b o _ o' b' p' (by simp at hn ⊢; omega) e9 ho h
  have asc : ∀ k : UInt8, k.toNat < 128 → c = k → wid c = 1 := fun k hk e => by simp [wid, e, hk]
  cases tu with
  | true =>
   rw [qt] at h
   split at h
   ·rename_i hc
    have hw : wid c = 1 := by rcases hc with e | e; exact asc 34 (by decide) e; exact asc 92 (by decide) e
    exact step _ _ _ (vs_app ho (vs_asc0 (l := [c]) (by intro b hb; simp only [List.mem_singleton] at hb; subst hb; rcases hc with e | e <;> rw [e] <;> decide))) (by rw [hw]; exact h)
   ·split at h
    ·rename_i hc
     have hw : wid c = 1 := asc 110 (by decide) hc
     exact step _ _ _ (vs_app ho (vs_asc0 (l := [10]) (by intro b hb; simp only [List.mem_singleton] at hb; subst hb; decide))) (by rw [hw]; exact h)
    ·exact step _ _ _ ho h
  | false =>
   rw [qt] at h
   split at h
   ·rename_i hc
    have hw : wid c = 1 := asc 92 (by decide) hc
    exact step _ _ _ ho (by rw [hw]; exact h)
   ·split at h
    ·cases h
     exact ho
    ·exact step _ _ _ (vs_app ho (vs_sign hv)) h
structure WdOk (m : Nat) (x : Wd) : Prop where
 len : x.s.length ≤ m
 val : x.t = true → vs 0 x.s = true
theorem txt_len (r : List UInt8) : (txt r).1.length ≤ r.length := by
 unfold txt
 cases h : qt 0 r false false [] 0 with
 | none => simp
 | some y =>
  obtain ⟨o, b, p⟩ := y
  have h1 := qt_len r 0 false false [] 0 o b p h
  have h2 : p < r.length + 1 := by
   have key : ∀ (l : List UInt8) (k : Nat) (tu b : Bool) (o : List UInt8) (p : Nat) (o' : List UInt8) (b' : Bool) (p' : Nat), qt k l tu b o p = some (o', b', p') → p' < p + l.length := by
    intro l
    induction l with
    | nil => intro k tu b o p o' b' p' h; cases k <;> simp [qt] at h
    | cons c r ih =>
     intro k tu b o p o' b' p' h
     simp only [Yc]
     cases k with
     | succ k => rw [qt] at h; have := ih _ _ _ _ _ _ _ _ h; omega
     | zero =>
      cases tu with
      | true =>
       rw [qt] at h
       split at h
       ·have := ih _ _ _ _ _ _ _ _ h; omega
       ·split at h
        ·have := ih _ _ _ _ _ _ _ _ h; omega
        ·have := ih _ _ _ _ _ _ _ _ h; omega
      | false =>
       rw [qt] at h
       split at h
       ·have := ih _ _ _ _ _ _ _ _ h; omega
       ·split at h
        ·cases h; omega
        ·have := ih _ _ _ _ _ _ _ _ h; omega
   have := key r 0 false false [] 0 o b p h
   omega
  simp at h1
  simp only
  omega
theorem txt_valid {r : List UInt8} (hv : vs 0 r = true) : vs 0 (txt r).1 = true := by
 unfold txt
 cases h : qt 0 r false false [] 0 with
 | none => rfl
 | some y =>
  obtain ⟨o, b, p⟩ := y
  exact qt_valid r.length r false false [] 0 o b p (Nat.le_refl _) hv rfl h
theorem wds_ok : ∀ (n p : Nat) (l : List UInt8) (acc : List Wd) (m : Nat), l.length ≤ m → vs 0 l = true → (∀ x ∈ acc, WdOk m x) → (∀ x ∈ (wds n p l acc).1, WdOk m x) ∧ (wds n p l acc).1.length ≤ acc.length + l.length
 | 0, p, l, acc, m, _, _, h => ⟨h, by simp [wds]⟩
 | n + 1, p, [], acc, m, _, _, h => ⟨h, by simp [wds]⟩
 | n + 1, p, c :: r, acc, m, hm, hv, h => by
  rw [wds]
  by_cases hb : isB c = true
  ·rw [if_pos hb]
   obtain ⟨h1, h2⟩ := wds_ok n (p + 1) r acc m (by simp at hm; omega) (by rw [vs_byte r (isB_low hb)] at hv; exact hv) h
   exact ⟨h1, by simp only [Yc]; omega⟩
  ·rw [if_neg hb]
   by_cases h35 : c = 35
   ·rw [if_pos h35]
    exact ⟨h, by simp⟩
   ·rw [if_neg h35]
    by_cases h34 : c = 34
    ·rw [if_pos h34]
     subst h34
     have hv2 : vs 0 r = true := by rw [vs_byte r (by decide)] at hv; exact hv
     obtain ⟨t1, t2, t3⟩ := txt_ok hv2
     have tl := txt_len r
     simp only [Yc] at hm
     obtain ⟨h1, h2⟩ := wds_ok n (p + (txt r).2.2) ((34 :: r).drop (txt r).2.2) (acc ++ [⟨p, (txt r).1, true, (txt r).2.1⟩]) m (by rw [Ye, Yc]; omega) t3 (fun x hx => by
      rcases List.mem_append.mp hx with hx | hx
      ·exact h x hx
      ·simp only [List.mem_singleton] at hx
       subst hx
       exact ⟨by show (txt r).1.length ≤ m; omega, fun _ => txt_valid hv2⟩)
     refine ⟨h1, ?_⟩
     simp only [Ya, Ye, Yc, List.length_nil] at h2
     simp only [Yc]
     omega
    ·rw [if_neg h34]
     obtain ⟨k1, k2⟩ := plain_pos (r := r) (c := c) (by simpa using hb)
     have hvp := vs_plain hv
     simp only [Yc] at hm k2
     obtain ⟨h1, h2⟩ := wds_ok n (p + plainN (c :: r)) ((c :: r).drop (plainN (c :: r))) (acc ++ [⟨p, (c :: r).take (plainN (c :: r)), false, false⟩]) m (by rw [Ye, Yc]; omega) hvp (fun x hx => by
      rcases List.mem_append.mp hx with hx | hx
      ·exact h x hx
      ·simp only [List.mem_singleton] at hx
       subst hx
       exact ⟨by show ((c :: r).take (plainN (c :: r))).length ≤ m; rw [List.length_take, Yc]; omega, fun h => by cases h⟩)
     refine ⟨h1, ?_⟩
     simp only [Ya, Ye, Yc, List.length_nil] at h2
     simp only [Yc]
     omega
theorem words_in {l : List UInt8} (hv : vs 0 l = true) (p : Nat) : (∀ x ∈ (words p l).1, WdOk l.length x) ∧ (words p l).1.length ≤ l.length := by
 have := wds_ok (l.length + 1) p l [] l.length (Nat.le_refl _) hv (by simp)
 simpa [words] using this
def lineOf (l : List UInt8) : List UInt8 := l.takeWhile fun c => decide (c ≠ 10)
theorem lineOf_no : ∀ (l : List UInt8), ∀ c ∈ lineOf l, c ≠ 10
 | [], c, hc => by simp [lineOf] at hc
 | d :: l, c, hc => by
  unfold lineOf at hc
  rw [List.takeWhile_cons] at hc
  split at hc
  ·rename_i h
   rcases List.mem_cons.mp hc with rfl | hc
   ·simpa using h
   ·exact lineOf_no l c hc
  ·simp at hc
theorem lineOf_cut : ∀ (l : List UInt8), (lineOf l = l) ∨ ∃ r, l = lineOf l ++ 10 :: r
 | [] => .inl rfl
 | c :: l => by
  by_cases h : c = 10
  ·right
   exact ⟨l, by subst h; simp [lineOf]⟩
  ·rcases lineOf_cut l with h1 | ⟨r, h1⟩
   ·left
    unfold lineOf at h1 ⊢
    rw [List.takeWhile_cons, if_pos (by simp [h]), h1]
   ·right
    refine ⟨r, ?_⟩
    unfold lineOf at h1 ⊢
    rw [List.takeWhile_cons, if_pos (by simp [h]), List.cons_append, ← h1]
theorem lineOf_valid {l : List UInt8} (hv : vs 0 l = true) : vs 0 (lineOf l) = true ∧ vs 0 (l.drop ((lineOf l).length + 1)) = true := by
 rcases lineOf_cut l with h | ⟨r, h⟩
 ·rw [h]
  exact ⟨hv, by rw [List.drop_eq_nil_of_le (by omega)]; rfl⟩
 ·obtain ⟨L, hL⟩ : ∃ L, L = lineOf l := ⟨_, rfl⟩
  rw [← hL] at h ⊢
  have hi : l[L.length]? = some 10 := by
   rw [h, List.getElem?_append_right (Nat.le_refl _), Nat.sub_self]
   rfl
  have h1 := vs_cut l.length l _ 10 (Nat.le_refl _) hv hi (by decide)
  have h2 := vs_low l.length l _ 10 (Nat.le_refl _) hv hi (by decide)
  have e1 : l.take L.length = L := by rw [h]; exact List.take_left' rfl
  have e2 : l.drop L.length = 10 :: r := by rw [h]; exact List.drop_left' rfl
  rw [e1] at h1
  rw [e2, vs_byte _ (by decide)] at h2
  refine ⟨h1, ?_⟩
  have e3 : l.drop (L.length + 1) = r := by rw [← Yd, e2]; rfl
  rw [e3]
  exact h2
noncomputable def pa2 (call : CallF) (vs_2 : List Value) (W3 : World) : Option Res :=
  let s0_3 := nth vs_2 0
  let v2_2 := nth vs_2 1
  let l5_2 := nth vs_2 2
  let begun6_2 := nth vs_2 3
  let at7_2 := nth vs_2 4
  let err10 := nth vs_2 5
  (rrun Zp (do eqGuard .neq 32 (Ot 70) (Oc Vn) err10 Vn; binOp .neq 32 err10 Vn) W3).bind fun v71 =>
  (asB v71).bind fun c71 =>
  if c71 then
   (Pq Zp (Zb 30 #[])).bind fun v72 =>
   (erun Zp (Zs 30 v2_2 v72) W3).bind fun r_5 =>
   some (Xr [v2_2, err10] r_5.2)
  else
  some (Xn [s0_3, v2_2, l5_2, begun6_2, at7_2] W3)
noncomputable def pa1 (call : CallF) (vs_1 : List Value) (W2 : World) : Option Res :=
  let s0_2 := nth vs_1 0
  let v2_1 := nth vs_1 1
  let l5_1 := nth vs_1 2
  let begun6_1 := nth vs_1 3
  let at7_1 := nth vs_1 4
  let to8 := nth vs_1 5
  (Pq Zp (Zb 64 #[])).bind fun v38 =>
  (erun Zp (Zo 64 v38) W2).bind fun r39 =>
  (call 26 #[s0_2, at7_1, to8] r39.2).bind fun r46 =>
  (Pq Zp (Zx r46.1 0)).bind fun v47 =>
  (Pq Zp (Zx r46.1 1)).bind fun v48 =>
  (nilV Zp r39.1).bind fun v49 =>
  (Pq Zp (Zf 64 v49 0)).bind fun v50 =>
  (erun Zp (Zs 62 v50 v47) r46.2).bind fun r_2 =>
  (nilV Zp r39.1).bind fun v51 =>
  (Pq Zp (Zf 64 v51 1)).bind fun v52 =>
  (erun Zp (Zs 3 v52 v48) r_2.2).bind fun r_3 =>
  (bin .add to8 (Vi Ki 1)).bind fun v54 =>
  (nilV Zp r39.1).bind fun v56 =>
  (Pq Zp (Zf 64 v56 0)).bind fun v57 =>
  (rrun Zp (Zl 62 v57) r_3.2).bind fun v58 =>
  (Pq Zp (Yl #[62] 3 #[v58])).bind fun v59 =>
  (bin .eql v59 (Vi Ki 0)).bind fun v60 =>
  (asB v60).bind fun c60 =>
  if c60 then
   some (Xx 1 [s0_2, v2_1, l5_1, begun6_1, v54] r_3.2)
  else
  (Pq Zp (Op.unary .not begun6_1)).bind fun v62 =>
  (asB v62).bind fun c62 =>
  (if c62 then
   (call 27 #[r39.1] r_3.2).bind fun r65 =>
   (Pq Zp (Zx r65.1 0)).bind fun v66 =>
   (Pq Zp (Zx r65.1 1)).bind fun v67 =>
   (erun Zp (Zs 30 l5_1 v66) r65.2).bind fun r_4 =>
   some (Xn [s0_2, v2_1, l5_1, (Vb true), v54, v67] r_4.2)
   else
   (call 28 #[r39.1, l5_1] r_3.2).bind fun r69 =>
   some (Xn [s0_2, v2_1, l5_1, begun6_1, v54, r69.1] r69.2)).bind fun (r : Res) => r.cont (pa2 call)
theorem f9.l0.parts (call : CallF) (vs : List Value) (W1 : World) : f9.l0 call vs W1 =
 let s0_1 := nth vs 0
 let v2 := nth vs 1
 let l5 := nth vs 2
 let begun6 := nth vs 3
 let at7 := nth vs 4
 (Pq Zp (Yl #[9] 3 #[s0_1])).bind fun v25 =>
 (bin .lss at7 v25).bind fun v26 =>
 (asB v26).bind fun c26 =>
 if c26 then
  ((Pq Zp (Instr.sliceAt 9 s0_1 (some at7) none none)).bind fun v30 =>
  (call 25 #[v30, (Vi Ku 10)] W1).bind fun r31 =>
  (bin .add at7 r31.1).bind fun v32 =>
  (bin .lss v32 at7).bind fun v35 =>
  (asB v35).bind fun c35 =>
  (if c35 then
   (Pq Zp (Yl #[9] 3 #[s0_1])).bind fun v37 =>
   some (Xn [s0_1, v2, l5, begun6, at7, v37] r31.2)
   else
   some (Xn [s0_1, v2, l5, begun6, at7, v32] r31.2)).bind fun (r : Res) => r.cont (pa1 call)).bind fun (r : Res) => (r.unblock 1).cont fun vs_3 W4 =>
  let s0_4 := nth vs_3 0
  let v2_3 := nth vs_3 1
  let l5_3 := nth vs_3 2
  let begun6_3 := nth vs_3 3
  let at7_3 := nth vs_3 4
  some (Xn [s0_4, v2_3, l5_3, begun6_3, at7_3] W4)
 else
 some (Xx 0 [s0_1, v2, l5, begun6] W1) := rfl
def xrOf (r : Int) : Int × Int × Int × Int := (rates[r.toNat]?).getD (0, 0, 0, 0)
theorem xrOf_ok {r : Int} (h1 : 1 ≤ r) (h7 : r ≤ 7) : rates[r.toNat]? = some (xrOf r) := by
 obtain ⟨x, hx, _⟩ := rate_of h1 h7
 unfold xrOf
 rw [hx]
 rfl
abbrev Cut := List UInt8 × Int × List Ev
def stepR (e : Int) (ws : List Wd) (s : Option Cut) : Except (Int × Int) Cut := match s with
 | none => match listR e ws with
  | .error p => .error p
  | .ok (t, r) => .ok (t, r, [])
 | some (t, r, q) => match evR (xrOf r) t r q e ws with
  | .error p => .error p
  | .ok ev => .ok (t, r, q ++ [ev])
theorem rateOf_in (s : List UInt8) : 0 ≤ rateOf s ∧ rateOf s ≤ 7 := by
 unfold rateOf
 repeat' split
 all_goals omega
theorem listR_fine {e : Int} {ws : List Wd} {t : List UInt8} {r : Int} {m : Nat} (hw : ∀ y ∈ ws, WdOk m y) (h : listR e ws = .ok (t, r)) : Fine t r [] := by
 unfold listR at h
 split at h
 ·cases h
 rename_i h1
 split at h
 ·cases h
 rename_i h2
 split at h
 ·cases h
 rename_i h3
 split at h
 ·rename_i y1 y2 y3
  simp only [Except.ok.injEq, Prod.mk.injEq] at h
  obtain ⟨rfl, rfl⟩ := h
  simp only [List.tail_cons] at h2 h3
  rw [nextE] at h3
  split at h3
  ·cases h3
  rename_i hb
  split at h3
  ·cases h3
  rename_i hlong
  have ht : y3.t = true := by cases hh : y3.t <;> simp_all
  have hl : y3.s.length ≤ 100 := by
   by_cases h4 : 100 < y3.s.length
   ·exact absurd ⟨rfl, h4⟩ hlong
   ·omega
  have hr0 : rateOf y2.s ≠ 0 := by
   unfold plainE at h2
   split at h2
   ·cases h2
   ·split at h2
    ·rename_i hq
     cases hq
    ·rename_i z l hq
     obtain ⟨rfl, rfl⟩ := List.cons.inj hq
     split at h2
     ·cases h2
     ·rename_i hf
      simpa [isRate] using hf
  have hr := rateOf_in y2.s
  exact ⟨hl, (hw y3 (by simp)).val ht, by omega, hr.2, by simp, by simp⟩
 ·cases h
 ·cases h
section
variable {W : World} {X : Asn W.heap.size}
abbrev zcs : List Value := [st [], .int .i64 0, .slice none 0 0]
def PSt (W : World) (X : Asn W.heap.size) (lb rb : Nat) (s : Option Cut) (w : World) : Prop := match s with
 | none => Sat W (blkA lb 30 zcs * (blkA rb 30 zcs * X)) w
 | some (t, r, q) => Fine t r q ∧ ∃ v, Sat W (cutS lb t r v q (blkA rb 30 zcs * X)) w
theorem PSt.inner {lb rb : Nat} {s : Option Cut} {w : World} (h : PSt W X lb rb s w) : ∃ Y : Asn W.heap.size, Sat W (Y * (blkA rb 30 zcs * X)) w ∧ (∀ w', Sat W (Y * (blkA rb 30 zcs * X)) w' → PSt W X lb rb s w') := by
 match s, h with
 | none, h => exact ⟨_, h, fun _ h => h⟩
 | some (t, r, q), ⟨hF, v, h⟩ => exact ⟨blkA lb 30 [st t, .int .i64 r, v] * rowA 51 5 v q.length (q.flatMap Ev.cs), h.eq (by unfold cutS; ac_rfl), fun w' h' => ⟨hF, v, h'.eq (by unfold cutS; ac_rfl)⟩⟩
theorem pa1_any {w : World} (L : Lay W) (E : ErrVars W) {lb rb : Nat} {s : List UInt8} {at_ to : Nat} {sd : Option Cut} (hs : s.length ≤ 20000) (hat : at_ ≤ to) (hto : to ≤ s.length) (hv : vs 0 ((s.drop at_).take (to - at_)) = true) (x : PSt W X lb rb sd w) :
  (((words at_ ((s.drop at_).take (to - at_))).1 = [] ∧ ∃ w', pa1 C [st s, .pointer (some ⟨rb, 0, none⟩), .pointer (some ⟨lb, 0, none⟩), .bool sd.isSome, .int .i64 (at_ : Int), .int .i64 (to : Int)] w = some (.exit 1 [st s, .pointer (some ⟨rb, 0, none⟩), .pointer (some ⟨lb, 0, none⟩), .bool sd.isSome, .int .i64 ((to + 1 : Nat) : Int)] w') ∧ PSt W X lb rb sd w') ∨
  ((words at_ ((s.drop at_).take (to - at_))).1 ≠ [] ∧ ∃ c w', stepR ((words at_ ((s.drop at_).take (to - at_))).2 : Int) (words at_ ((s.drop at_).take (to - at_))).1 sd = .ok c ∧ pa1 C [st s, .pointer (some ⟨rb, 0, none⟩), .pointer (some ⟨lb, 0, none⟩), .bool sd.isSome, .int .i64 (at_ : Int), .int .i64 (to : Int)] w = some (.norm [st s, .pointer (some ⟨rb, 0, none⟩), .pointer (some ⟨lb, 0, none⟩), .bool true, .int .i64 ((to + 1 : Nat) : Int)] w') ∧ PSt W X lb rb (some c) w') ∨
  ((words at_ ((s.drop at_).take (to - at_))).1 ≠ [] ∧ ∃ a z b w', stepR ((words at_ ((s.drop at_).take (to - at_))).2 : Int) (words at_ ((s.drop at_).take (to - at_))).1 sd = .error (a, z) ∧ pa1 C [st s, .pointer (some ⟨rb, 0, none⟩), .pointer (some ⟨lb, 0, none⟩), .bool sd.isSome, .int .i64 (at_ : Int), .int .i64 (to : Int)] w = some (.ret [.pointer (some ⟨rb, 0, none⟩), .iface 82 (.pointer (some ⟨b, 0, none⟩))] w') ∧ Sat W (blkA rb 30 zcs * (blkA b 83 [.int .i64 a, .int .i64 z] * X)) w')) := by
 obtain ⟨hw1, hw2⟩ := words_in hv at_
 have hll : ((s.drop at_).take (to - at_)).length ≤ 20000 := by rw [List.length_take, Ye]; omega
 obtain ⟨Y, xi, back⟩ := x.inner
 have z1 := xi.newBlk 64 [.slice none 0 0, .int .i64 0]
 obtain ⟨w1, hwd1⟩ : ∃ w1, w1 = w.alloc (.cells #[.slice none 0 0, .int .i64 0] 64) := ⟨_, rfl⟩
 have z1 : Sat W (blkA w.heap.size 64 [.slice none 0 0, .int .i64 0] * (Y * (blkA rb 30 zcs * X))) w1 := hwd1 ▸ z1
 have k3 : erun Zp (Zo 64 (.agg #[.slice none 0 0, .int .i64 0])) w = some (.pointer (some ⟨w.heap.size, 0, none⟩), w1) := by rw [hwd1]; rfl
 obtain ⟨v, w2, k4, z2⟩ := words_ok L.g z1 (s := s) (p := at_) (to := to) (by omega) hto hat hv
 obtain ⟨ws, hws⟩ : ∃ ws, ws = (words at_ ((s.drop at_).take (to - at_))).1 := ⟨_, rfl⟩
 obtain ⟨e, he⟩ : ∃ e, e = (words at_ ((s.drop at_).take (to - at_))).2 := ⟨_, rfl⟩
 rw [← hws] at hw1 hw2 z2 ⊢
 rw [← he] at k4 ⊢
 obtain ⟨B, cc, rfl, hcc, _⟩ := own_form z2.row
 have z3 : Sat W (blkA w.heap.size 64 [.slice none 0 0, .int .i64 0] * (rowA 114 4 (.slice B ws.length cc) ws.length (wcs ws) * (Y * (blkA rb 30 zcs * X)))) w2 := z2.eq (by ac_rfl)
 have k5 := z3.blk.store (P := Zp) (t := 62) (j := 0) (v := .slice B ws.length cc) inf62 size62 (by simp) rfl rfl
 have z4 := z3.store 0 (.slice B ws.length cc) (cs' := [.slice B ws.length cc, .int .i64 0]) rfl
 obtain ⟨w3, hw3⟩ : ∃ w3, w3 = w2.setCell ⟨w.heap.size, 0, none⟩ (.slice B ws.length cc) := ⟨_, rfl⟩
 rw [← hw3] at k5 z4
 have k6 := z4.blk.store (P := Zp) (t := 3) (j := 1) (v := .int .i64 (e : Int)) inf3 size3 (by simp) rfl rfl
 have z5 := z4.store 1 (.int .i64 (e : Int)) (cs' := [.slice B ws.length cc, .int .i64 (e : Int)]) rfl
 obtain ⟨w4, hw4⟩ : ∃ w4, w4 = w3.setCell ⟨w.heap.size, 1, none⟩ (.int .i64 (e : Int)) := ⟨_, rfl⟩
 rw [← hw4] at k6 z5
 have z6 : Sat W (rowA 114 4 (.slice B ws.length cc) ws.length (wcs ws) * (blkA w.heap.size 64 [.slice B ws.length cc, .int .i64 (e : Int)] * (Y * (blkA rb 30 zcs * X)))) w4 := z5.eq (by ac_rfl)
 have z7 : Sat W (rdrS w.heap.size B cc ws (e : Int) (Y * (blkA rb 30 zcs * X))) w4 := (Sat.reads z6).eq (by unfold rdrS; ac_rfl)
 have c0 : w4.cell? ⟨w.heap.size, 0, none⟩ = some (.slice B ws.length cc) := z7.cell 0 rfl
 have e2 : IntKind.i64.wrap ((to : Int) + 1) = ((to + 1 : Nat) : Int) := (wrap_i64 (by omega) (by omega)).trans (by omega)
 obtain ⟨AT, hAT⟩ : ∃ AT : Int, AT = ((to + 1 : Nat) : Int) := ⟨_, rfl⟩
 rw [← hAT] at e2 ⊢
 obtain ⟨e', hee⟩ : ∃ e' : Int, e' = (e : Int) := ⟨_, rfl⟩
 rw [← hee] at k4 k6 z7 ⊢
 obtain ⟨N, hN⟩ : ∃ N, N = ws.length := ⟨_, rfl⟩
 rw [← hN] at k4 k5 c0
 by_cases h0 : ws = []
 ·left
  have hN0 : N = 0 := by rw [hN, h0]; rfl
  subst hN0
  refine ⟨h0, w4, ?_, back w4 z7.right.right⟩
  simp [pa1, build64, k3, k4, nilV, addL, k5, k6, e2, c0]
 ·right
  have hN0 : ¬ N = 0 := fun h => h0 (List.length_eq_zero_iff.mp (by omega))
  have hN0i : ¬ (N : Int) = 0 := by omega
  have hsw : ∀ y ∈ ws, y.s.length ≤ 30000 := fun y hy => by have := (hw1 y hy).len; omega
  have b0 : Pq Zp (Zb 30 #[]) = some (.agg zcs.toArray) := id (by kernel_rfl)
  match sd, x with
  | none, x =>
   -- the first line: Y is the list's block
   have x0 : Sat W (blkA lb 30 zcs * (blkA rb 30 zcs * X)) w := x
   have z7' : Sat W (rdrS w.heap.size B cc ws e' (blkA lb 30 zcs * (blkA rb 30 zcs * X))) w4 := by
    have y1 := x0.newBlk 64 [.slice none 0 0, .int .i64 0]
    have y1 : Sat W (blkA w.heap.size 64 [.slice none 0 0, .int .i64 0] * (blkA lb 30 zcs * (blkA rb 30 zcs * X))) w1 := hwd1 ▸ y1
    obtain ⟨v2, w2', k4', y2⟩ := words_ok L.g y1 (s := s) (p := at_) (to := to) (by omega) hto hat hv
    rw [← he, ← hee] at k4'
    rw [← hws] at y2
    have h44 := k4.symm.trans k4'
    simp only [Oj, Prod.mk.injEq, Value.tuple.injEq] at h44
    obtain ⟨h45, rfl⟩ := h44
    have h46 : v2 = .slice B N cc := by
     have := congrArg (fun a : Array Value => a[0]?) h45
     simp at this
     exact this.symm
    subst h46
    rw [hN] at y2
    have y3 : Sat W (blkA w.heap.size 64 [.slice none 0 0, .int .i64 0] * (rowA 114 4 (.slice B ws.length cc) ws.length (wcs ws) * (blkA lb 30 zcs * (blkA rb 30 zcs * X)))) w2 := y2.eq (by ac_rfl)
    have y4 := y3.store 0 (.slice B ws.length cc) (cs' := [.slice B ws.length cc, .int .i64 0]) rfl
    rw [← hw3] at y4
    have y5 := y4.store 1 (.int .i64 (e : Int)) (cs' := [.slice B ws.length cc, .int .i64 (e : Int)]) rfl
    rw [← hw4] at y5
    have y6 : Sat W (rowA 114 4 (.slice B ws.length cc) ws.length (wcs ws) * (blkA w.heap.size 64 [.slice B ws.length cc, .int .i64 (e : Int)] * (blkA lb 30 zcs * (blkA rb 30 zcs * X)))) w4 := y5.eq (by ac_rfl)
    rw [hee]
    exact (Sat.reads y6).eq (by unfold rdrS; ac_rfl)
   unfold stepR
   rcases list_any hsw (by omega) hcc z7' with ⟨t, r, w5, h1, h2, h3⟩ | ⟨a, z, b, w5, t, r, h1, h2, h3⟩
   ·left
    obtain ⟨w6, k7, z8⟩ := put_blk h3 inf30 (v := .agg #[st t, .int .i64 r, .slice none 0 0]) (cs' := [st t, .int .i64 r, .slice none 0 0]) rfl (by rw [size30]; rfl) rfl (by simp [Value.oneCell'])
    have z9 := z8.nilRow 51 5
    refine ⟨h0, (t, r, []), w6, by rw [h1], ?_, listR_fine hw1 h1, .slice none 0 0, z9.eq (by unfold cutS; rw [star_left_comm]; rfl)⟩
    simp [pa1, pa2, build64, k3, k4, nilV, addL, k5, k6, e2, c0, hN0, hN0i, h2, k7]
   ·right
    obtain ⟨w6, k7, z8⟩ := put_blk (h3.eq (by ac_rfl : _ = blkA lb 30 zcs * (blkA rb 30 zcs * (blkA b 83 [.int .i64 a, .int .i64 z] * X)))) inf30 (v := .agg #[st t, .int .i64 r, .slice none 0 0]) (cs' := [st t, .int .i64 r, .slice none 0 0]) rfl (by rw [size30]; rfl) rfl (by simp [Value.oneCell'])
    obtain ⟨w8, k8, zA⟩ := put_blk z8.right inf30 (v := .agg zcs.toArray) (cs' := zcs) rfl (by rw [size30]; rfl) rfl (by simp [Value.oneCell'])
    refine ⟨h0, a, z, b, w8, by rw [h1], ?_, zA⟩
    simp [pa1, pa2, build64, k3, k4, nilV, addL, k5, k6, e2, c0, hN0, hN0i, h2, k7, b0, k8]
  | some (t, r, q), ⟨hF, v, x⟩ =>
   have z7' : Sat W (rdrS w.heap.size B cc ws e' (cutS lb t r v q (blkA rb 30 zcs * X))) w4 := by
    have y1 := x.newBlk 64 [.slice none 0 0, .int .i64 0]
    have y1 : Sat W (blkA w.heap.size 64 [.slice none 0 0, .int .i64 0] * cutS lb t r v q (blkA rb 30 zcs * X)) w1 := hwd1 ▸ y1
    obtain ⟨v2, w2', k4', y2⟩ := words_ok L.g y1 (s := s) (p := at_) (to := to) (by omega) hto hat hv
    rw [← he, ← hee] at k4'
    rw [← hws] at y2
    have h44 := k4.symm.trans k4'
    simp only [Oj, Prod.mk.injEq, Value.tuple.injEq] at h44
    obtain ⟨h45, rfl⟩ := h44
    have h46 : v2 = .slice B N cc := by
     have := congrArg (fun a : Array Value => a[0]?) h45
     simp at this
     exact this.symm
    subst h46
    rw [hN] at y2
    have y3 : Sat W (blkA w.heap.size 64 [.slice none 0 0, .int .i64 0] * (rowA 114 4 (.slice B ws.length cc) ws.length (wcs ws) * cutS lb t r v q (blkA rb 30 zcs * X))) w2 := y2.eq (by ac_rfl)
    have y4 := y3.store 0 (.slice B ws.length cc) (cs' := [.slice B ws.length cc, .int .i64 0]) rfl
    rw [← hw3] at y4
    have y5 := y4.store 1 (.int .i64 (e : Int)) (cs' := [.slice B ws.length cc, .int .i64 (e : Int)]) rfl
    rw [← hw4] at y5
    have y6 : Sat W (rowA 114 4 (.slice B ws.length cc) ws.length (wcs ws) * (blkA w.heap.size 64 [.slice B ws.length cc, .int .i64 (e : Int)] * cutS lb t r v q (blkA rb 30 zcs * X))) w4 := y5.eq (by ac_rfl)
    rw [hee]
    exact (Sat.reads y6).eq (by unfold rdrS; ac_rfl)
   unfold stepR
   rcases event_any L E hF.r1 hF.r7 (xrOf_ok hF.r1 hF.r7) hF.ql (fine_short hF) h0 hsw (by omega) hcc z7' with ⟨ev, v', w5, h1, h1b, h2, h3⟩ | ⟨a, z, b, w5, h1, h2, h3⟩
   ·left
    refine ⟨h0, (t, r, q ++ [ev]), w5, by simp only [h1], ?_, ck_none h1b, v', h3⟩
    simp [pa1, pa2, build64, k3, k4, nilV, addL, k5, k6, e2, c0, hN0, hN0i, h2]
   ·right
    obtain ⟨w8, k8, zA⟩ := put_blk (h3.eq (by ac_rfl : _ = blkA rb 30 zcs * (blkA b 83 [.int .i64 a, .int .i64 z] * X))) inf30 (v := .agg zcs.toArray) (cs' := zcs) rfl (by rw [size30]; rfl) rfl (by simp [Value.oneCell'])
    refine ⟨h0, a, z, b, w8, by simp only [h1], ?_, zA⟩
    simp [pa1, pa2, build64, k3, k4, nilV, addL, k5, k6, e2, c0, hN0, hN0i, h2, b0, k8]
end
def parseGo : Nat → Nat → Nat → List UInt8 → Option Cut → Except (Int × Int) Cut
 | 0, _, _, _, _ => .error (0, 0)
 | _ + 1, len, _, [], none => .error ((len : Int), 193)
 | _ + 1, _, _, [], some c => .ok c
 | n + 1, len, p, c :: l, s =>
  if (words p (lineOf (c :: l))).1 = [] then parseGo n len (p + ((lineOf (c :: l)).length + 1)) ((c :: l).drop ((lineOf (c :: l)).length + 1)) s
  else match stepR ((words p (lineOf (c :: l))).2 : Int) (words p (lineOf (c :: l))).1 s with
   | .error x => .error x
   | .ok d => parseGo n len (p + ((lineOf (c :: l)).length + 1)) ((c :: l).drop ((lineOf (c :: l)).length + 1)) (some d)
def parse (s : List UInt8) : Except (Int × Int) Cut := if 20000 < s.length then .error (0, 191) else match bad 0 s 0 with
 | some k => .error ((k : Int), 192)
 | none => parseGo (s.length + 1) s.length 0 s none
section
variable {W : World} {X : Asn W.heap.size}
theorem go_round {w : World} (L : Lay W) (E : ErrVars W) {lb rb : Nat} {s : List UInt8} {at_ : Nat} {sd : Option Cut} (hs : s.length ≤ 20000) {c : UInt8} {l : List UInt8} (hd : s.drop at_ = c :: l) (hv : vs 0 (c :: l) = true) (x : PSt W X lb rb sd w) :
  ((words at_ (lineOf (c :: l))).1 = [] ∧ ∃ w', f9.l0 C [st s, .pointer (some ⟨rb, 0, none⟩), .pointer (some ⟨lb, 0, none⟩), .bool sd.isSome, .int .i64 (at_ : Int)] w = some (.norm [st s, .pointer (some ⟨rb, 0, none⟩), .pointer (some ⟨lb, 0, none⟩), .bool sd.isSome, .int .i64 ((at_ + ((lineOf (c :: l)).length + 1) : Nat) : Int)] w') ∧ PSt W X lb rb sd w') ∨
  ((words at_ (lineOf (c :: l))).1 ≠ [] ∧ ∃ d w', stepR ((words at_ (lineOf (c :: l))).2 : Int) (words at_ (lineOf (c :: l))).1 sd = .ok d ∧ f9.l0 C [st s, .pointer (some ⟨rb, 0, none⟩), .pointer (some ⟨lb, 0, none⟩), .bool sd.isSome, .int .i64 (at_ : Int)] w = some (.norm [st s, .pointer (some ⟨rb, 0, none⟩), .pointer (some ⟨lb, 0, none⟩), .bool true, .int .i64 ((at_ + ((lineOf (c :: l)).length + 1) : Nat) : Int)] w') ∧ PSt W X lb rb (some d) w') ∨
  ((words at_ (lineOf (c :: l))).1 ≠ [] ∧ ∃ a z b w', stepR ((words at_ (lineOf (c :: l))).2 : Int) (words at_ (lineOf (c :: l))).1 sd = .error (a, z) ∧ f9.l0 C [st s, .pointer (some ⟨rb, 0, none⟩), .pointer (some ⟨lb, 0, none⟩), .bool sd.isSome, .int .i64 (at_ : Int)] w = some (.ret [.pointer (some ⟨rb, 0, none⟩), .iface 82 (.pointer (some ⟨b, 0, none⟩))] w') ∧ Sat W (blkA rb 30 zcs * (blkA b 83 [.int .i64 a, .int .i64 z] * X)) w') := by
 have hlen : l.length + 1 = s.length - at_ := by have := congrArg List.length hd; simp at this; omega
 have hsl := fun ty => str_len (P := Zp) Uz ty s
 have hlt : (at_ : Int) < (s.length : Int) := by omega
 have k1 := str_from (P := Zp) Uz s .i64 at_ (by omega)
 have k2 := byte_ok (s.drop at_) 10 w
 rw [hd] at k1 k2
 obtain ⟨Ln, hLn⟩ : ∃ Ln, Ln = lineOf (c :: l) := ⟨_, rfl⟩
 obtain ⟨v1, v2⟩ := lineOf_valid hv
 rw [← hLn] at v1 ⊢
 obtain ⟨to, hto⟩ : ∃ to, to = at_ + Ln.length := ⟨_, rfl⟩
 have hLl : Ln.length ≤ l.length + 1 := by
  rcases lineOf_cut (c :: l) with h | ⟨r, h⟩
  ·rw [hLn, h]; simp
  ·have := congrArg List.length h
   rw [← hLn] at this
   simp at this
   omega
 have hseg : (s.drop at_).take (to - at_) = Ln := by
  rw [hd, hto, Nat.add_sub_cancel_left]
  rcases lineOf_cut (c :: l) with h | ⟨r, h⟩
  ·rw [← hLn] at h
   rw [h]
   exact List.take_of_length_le (Nat.le_refl _)
  ·rw [← hLn] at h
   rw [h]
   exact List.take_left' rfl
 -- to the end of the line
 have start : f9.l0 C [st s, .pointer (some ⟨rb, 0, none⟩), .pointer (some ⟨lb, 0, none⟩), .bool sd.isSome, .int .i64 (at_ : Int)] w = (pa1 C [st s, .pointer (some ⟨rb, 0, none⟩), .pointer (some ⟨lb, 0, none⟩), .bool sd.isSome, .int .i64 (at_ : Int), .int .i64 (to : Int)] w).bind fun (r : Res) => (r.unblock 1).cont fun vs_3 W4 => some (Xn [nth vs_3 0, nth vs_3 1, nth vs_3 2, nth vs_3 3, nth vs_3 4] W4) := by
  rw [f9.l0.parts]
  obtain ⟨b, hb⟩ : ∃ b, b = sd.isSome := ⟨_, rfl⟩
  rw [← hb]
  obtain ⟨T, hT⟩ : ∃ T : Int, T = (to : Int) := ⟨_, rfl⟩
  rcases lineOf_cut (c :: l) with h | ⟨r, h⟩
  ·have hno : indexByte (c :: l) 10 = -1 := by
    have hall : ∀ d ∈ c :: l, d ≠ 10 := by rw [← h]; exact lineOf_no (c :: l)
    have key : ∀ l : List UInt8, (∀ d ∈ l, d ≠ 10) → indexByte l 10 = -1 := by
     intro l
     induction l with
     | nil => intro _; rfl
     | cons d l ih =>
      intro hd
      have h1 := hd d (by simp)
      have h2 := ih fun e he => hd e (by simp [he])
      rw [indexByte]
      simp [h1, h2]
    exact key _ hall
   rw [hno] at k2
   have htl : to = s.length := by
    have : Ln.length = l.length + 1 := by rw [hLn, h]; simp
    omega
   have e1 : IntKind.i64.wrap ((at_ : Int) + -1) = (at_ : Int) - 1 := (wrap_i64 (by omega) (by omega)).trans (by omega)
   have hlt2 : (at_ : Int) - 1 < (at_ : Int) := by omega
   have k2' : C 25 #[st (c :: l), .int .u8 10] w = some (.int .i64 (-1), w) := k2
   have hsT : ∀ ty, Pq Zp (Yl #[9] ty #[st s]) = some (.int .i64 T) := fun ty => by rw [hsl ty, hT, htl]
   have hltT : (at_ : Int) < T := by rw [hT, htl]; exact hlt
   rw [← hT]
   obtain ⟨cl, hcl⟩ : ∃ cl, cl = c :: l := ⟨_, rfl⟩
   rw [← hcl] at k1 k2'
   simp [hsT, hltT, k1, k2', e1, hlt2]
  ·rw [← hLn] at h
   have hix : indexByte (c :: l) 10 = Ln.length := by rw [h]; exact indexByte_at Ln r (by rw [hLn]; exact lineOf_no _)
   rw [hix] at k2
   have e1 : IntKind.i64.wrap ((at_ : Int) + (Ln.length : Int)) = T := (wrap_i64 (by omega) (by omega)).trans (by omega)
   have hnl : ¬ T < (at_ : Int) := by omega
   have k2' : C 25 #[st (c :: l), .int .u8 10] w = some (.int .i64 (Ln.length : Int), w) := k2
   rw [← hT]
   obtain ⟨cl, hcl⟩ : ∃ cl, cl = c :: l := ⟨_, rfl⟩
   rw [← hcl] at k1 k2'
   simp [hsl, hlt, k1, k2', e1, hnl]
 have hmain := pa1_any L E (at_ := at_) (to := to) hs (by omega) (by omega) (by rw [hseg]; exact v1) x
 rw [hseg] at hmain
 have hat' : ((at_ + (Ln.length + 1) : Nat) : Int) = ((to + 1 : Nat) : Int) := by omega
 rw [hat', start]
 rcases hmain with ⟨h1, w', h2, h3⟩ | ⟨h1, d, w', h2, h3, h4⟩ | ⟨h1, a, z, b, w', h2, h3, h4⟩
 ·exact .inl ⟨h1, w', by rw [h2]; simp, h3⟩
 ·exact .inr (.inl ⟨h1, d, w', h2, by rw [h3]; simp, h4⟩)
 ·exact .inr (.inr ⟨h1, a, z, b, w', h2, by rw [h3]; simp, h4⟩)
theorem parse_any {w : World} (L : Lay W) (E : ErrVars W) (x : Sat W X w) (s : List UInt8) (hl : s.length ≤ 9223372036854775807) :
  (∃ t r q A c w', parse s = .ok (t, r, q) ∧ Fine t r q ∧ C 9 #[st s] w = some (.tuple #[cutV t r A q.length c, .nilIface], w') ∧ Sat W (rowA 51 5 (.slice A q.length c) q.length (q.flatMap Ev.cs) * X) w') ∨
  (∃ a z b w', parse s = .error (a, z) ∧ C 9 #[st s] w = some (.tuple #[cutV [] 0 none 0 0, .iface 82 (.pointer (some ⟨b, 0, none⟩))], w') ∧ Sat W (blkA b 83 [.int .i64 a, .int .i64 z] * X) w') := by
 have hsl := fun ty => str_len (P := Zp) Uz ty s
 have b0 : Pq Zp (Zb 30 #[]) = some (.agg zcs.toArray) := id (by kernel_rfl)
 have x1 := x.newBlk 30 zcs
 have a1 := alloc30 w
 obtain ⟨w1, hw1⟩ : ∃ w1, w1 = w.alloc (.cells zcs.toArray 30) := ⟨_, rfl⟩
 rw [← hw1] at x1 a1
 unfold parse
 by_cases h20 : 20000 < s.length
 ·right
  rw [if_pos h20]
  have h20i : (20000 : Int) < s.length := by omega
  obtain ⟨b, w2, k2, x2⟩ := fault_ok x1 0 191
  obtain ⟨w3, k3, x3⟩ := put_blk (x2.eq (by ac_rfl : _ = blkA w.heap.size 30 zcs * (blkA b 83 [.int .i64 0, .int .i64 191] * X))) inf30 (v := .agg zcs.toArray) (cs' := zcs) rfl (by rw [size30]; rfl) rfl (by simp [Value.oneCell'])
  have l3 := ld_cut x3
  exact ⟨0, 191, b, w3, rfl, f9.run rfl (by simp [f9, a1, hsl, h20i, h20, b0, k2, k3, l3, cutV]), x3.right⟩
 ·rw [if_neg h20]
  have h20i : ¬ (20000 : Int) < s.length := by omega
  obtain ⟨w2, k2, g2⟩ := unruly_ok (L.grown (grown_of x1)).u s (by omega)
  have x2 := x1.grown g2
  cases hb : bad 0 s 0 with
  | some k =>
   right
   rw [hb] at k2
   have k2' : C 24 #[st s] w1 = some (.int .i64 (k : Int), w2) := k2
   have hk0 : (0 : Int) ≤ (k : Int) := by omega
   obtain ⟨b, w3, k3, x3⟩ := fault_ok x2 (k : Int) 192
   obtain ⟨w4, k4, x4⟩ := put_blk (x3.eq (by ac_rfl : _ = blkA w.heap.size 30 zcs * (blkA b 83 [.int .i64 (k : Int), .int .i64 192] * X))) inf30 (v := .agg zcs.toArray) (cs' := zcs) rfl (by rw [size30]; rfl) rfl (by simp [Value.oneCell'])
   have l4 := ld_cut x4
   refine ⟨(k : Int), 192, b, w4, rfl, f9.run rfl ?_, x4.right⟩
   obtain ⟨K, hK⟩ : ∃ K : Int, K = (k : Int) := ⟨_, rfl⟩
   rw [← hK] at k2' hk0 k3
   simp [f9, a1, hsl, h20i, h20, k2', hk0, b0, k3, k4, l4, cutV]
  | none =>
   rw [hb] at k2
   have k2' : C 24 #[st s] w1 = some (.int .i64 (-1), w2) := k2
   have hv : vs 0 s = true := by
    have h := valid_bad s
    rw [hb] at h
    simpa [valid] using h
   have x3 := x2.newBlk 30 zcs
   have a3 := alloc30 w2
   obtain ⟨w3, hw3⟩ : ∃ w3, w3 = w2.alloc (.cells zcs.toArray 30) := ⟨_, rfl⟩
   rw [← hw3] at x3 a3
   simp only
   have key := iter_down (f := f9.l0 C) (fun d ws w4 => ∃ (at_ n : Nat) (l : List UInt8) (sd : Option Cut), ws = [st s, .pointer (some ⟨w.heap.size, 0, none⟩), .pointer (some ⟨w2.heap.size, 0, none⟩), .bool sd.isSome, .int .i64 (at_ : Int)] ∧ d = l.length ∧ s.drop at_ = l ∧ vs 0 l = true ∧ l.length < n ∧ at_ ≤ s.length + 1 ∧ PSt W X w2.heap.size w.heap.size sd w4 ∧ parseGo n s.length at_ l sd = parseGo (s.length + 1) s.length 0 s none)
    (fun res => (∃ sd w', res = .exit 0 [st s, .pointer (some ⟨w.heap.size, 0, none⟩), .pointer (some ⟨w2.heap.size, 0, none⟩), .bool sd.isSome] w' ∧ PSt W X w2.heap.size w.heap.size sd w' ∧ parseGo (s.length + 1) s.length 0 s none = (match sd with | none => .error ((s.length : Int), 193) | some c => .ok c)) ∨
     ∃ a z b w', res = .ret [.pointer (some ⟨w.heap.size, 0, none⟩), .iface 82 (.pointer (some ⟨b, 0, none⟩))] w' ∧ Sat W (blkA w.heap.size 30 zcs * (blkA b 83 [.int .i64 a, .int .i64 z] * X)) w' ∧ parseGo (s.length + 1) s.length 0 s none = .error (a, z)) (by
     rintro d ws w4 ⟨at_, n, l, sd, rfl, rfl, hd, hvl, hn, hat, y, hp⟩
     cases l with
     | nil =>
      have hae : s.length ≤ at_ := by
       have := congrArg List.length hd
       simp at this
       omega
      have hnl : ¬ (at_ : Int) < (s.length : Int) := by omega
      refine .inr ⟨.exit 0 [st s, .pointer (some ⟨w.heap.size, 0, none⟩), .pointer (some ⟨w2.heap.size, 0, none⟩), .bool sd.isSome] w4, by simp [f9.l0, hsl, hnl], .inl ⟨sd, w4, rfl, y, ?_⟩, by simp⟩
      rw [← hp]
      obtain ⟨m, rfl⟩ : ∃ m, n = m + 1 := ⟨n - 1, by omega⟩
      cases sd <;> rfl
     | cons ch l =>
      obtain ⟨m, rfl⟩ : ∃ m, n = m + 1 := ⟨n - 1, by omega⟩
      have hlen : l.length + 1 = s.length - at_ := by have := congrArg List.length hd; simp at this; omega
      obtain ⟨v1, v2⟩ := lineOf_valid hvl
      have hd2 : s.drop (at_ + ((lineOf (ch :: l)).length + 1)) = (ch :: l).drop ((lineOf (ch :: l)).length + 1) := by rw [← Yd, hd]
      have hll : ((ch :: l).drop ((lineOf (ch :: l)).length + 1)).length < (ch :: l).length := by rw [Ye]; simp; omega
      have hLl : (lineOf (ch :: l)).length ≤ l.length + 1 := by
       rcases lineOf_cut (ch :: l) with h | ⟨r, h⟩
       ·rw [h]; simp
       ·have := congrArg List.length h
        simp at this
        omega
      rw [parseGo] at hp
      simp only [Yc] at hn
      rcases go_round L E (by omega) hd hvl y with ⟨h1, w', h2, h3⟩ | ⟨h1, c, w', h2, h3, h4⟩ | ⟨h1, a, z, b, w', h2, h3, h4⟩
      ·rw [if_pos h1] at hp
       exact .inl ⟨_, _, w', hll, h2, ⟨_, m, _, sd, rfl, rfl, hd2, v2, by simp only [Yc] at hll; omega, by omega, h3, hp⟩⟩
      ·rw [if_neg h1, h2] at hp
       exact .inl ⟨_, _, w', hll, h3, ⟨_, m, _, some c, rfl, rfl, hd2, v2, by simp only [Yc] at hll; omega, by omega, h4, hp⟩⟩
      ·rw [if_neg h1, h2] at hp
       exact .inr ⟨_, h3, .inr ⟨a, z, b, w', rfl, h4, hp.symm⟩, by simp⟩) s.length [st s, .pointer (some ⟨w.heap.size, 0, none⟩), .pointer (some ⟨w2.heap.size, 0, none⟩), .bool false, .int .i64 0] w3 ⟨0, s.length + 1, s, none, rfl, rfl, rfl, hv, by omega, by omega, x3, rfl⟩
   obtain ⟨res, h4, hres⟩ := key
   rcases hres with ⟨sd, w5, rfl, y, hp⟩ | ⟨a, z, b, w5, rfl, y, hp⟩
   ·match sd, y, hp, h4 with
    | none, y, hp, h4 =>
     right
     have y0 : Sat W (blkA w2.heap.size 30 zcs * (blkA w.heap.size 30 zcs * X)) w5 := y
     obtain ⟨b, w6, k6, x6⟩ := fault_ok y0.right (s.length : Int) 193
     obtain ⟨w7, k7, x7⟩ := put_blk (x6.eq (by ac_rfl : _ = blkA w.heap.size 30 zcs * (blkA b 83 [.int .i64 (s.length : Int), .int .i64 193] * X))) inf30 (v := .agg zcs.toArray) (cs' := zcs) rfl (by rw [size30]; rfl) rfl (by simp [Value.oneCell'])
     have l7 := ld_cut x7
     have h4' : iter (f9.l0 C) [st s, .pointer (some ⟨w.heap.size, 0, none⟩), .pointer (some ⟨w2.heap.size, 0, none⟩), .bool false, .int .i64 0] w3 = some (.exit 0 [st s, .pointer (some ⟨w.heap.size, 0, none⟩), .pointer (some ⟨w2.heap.size, 0, none⟩), .bool false] w5) := h4
     exact ⟨(s.length : Int), 193, b, w7, hp, f9.run rfl (by simp [f9, a1, hsl, h20i, h20, k2', a3, h4', b0, k6, k7, l7, cutV]), x7.right⟩
    | some (t, r, q), ⟨hF, v, y⟩, hp, h4 =>
     left
     have x6 : Sat W (rowA 51 5 v q.length (q.flatMap Ev.cs) * (blkA w2.heap.size 30 [st t, .int .i64 r, v] * (blkA w.heap.size 30 zcs * X))) w5 := y.eq (by unfold cutS; ac_rfl)
     obtain ⟨A, c, rfl, hcc, _⟩ := own_form x6.row
     have l5 := ld_cut y
     have x7 : Sat W (blkA w.heap.size 30 zcs * (blkA w2.heap.size 30 [st t, .int .i64 r, .slice A q.length c] * (rowA 51 5 (.slice A q.length c) q.length (q.flatMap Ev.cs) * X))) w5 := x6.eq (by ac_rfl)
     obtain ⟨w8, h8, x8⟩ := put_blk x7 inf30 (v := .agg #[st t, .int .i64 r, .slice A q.length c]) (cs' := [st t, .int .i64 r, .slice A q.length c]) rfl (by rw [size30]; rfl) rfl (by simp [Value.oneCell'])
     have l8 := ld_cut x8
     have h4' : iter (f9.l0 C) [st s, .pointer (some ⟨w.heap.size, 0, none⟩), .pointer (some ⟨w2.heap.size, 0, none⟩), .bool false, .int .i64 0] w3 = some (.exit 0 [st s, .pointer (some ⟨w.heap.size, 0, none⟩), .pointer (some ⟨w2.heap.size, 0, none⟩), .bool true] w5) := h4
     exact ⟨t, r, q, A, c, w8, hp, hF, f9.run rfl (by simp [f9, a1, hsl, h20i, h20, k2', a3, h4', l5, h8, l8, cutV]), x8.right.right⟩
   ·right
    have l5 := ld_cut y
    have h4' : iter (f9.l0 C) [st s, .pointer (some ⟨w.heap.size, 0, none⟩), .pointer (some ⟨w2.heap.size, 0, none⟩), .bool false, .int .i64 0] w3 = some (.ret [.pointer (some ⟨w.heap.size, 0, none⟩), .iface 82 (.pointer (some ⟨b, 0, none⟩))] w5) := h4
    exact ⟨a, z, b, w5, hp, f9.run rfl (by simp [f9, a1, hsl, h20i, h20, k2', a3, h4', l5, cutV]), y.right⟩
end
open Go Go.Proofs Go.RowKit Go.Lib Go.ChangeShapes Go.WideShapes Go.Sh.Ev
theorem iface_of_laid {P : Program} {laid : List (String × DataW Unit)} {W : World} (h : laidMetH P laid W) {n : String} {b : Nat} {nm : String} {d : DataW Unit} (b1 : (n, DataW.iface nm d) ∈ laid) (b2 : (DataW.iface nm d).handleName? = none) (b3 : P.globalNamed n = some b) {t : TypeId} {ms : Array (String × TypeId)} (b4 : (P.globals[b]?).map (·.type) = some t) (b5 : P.underlying t = some (.interface ms)) :
  ∃ u v, W.cell? ⟨b, 0, none⟩ = some (.iface u v) ∧ b < W.heap.size := by
 have key : ∃ l, laidMet P l W ∧ (n, DataW.iface nm d) ∈ l := by
  unfold laidMetH at h
  split at h
  ·exact ⟨_, h, b1⟩
  ·exact ⟨_, h.1, List.mem_filter.mpr ⟨b1, by simp [b2]⟩⟩
 obtain ⟨l, ⟨ps, h1, _⟩, h2⟩ := key
 obtain ⟨g, t', cs, fuel, p, k1, k2, k3, k4⟩ := laid_mem h1 h2
 rw [b3] at k1
 cases k1
 rw [b4] at k2
 cases k2
 have hcs : ∃ u v, cs.toList = [.iface u v] := by
  cases fuel with
  | zero => simp [DataW.trod] at k4
  | succ f =>
   generalize cs.toList = l at k4 ⊢
   cases l with
   | nil => simp [DataW.trod, b5] at k4
   | cons x r =>
    cases r with
    | cons y r => simp [DataW.trod, b5] at k4
    | nil =>
     cases x
     case iface u v => exact ⟨u, v, rfl⟩
     all_goals simp [DataW.trod, b5] at k4
 obtain ⟨u, v, hcs⟩ := hcs
 have hc : W.cell? ⟨b, 0, none⟩ = some (.iface u v) := by
  rw [World.var?_cell b3 k3, ← Array.getElem?_toList, hcs]
  rfl
 refine ⟨u, v, hc, ?_⟩
 by_cases hb : b < W.heap.size
 ·exact hb
 ·exfalso
  have : W.heap[b]? = none := Array.getElem?_eq_none (by omega)
  simp [World.cell?, this] at hc
theorem errs_of {W : World} (h : laidMetH Zp Go.Proofs.YtkghbcadnbojgaaGreatDoor.Rows.cutsBackRow.laid W) : ErrVars W :=
 ⟨iface_of_laid h (n := "strconv.ErrSyntax") (b := 5) (t := 32) (by repeat (first | exact List.Mem.head _ | apply List.Mem.tail)) (by kernel_rfl) (by kernel_rfl) (by kernel_rfl) Tryz.underlying32,
  iface_of_laid h (n := "strconv.ErrRange") (b := 6) (t := 32) (by repeat (first | exact List.Mem.head _ | apply List.Mem.tail)) (by kernel_rfl) (by kernel_rfl) (by kernel_rfl) Tryz.underlying32⟩
theorem emp_sat (w : World) : Sat w emp w := ⟨Grew.refl _ _, ⟨fun _ => False, rfl⟩⟩
open Go Go.Proofs Go.RowKit Go.Sh.Ev
def nf (q : List Ev) (i : Nat) : Int := match q[i]? with
 | some e => e.f
 | none => 0
theorem Fine.first {t : List UInt8} {r : Int} {q : List Ev} (h : Fine t r q) : nf q 0 = 0 := by
 unfold nf
 cases he : q[0]? with
 | none => rfl
 | some e =>
  have := (evCode_zero (h.ev 0 e he) (dayOf_le r)).2.2.2.2.1
  simp [fadeMay] at this
  exact this
theorem Fine.fade {t : List UInt8} {r : Int} {q : List Ev} (h : Fine t r q) {i : Nat} {e : Ev} (he : q[i]? = some e) : e.f ≤ e.o - e.i := by
 have := evCode_zero (h.ev i e he) (dayOf_le r)
 obtain ⟨⟨m0, m1, m2⟩, m3, m4, _, m5, _⟩ := this
 simp only [fadeMay, Bool.or_eq_true, Bool.and_eq_true, decide_eq_true_eq] at m5
 omega
theorem Fine.next {t : List UInt8} {r : Int} {q : List Ev} (h : Fine t r q) {i : Nat} {e : Ev} (he : q[i]? = some e) : nf q (i + 1) ≤ e.o - e.i - e.f ∧ 0 ≤ nf q (i + 1) ∧ nf q (i + 1) ≤ 100 := by
 have hf := h.fade he
 unfold nf
 cases hn : q[i + 1]? with
 | none => simp; omega
 | some x =>
  obtain ⟨⟨m0, m1, m2⟩, m3, m4, _, m5, _⟩ := evCode_zero (h.ev (i + 1) x hn) (dayOf_le r)
  have hl : (q.take (i + 1)).getLast? = some e := by rw [take_add he]; simp
  simp only [fadeMay, hl, Bool.or_eq_true, Bool.and_eq_true, decide_eq_true_eq] at m5
  simp only
  omega
theorem Fine.pos {t : List UInt8} {r : Int} {q : List Ev} (h : Fine t r q) : (lens q = 0 ↔ q.length = 0) := by
 have h1 : ∀ l : List Ev, (∀ e ∈ l, 0 ≤ e.o - e.i - e.f) → 0 ≤ lens l := by
  intro l
  induction l with
  | nil => intro _; simp [lens]
  | cons a l ih =>
   intro hl
   have h2 := ih fun e he => hl e (by simp [he])
   have h3 := hl a (by simp)
   simp only [lens, List.map_cons, List.sum_cons] at h2 ⊢
   omega
 cases q with
 | nil => simp [lens]
 | cons a l =>
  have h0 := h.first
  have h2 : a.f = 0 := h0
  have h3 := (h.mid (i := 0) (e := a) rfl).1
  have h4 := h1 l fun e he => by
   obtain ⟨i, hi⟩ := List.getElem?_of_mem he
   have := h.fade (i := i + 1) (e := e) (by simpa using hi)
   omega
  obtain ⟨m0, m1, m2⟩ := h3
  simp only [lens, List.map_cons, List.sum_cons, Yc] at h4 ⊢
  constructor <;> intro <;> omega
theorem evBad_at {day : Int} : ∀ (q ahead : List Ev) (k : Nat) (e : Ev), q[k]? = some e → (∀ i, i < k → ∀ x, q[i]? = some x → evCode (ahead ++ q.take i) x day = 0) → evCode (ahead ++ q.take k) e day ≠ 0 → evBad day ahead q = some (((ahead.length + k : Nat) : Int), evCode (ahead ++ q.take k) e day)
 | [], ahead, k, e, h, _, _ => by simp at h
 | a :: l, ahead, 0, e, h, _, h2 => by
  simp at h
  subst h
  rw [evBad]
  simp only [List.take_zero, List.append_nil] at h2 ⊢
  rw [if_neg h2]
  simp
 | a :: l, ahead, k + 1, e, h, h1, h2 => by
  have h0 := h1 0 (by omega) a rfl
  simp only [List.take_zero, List.append_nil] at h0
  rw [evBad, if_pos h0]
  have e1 : ahead ++ (a :: l).take (k + 1) = (ahead ++ [a]) ++ l.take k := by simp
  rw [e1] at h2 ⊢
  rw [evBad_at l (ahead ++ [a]) k e (by simpa using h) (fun i hi x hx => by
   have := h1 (i + 1) (by omega) x (by simpa using hx)
   simpa using this) h2]
  simp
  omega
def most (l e : Ev) : Int := min (min 100 (e.o - e.i)) (l.o - l.i - l.f)
end Go.Sh.YtkghbcadnbojgaaGreatDoor
