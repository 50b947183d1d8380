/- cuts: utf8.ValidString, whole. Conditions: those of each statement. -/
import Derived.Test.YtkghbcadnbojgaaGreatDoorUC6
namespace Go.Sh.YtkghbcadnbojgaaGreatDoor
open Go Go.Proofs Go.RowKit
set_option linter.unusedVariables false
set_option linter.unusedSimpArgs false
set_option maxRecDepth 100000
theorem alloc152 (w : World) : erun Tryz.prog (Instr.alloc 152 true (.tuple #[])) w = some (.pointer (some ⟨w.heap.size, 0, none⟩), w.alloc (.cells #[.int .u8 0, .int .u8 0] 152)) := id (by kernel_rfl)
theorem lay152 (x y : Nat) (w : World) : ∃ w', erun Tryz.prog (Instr.storeAt 152 (.pointer (some ⟨w.heap.size, 0, none⟩)) (.agg #[.int .u8 x, .int .u8 y])) (w.alloc (.cells #[.int .u8 0, .int .u8 0] 152)) = some ((), w') ∧ Blk w' w.heap.size 152 [.int .u8 x, .int .u8 y] ∧ w.grownBy w' none := by
  have b := Blk.new w 152 [.int .u8 0, .int .u8 0]
  have g1 := World.grownBy_alloc w (.cells #[.int .u8 0, .int .u8 0] 152) none
  obtain ⟨w2, h2, b2, g2⟩ := b.storeAll (P := Tryz.prog) (t := 152) inf152 (o := 0) (v := .agg #[.int .u8 x, .int .u8 y]) (vs := [.int .u8 x, .int .u8 y]) (cs' := [.int .u8 x, .int .u8 y]) rfl (by rw [size152]; rfl) (by simp) (by simp [Value.oneCell']) (by simp)
  exact ⟨w2, h2, b2, grown_trans g1 g2 (fun k hk => by cases hk; exact Nat.le_refl _)⟩
/-- one round at a byte below 128 -/
theorem round_asc {c : UInt8} {r : List UInt8} (hc : c.toNat < 128) (hl : r.length ≤ 900000) (w : World) : ∃ l' w', f39.l1 C [st (c :: r)] w = some (.norm [st l'] w') ∧ vs 0 l' = vs 0 (c :: r) ∧ l'.length ≤ r.length ∧ w.grownBy w' none := by
  have hs : ∀ (l : List UInt8) ty, prun Tryz.prog (Builtin.len_ #[9] ty #[st l]) = some (.int .i64 l.length) := fun l ty => str_len Tryz.underlying9 ty l
  have ix := str_index (P := Tryz.prog) Tryz.underlying9 (c :: r) .i64 0 (by simp)
  have f1 := str_from (P := Tryz.prog) Tryz.underlying9 (c :: r) .i64 1 (by simp)
  rw [show ((0 : Nat) : Int) = 0 from rfl] at ix
  rw [show ((1 : Nat) : Int) = 1 from rfl] at f1
  simp only [List.getElem_cons_zero, List.drop_succ_cons, List.drop_zero] at ix f1
  have h0 : (0 : Int) < ((c :: r).length : Int) := by simp
  have hc' : (c.toNat : Int) < 128 := by omega
  have hv := vs_byte r hc
  by_cases h8 : 8 < r.length
  · have h8' : (8 : Int) < r.length := by omega
    obtain ⟨x0, c0, y0⟩ := word_ok r (by omega) w
    have f8 := str_from (P := Tryz.prog) Tryz.underlying9 r .i64 8 (by omega)
    rw [show ((8 : Nat) : Int) = 8 from rfl] at f8
    by_cases hz : bits .and .u64 x0 top = 0
    · have hv8 := asc8 y0 hz (l := r) (by omega) (fun i hi hp => by simpa using hp)
      have hql : (r.drop 8).length ≤ r.length := by simp
      obtain ⟨q, hq⟩ : ∃ q, q = r.drop 8 := ⟨_, rfl⟩
      rw [← hq] at f8 hv8 hql
      by_cases h16 : 16 < q.length
      · have h16' : (16 : Int) < (q.length : Int) := by omega
        obtain ⟨x1, c1, y1⟩ := word_ok q (by omega) w.drew.drew
        obtain ⟨x2, c2, y2⟩ := word_ok (q.drop 8) (by rw [List.length_drop]; omega) w.drew.drew.drew
        have f16 := str_from (P := Tryz.prog) Tryz.underlying9 q .i64 8 (by omega)
        have f24 := str_from (P := Tryz.prog) Tryz.underlying9 q .i64 16 (by omega)
        rw [show ((8 : Nat) : Int) = 8 from rfl] at f16
        rw [show ((16 : Nat) : Int) = 16 from rfl] at f24
        have y := y1.or y2
        obtain ⟨l', w', hi, v', le', g'⟩ := fast_ok (q.drop 16) (by simp; omega) w.drew.drew.drew.drew
        have gd : w.grownBy w.drew.drew.drew.drew none := grown_step (grown_step (grown_step (drew_grown _) (drew_grown _)) (drew_grown _)) (drew_grown _)
        by_cases hy : bits .and .u64 (bits .or .u64 x1 x2) top = 0
        · refine ⟨l', w', ?_, ?_, ?_, grown_step gd g'⟩
          · simp [f39.l1, hs, h0, ix, hc', f1, h8', c0, p_and, hz, f8, h16', c1, c2, f16, f24, p_or, hy, hi, wantedV, pickV, chkThen]
          · rw [v', hv, hv8, asc8 y hy (l := q) (by omega) (fun i hi hp => by simp at hp; simpa using hp.1)]
            rw [asc8 y hy (l := q.drop 8) (by rw [List.length_drop]; omega) (fun i hi hp => by simp at hp; simpa using hp.2), List.drop_drop (l := q)]
          · simp only [List.length_drop] at le'
            omega
        · refine ⟨q, w.drew.drew.drew.drew, ?_, by rw [hv, hv8], hql, gd⟩
          simp [f39.l1, hs, h0, ix, hc', f1, h8', c0, p_and, hz, f8, h16', c1, c2, f16, f24, p_or, hy, hi, wantedV, pickV, chkThen]
      · have h16' : ¬ (16 : Int) < (q.length : Int) := by omega
        refine ⟨q, w.drew.drew, ?_, by rw [hv, hv8], hql, grown_step (drew_grown _) (drew_grown _)⟩
        simp [f39.l1, hs, h0, ix, hc', f1, h8', c0, p_and, hz, f8, h16', wantedV, pickV, chkThen]
    · refine ⟨r, w.drew, ?_, hv.symm, Nat.le_refl _, drew_grown _⟩
      simp [f39.l1, hs, h0, ix, hc', f1, h8', c0, p_and, hz]
  · have h8' : ¬ (8 : Int) < r.length := by omega
    refine ⟨r, w, ?_, hv.symm, Nat.le_refl _, grown_refl _ _⟩
    simp [f39.l1, hs, h0, ix, hc', f1, h8']
/-- one round at a byte of 128 or more -/
theorem round_hi {c : UInt8} {r : List UInt8} (hc : 128 ≤ c.toNat) (hl : r.length ≤ 900000) {w : World} (T : Ut w) : (∃ l' w', f39.l1 C [st (c :: r)] w = some (.norm [st l'] w') ∧ vs 0 l' = vs 0 (c :: r) ∧ l'.length ≤ r.length ∧ w.grownBy w' none) ∨
    ∃ w', f39.l1 C [st (c :: r)] w = some (.ret [.bool false] w') ∧ vs 0 (c :: r) = false ∧ w.grownBy w' none := by
  have hs : ∀ (l : List UInt8) ty, prun Tryz.prog (Builtin.len_ #[9] ty #[st l]) = some (.int .i64 l.length) := fun l ty => str_len Tryz.underlying9 ty l
  have ix := str_index (P := Tryz.prog) Tryz.underlying9 (c :: r) .i64 0 (by simp)
  rw [show ((0 : Nat) : Int) = 0 from rfl] at ix
  simp only [List.getElem_cons_zero] at ix
  have h0 : (0 : Int) < ((c :: r).length : Int) := by simp
  have hc' : ¬ (c.toNat : Int) < 128 := by omega
  obtain ⟨k, hk, hlead, ix1, c1⟩ := ut_first T c hc
  obtain ⟨a7, cv, a4, ix2, l2⟩ := ut_kind T hk
  obtain ⟨w2, h2, b2, g2⟩ := lay152 k.2.2.2.1 k.2.2.2.2 w
  have hv := vs_lead r hc
  rw [hlead] at hv
  have p0 := (Blk.cell_eq b2 0 rfl)
  have p1 := (Blk.cell_eq b2 1 rfl)
  obtain ⟨n, lo, hi, hn, hlo, hhi⟩ : ∃ n lo hi, n = k.2.1 ∧ lo = k.2.2.2.1 ∧ hi = k.2.2.2.2 := ⟨_, _, _, rfl, rfl, rfl⟩
  have hn4 : n = 1 ∨ n = 2 ∨ n = 3 ∨ n = 4 := by
    rw [hn]
    simp only [kinds, List.mem_cons, List.not_mem_nil, or_false] at hk
    rcases hk with rfl | rfl | rfl | rfl | rfl | rfl | rfl | rfl <;> simp
  have hso : signOk k r = so n lo hi r := by rw [hn, hlo, hhi]; rfl
  rw [hso] at hv
  rw [← hn] at a7 cv hv
  rw [← hlo, ← hhi] at l2 h2
  rw [← hlo] at p0
  rw [← hhi] at p1
  have gd : w.grownBy w2.drew none := grown_step g2 (drew_grown _)
  rcases hn4 with e | e | e | e <;> rw [e] at a7 cv hv
  · have cv' : prun Tryz.prog (convert 5 3 (.int .u8 1)) = some (.int .i64 1) := cv
    refine .inr ⟨w2, ?_, by rw [hv]; simp [so], g2⟩
    simp [f39.l1, hs, ix, hc', ix1, c1, a7, cv', a4, ix2, l2, alloc152, h2]
  · have cv' : prun Tryz.prog (convert 5 3 (.int .u8 2)) = some (.int .i64 2) := cv
    cases r with
    | nil =>
      refine .inr ⟨w2.drew, ?_, by rw [hv]; simp [so], gd⟩
      obtain ⟨L, hL, hs1⟩ : ∃ L : Int, L = ((c :: []).length : Int) ∧ ∀ ty, prun Tryz.prog (Builtin.len_ #[9] ty #[st (c :: [])]) = some (.int .i64 L) := ⟨_, rfl, fun ty => hs _ ty⟩
      have hL0 : 0 < L := by rw [hL]; simp; try omega
      have hLn :  L < 2 := by rw [hL]; simp; try omega
      simp [f39.l1, hs1, hL0, hLn, ix, hc', ix1, c1, a7, cv', a4, ix2, l2, alloc152, h2]
    | cons a r =>
      have i1 := str_index (P := Tryz.prog) Tryz.underlying9 (c :: a :: r) .i64 1 (by simp)
      rw [show ((1 : Nat) : Int) = 1 from rfl] at i1
      simp only [List.getElem_cons_succ, List.getElem_cons_zero] at i1
      obtain ⟨L, hL, hs1⟩ : ∃ L : Int, L = ((c :: a :: r).length : Int) ∧ ∀ ty, prun Tryz.prog (Builtin.len_ #[9] ty #[st (c :: a :: r)]) = some (.int .i64 L) := ⟨_, rfl, fun ty => hs _ ty⟩
      have hL0 : 0 < L := by rw [hL]; simp; try omega
      have hLn : ¬ L < 2 := by rw [hL]; simp; try omega
      have f2 := str_from (P := Tryz.prog) Tryz.underlying9 (c :: a :: r) .i64 2 (by simp)
      rw [show ((2 : Nat) : Int) = 2 from rfl] at f2
      simp only [List.drop_succ_cons, List.drop_zero] at f2
      by_cases q0 : (a.toNat : Int) < lo
      · refine .inr ⟨w2.drew, ?_, by rw [hv]; simp [so, goesOn]; omega, gd⟩
        simp [f39.l1, hs1, hL0, hLn, ix, hc', ix1, c1, a7, cv', a4, ix2, l2, alloc152, h2, i1, addL, p0, p1, q0]
      by_cases q1 : (hi : Int) < a.toNat
      · refine .inr ⟨w2.drew, ?_, by rw [hv]; simp [so, goesOn]; omega, gd⟩
        simp [f39.l1, hs1, hL0, hLn, ix, hc', ix1, c1, a7, cv', a4, ix2, l2, alloc152, h2, i1, addL, p0, p1, q0, q1]
      · refine .inl ⟨r, w2.drew, ?_, ?_, by simp, gd⟩
        · simp [f39.l1, hs1, hL0, hLn, ix, hc', ix1, c1, a7, cv', a4, ix2, l2, alloc152, h2, i1, addL, p0, p1, q0, q1, f2]
        · rw [hv]
          have z0 : lo ≤ a.toNat := by omega
          have z1 : a.toNat ≤ hi := by omega
          simp [so, goesOn, z0, z1]
  · have cv' : prun Tryz.prog (convert 5 3 (.int .u8 3)) = some (.int .i64 3) := cv
    cases r with
    | nil =>
      refine .inr ⟨w2.drew, ?_, by rw [hv]; simp [so], gd⟩
      obtain ⟨L, hL, hs1⟩ : ∃ L : Int, L = ((c :: []).length : Int) ∧ ∀ ty, prun Tryz.prog (Builtin.len_ #[9] ty #[st (c :: [])]) = some (.int .i64 L) := ⟨_, rfl, fun ty => hs _ ty⟩
      have hL0 : 0 < L := by rw [hL]; simp; try omega
      have hLn :  L < 3 := by rw [hL]; simp; try omega
      simp [f39.l1, hs1, hL0, hLn, ix, hc', ix1, c1, a7, cv', a4, ix2, l2, alloc152, h2]
    | cons a r =>
      cases r with
      | nil =>
        refine .inr ⟨w2.drew, ?_, by rw [hv]; simp [so], gd⟩
        obtain ⟨L, hL, hs1⟩ : ∃ L : Int, L = ((c :: a :: []).length : Int) ∧ ∀ ty, prun Tryz.prog (Builtin.len_ #[9] ty #[st (c :: a :: [])]) = some (.int .i64 L) := ⟨_, rfl, fun ty => hs _ ty⟩
        have hL0 : 0 < L := by rw [hL]; simp; try omega
        have hLn :  L < 3 := by rw [hL]; simp; try omega
        simp [f39.l1, hs1, hL0, hLn, ix, hc', ix1, c1, a7, cv', a4, ix2, l2, alloc152, h2]
      | cons b r =>
        have i1 := str_index (P := Tryz.prog) Tryz.underlying9 (c :: a :: b :: r) .i64 1 (by simp)
        rw [show ((1 : Nat) : Int) = 1 from rfl] at i1
        have i2 := str_index (P := Tryz.prog) Tryz.underlying9 (c :: a :: b :: r) .i64 2 (by simp)
        rw [show ((2 : Nat) : Int) = 2 from rfl] at i2
        simp only [List.getElem_cons_succ, List.getElem_cons_zero] at i1 i2
        obtain ⟨L, hL, hs1⟩ : ∃ L : Int, L = ((c :: a :: b :: r).length : Int) ∧ ∀ ty, prun Tryz.prog (Builtin.len_ #[9] ty #[st (c :: a :: b :: r)]) = some (.int .i64 L) := ⟨_, rfl, fun ty => hs _ ty⟩
        have hL0 : 0 < L := by rw [hL]; simp; try omega
        have hLn : ¬ L < 3 := by rw [hL]; simp; try omega
        have f2 := str_from (P := Tryz.prog) Tryz.underlying9 (c :: a :: b :: r) .i64 3 (by simp)
        rw [show ((3 : Nat) : Int) = 3 from rfl] at f2
        simp only [List.drop_succ_cons, List.drop_zero] at f2
        by_cases q0 : (a.toNat : Int) < lo
        · refine .inr ⟨w2.drew, ?_, by rw [hv]; simp [so, goesOn]; omega, gd⟩
          simp [f39.l1, hs1, hL0, hLn, ix, hc', ix1, c1, a7, cv', a4, ix2, l2, alloc152, h2, i1, i2, addL, p0, p1, q0]
        by_cases q1 : (hi : Int) < a.toNat
        · refine .inr ⟨w2.drew, ?_, by rw [hv]; simp [so, goesOn]; omega, gd⟩
          simp [f39.l1, hs1, hL0, hLn, ix, hc', ix1, c1, a7, cv', a4, ix2, l2, alloc152, h2, i1, i2, addL, p0, p1, q0, q1]
        by_cases q2 : (b.toNat : Int) < 128
        · refine .inr ⟨w2.drew, ?_, by rw [hv]; simp [so, goesOn]; omega, gd⟩
          simp [f39.l1, hs1, hL0, hLn, ix, hc', ix1, c1, a7, cv', a4, ix2, l2, alloc152, h2, i1, i2, addL, p0, p1, q0, q1, q2]
        by_cases q3 : (191 : Int) < b.toNat
        · refine .inr ⟨w2.drew, ?_, by rw [hv]; simp [so, goesOn]; omega, gd⟩
          simp [f39.l1, hs1, hL0, hLn, ix, hc', ix1, c1, a7, cv', a4, ix2, l2, alloc152, h2, i1, i2, addL, p0, p1, q0, q1, q2, q3]
        · refine .inl ⟨r, w2.drew, ?_, ?_, by simp; omega, gd⟩
          · simp [f39.l1, hs1, hL0, hLn, ix, hc', ix1, c1, a7, cv', a4, ix2, l2, alloc152, h2, i1, i2, addL, p0, p1, q0, q1, q2, q3, f2]
          · rw [hv]
            have z0 : lo ≤ a.toNat := by omega
            have z1 : a.toNat ≤ hi := by omega
            have z2 : 128 ≤ b.toNat := by omega
            have z3 : b.toNat ≤ 191 := by omega
            simp [so, goesOn, z0, z1, z2, z3]
  · have cv' : prun Tryz.prog (convert 5 3 (.int .u8 4)) = some (.int .i64 4) := cv
    cases r with
    | nil =>
      refine .inr ⟨w2.drew, ?_, by rw [hv]; simp [so], gd⟩
      obtain ⟨L, hL, hs1⟩ : ∃ L : Int, L = ((c :: []).length : Int) ∧ ∀ ty, prun Tryz.prog (Builtin.len_ #[9] ty #[st (c :: [])]) = some (.int .i64 L) := ⟨_, rfl, fun ty => hs _ ty⟩
      have hL0 : 0 < L := by rw [hL]; simp; try omega
      have hLn :  L < 4 := by rw [hL]; simp; try omega
      simp [f39.l1, hs1, hL0, hLn, ix, hc', ix1, c1, a7, cv', a4, ix2, l2, alloc152, h2]
    | cons a r =>
      cases r with
      | nil =>
        refine .inr ⟨w2.drew, ?_, by rw [hv]; simp [so], gd⟩
        obtain ⟨L, hL, hs1⟩ : ∃ L : Int, L = ((c :: a :: []).length : Int) ∧ ∀ ty, prun Tryz.prog (Builtin.len_ #[9] ty #[st (c :: a :: [])]) = some (.int .i64 L) := ⟨_, rfl, fun ty => hs _ ty⟩
        have hL0 : 0 < L := by rw [hL]; simp; try omega
        have hLn :  L < 4 := by rw [hL]; simp; try omega
        simp [f39.l1, hs1, hL0, hLn, ix, hc', ix1, c1, a7, cv', a4, ix2, l2, alloc152, h2]
      | cons b r =>
        cases r with
        | nil =>
          refine .inr ⟨w2.drew, ?_, by rw [hv]; simp [so], gd⟩
          obtain ⟨L, hL, hs1⟩ : ∃ L : Int, L = ((c :: a :: b :: []).length : Int) ∧ ∀ ty, prun Tryz.prog (Builtin.len_ #[9] ty #[st (c :: a :: b :: [])]) = some (.int .i64 L) := ⟨_, rfl, fun ty => hs _ ty⟩
          have hL0 : 0 < L := by rw [hL]; simp; try omega
          have hLn :  L < 4 := by rw [hL]; simp; try omega
          simp [f39.l1, hs1, hL0, hLn, ix, hc', ix1, c1, a7, cv', a4, ix2, l2, alloc152, h2]
        | cons d r =>
          have i1 := str_index (P := Tryz.prog) Tryz.underlying9 (c :: a :: b :: d :: r) .i64 1 (by simp)
          rw [show ((1 : Nat) : Int) = 1 from rfl] at i1
          have i2 := str_index (P := Tryz.prog) Tryz.underlying9 (c :: a :: b :: d :: r) .i64 2 (by simp)
          rw [show ((2 : Nat) : Int) = 2 from rfl] at i2
          have i3 := str_index (P := Tryz.prog) Tryz.underlying9 (c :: a :: b :: d :: r) .i64 3 (by simp)
          rw [show ((3 : Nat) : Int) = 3 from rfl] at i3
          simp only [List.getElem_cons_succ, List.getElem_cons_zero] at i1 i2 i3
          obtain ⟨L, hL, hs1⟩ : ∃ L : Int, L = ((c :: a :: b :: d :: r).length : Int) ∧ ∀ ty, prun Tryz.prog (Builtin.len_ #[9] ty #[st (c :: a :: b :: d :: r)]) = some (.int .i64 L) := ⟨_, rfl, fun ty => hs _ ty⟩
          have hL0 : 0 < L := by rw [hL]; simp; try omega
          have hLn : ¬ L < 4 := by rw [hL]; simp; try omega
          have f2 := str_from (P := Tryz.prog) Tryz.underlying9 (c :: a :: b :: d :: r) .i64 4 (by simp)
          rw [show ((4 : Nat) : Int) = 4 from rfl] at f2
          simp only [List.drop_succ_cons, List.drop_zero] at f2
          by_cases q0 : (a.toNat : Int) < lo
          · refine .inr ⟨w2.drew, ?_, by rw [hv]; simp [so, goesOn]; omega, gd⟩
            simp [f39.l1, hs1, hL0, hLn, ix, hc', ix1, c1, a7, cv', a4, ix2, l2, alloc152, h2, i1, i2, i3, addL, p0, p1, q0]
          by_cases q1 : (hi : Int) < a.toNat
          · refine .inr ⟨w2.drew, ?_, by rw [hv]; simp [so, goesOn]; omega, gd⟩
            simp [f39.l1, hs1, hL0, hLn, ix, hc', ix1, c1, a7, cv', a4, ix2, l2, alloc152, h2, i1, i2, i3, addL, p0, p1, q0, q1]
          by_cases q2 : (b.toNat : Int) < 128
          · refine .inr ⟨w2.drew, ?_, by rw [hv]; simp [so, goesOn]; omega, gd⟩
            simp [f39.l1, hs1, hL0, hLn, ix, hc', ix1, c1, a7, cv', a4, ix2, l2, alloc152, h2, i1, i2, i3, addL, p0, p1, q0, q1, q2]
          by_cases q3 : (191 : Int) < b.toNat
          · refine .inr ⟨w2.drew, ?_, by rw [hv]; simp [so, goesOn]; omega, gd⟩
            simp [f39.l1, hs1, hL0, hLn, ix, hc', ix1, c1, a7, cv', a4, ix2, l2, alloc152, h2, i1, i2, i3, addL, p0, p1, q0, q1, q2, q3]
          by_cases q4 : (d.toNat : Int) < 128
          · refine .inr ⟨w2.drew, ?_, by rw [hv]; simp [so, goesOn]; omega, gd⟩
            simp [f39.l1, hs1, hL0, hLn, ix, hc', ix1, c1, a7, cv', a4, ix2, l2, alloc152, h2, i1, i2, i3, addL, p0, p1, q0, q1, q2, q3, q4]
          by_cases q5 : (191 : Int) < d.toNat
          · refine .inr ⟨w2.drew, ?_, by rw [hv]; simp [so, goesOn]; omega, gd⟩
            simp [f39.l1, hs1, hL0, hLn, ix, hc', ix1, c1, a7, cv', a4, ix2, l2, alloc152, h2, i1, i2, i3, addL, p0, p1, q0, q1, q2, q3, q4, q5]
          · refine .inl ⟨r, w2.drew, ?_, ?_, by simp; omega, gd⟩
            · simp [f39.l1, hs1, hL0, hLn, ix, hc', ix1, c1, a7, cv', a4, ix2, l2, alloc152, h2, i1, i2, i3, addL, p0, p1, q0, q1, q2, q3, q4, q5, f2]
            · rw [hv]
              have z0 : lo ≤ a.toNat := by omega
              have z1 : a.toNat ≤ hi := by omega
              have z2 : 128 ≤ b.toNat := by omega
              have z3 : b.toNat ≤ 191 := by omega
              have z4 : 128 ≤ d.toNat := by omega
              have z5 : d.toNat ≤ 191 := by omega
              simp [so, goesOn, z0, z1, z2, z3, z4, z5]
end Go.Sh.YtkghbcadnbojgaaGreatDoor
