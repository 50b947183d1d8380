/- cuts: a frame's name says the frame: a plain law. No condition but those that each statement names. -/
import Derived.Lib.ConvBytes
import Derived.Test.YtkghbcadnbojgaaGreatDoorQB3
import Derived.Test.YtkghbcadnbojgaaGreatDoorQB6
namespace Go.Sh.YtkghbcadnbojgaaGreatDoor
open Go Go.Proofs
set_option linter.unusedVariables false
set_option maxRecDepth 100000
/-- what a name of these parts says -/
def numP (c d h mi sec fr : Int) : Int := c * (60 * (60 * h + mi) + sec) + fr - d * ((60 * h + mi) - (60 * h + mi) / 10)
theorem back0 (c M : Nat) (hc : 0 < c) (h : M < 86400 * c) : numP c 0 ((M / c / 3600 : Nat) : Int) ((M / c / 60 % 60 : Nat) : Int) ((M / c % 60 : Nat) : Int) ((M % c : Nat) : Int) = (M : Int) := by
  have e := Nat.div_add_mod M c
  generalize M / c = S at e ⊢
  generalize M % c = F at e ⊢
  have e2 : 60 * (60 * (S / 3600) + S / 60 % 60) + S % 60 = S := by omega
  unfold numP
  have e3 : (60 * (60 * ((S / 3600 : Nat) : Int) + ((S / 60 % 60 : Nat) : Int)) + ((S % 60 : Nat) : Int)) = (S : Int) := by omega
  rw [e3, ← e]
  push_cast
  omega
theorem back2 (T Q S : Nat) (c d : Nat) (hcd : (c = 30 ∧ d = 2) ∨ (c = 60 ∧ d = 4)) (hQ : Q ≤ 8) (hS : S < 60 * c - d) (n M : Nat) (hn : n = (600 * c - 9 * d) * T + 60 * c + (60 * c - d) * Q + S) (hM : M = 600 * c * T + 60 * c + d + 60 * c * Q + S) :
    ¬ (M / c / 60 % 60 % 10 ≠ 0 ∧ M / c % 60 = 0 ∧ M % c < d) ∧ numP c d ((M / c / 3600 : Nat) : Int) ((M / c / 60 % 60 : Nat) : Int) ((M / c % 60 : Nat) : Int) ((M % c : Nat) : Int) = (n : Int) := by
  unfold numP
  rcases hcd with ⟨rfl, rfl⟩ | ⟨rfl, rfl⟩
  · have h1 : M / 30 / 60 = 10 * T + 1 + Q := by omega
    have h2 : M / 30 / 3600 = (M / 30 / 60) / 60 := by omega
    have h3 : M % 1800 = S + 2 := by omega
    have h4 : M / 30 % 60 = (S + 2) / 30 := by omega
    have h5 : M % 30 = (S + 2) % 30 := by omega
    rw [h2, h4, h5, h1]
    constructor
    · omega
    · omega
  · have h1 : M / 60 / 60 = 10 * T + 1 + Q := by omega
    have h2 : M / 60 / 3600 = (M / 60 / 60) / 60 := by omega
    have h3 : M % 3600 = S + 4 := by omega
    have h4 : M / 60 % 60 = (S + 4) / 60 := by omega
    have h5 : M % 60 = (S + 4) % 60 := by omega
    rw [h2, h4, h5, h1]
    constructor
    · omega
    · omega
theorem back1 (T R : Nat) (c d : Nat) (hcd : (c = 30 ∧ d = 2) ∨ (c = 60 ∧ d = 4)) (hR : R < 60 * c) (n M : Nat) (hn : n = (600 * c - 9 * d) * T + R) (hM : M = 600 * c * T + R) :
    ¬ (M / c / 60 % 60 % 10 ≠ 0 ∧ M / c % 60 = 0 ∧ M % c < d) ∧ numP c d ((M / c / 3600 : Nat) : Int) ((M / c / 60 % 60 : Nat) : Int) ((M / c % 60 : Nat) : Int) ((M % c : Nat) : Int) = (n : Int) := by
  unfold numP
  rcases hcd with ⟨rfl, rfl⟩ | ⟨rfl, rfl⟩
  · have h1 : M / 30 / 60 = 10 * T := by omega
    have h2 : M / 30 / 3600 = (M / 30 / 60) / 60 := by omega
    have h4 : M / 30 % 60 = R / 30 := by omega
    have h5 : M % 30 = R % 30 := by omega
    rw [h2, h4, h5, h1]
    constructor
    · omega
    · omega
  · have h1 : M / 60 / 60 = 10 * T := by omega
    have h2 : M / 60 / 3600 = (M / 60 / 60) / 60 := by omega
    have h4 : M / 60 % 60 = R / 60 := by omega
    have h5 : M % 60 = R % 60 := by omega
    rw [h2, h4, h5, h1]
    constructor
    · omega
    · omega
/-- the frame's name, read -/
theorem back {x : Int × Int × Int × Int} (hx : x ∈ rates) (h0 : x.1 ≠ 0) (n : Int) (hn : 0 ≤ n) (hn' : n < perDay x) (c M d : Nat) (hc : (c : Int) = x.1) (hd : (d : Int) = x.2.2.2) (hM : (M : Int) = n + leftOut x n) :
    ¬ (M / c / 60 % 60 % 10 ≠ 0 ∧ M / c % 60 = 0 ∧ M % c < d) ∧ numP c d ((M / c / 3600 : Nat) : Int) ((M / c / 60 % 60 : Nat) : Int) ((M / c % 60 : Nat) : Int) ((M % c : Nat) : Int) = n := by
  obtain ⟨b1, b2⟩ := leftOut_in hx h0 n hn hn'
  rw [← hM, ← hc] at b2
  obtain ⟨k, rfl⟩ : ∃ k : Nat, n = (k : Int) := ⟨n.toNat, by omega⟩
  have plain : d = 0 → leftOut x k = 0 → ¬ (M / c / 60 % 60 % 10 ≠ 0 ∧ M / c % 60 = 0 ∧ M % c < d) ∧ numP c d ((M / c / 3600 : Nat) : Int) ((M / c / 60 % 60 : Nat) : Int) ((M / c % 60 : Nat) : Int) ((M % c : Nat) : Int) = (k : Int) := by
    intro e1 e2
    subst e1
    rw [e2] at hM
    have hMk : M = k := by omega
    refine ⟨by omega, ?_⟩
    have := back0 c M (by omega) (by omega)
    rw [hMk] at this ⊢
    exact this
  have drops : (c = 30 ∧ d = 2) ∨ (c = 60 ∧ d = 4) → leftOut x k = (if 60 * (c : Int) ≤ (k : Int).tmod (600 * c - 9 * d) then (9 * (k : Int).tdiv (600 * c - 9 * d) + (1 + ((k : Int).tmod (600 * c - 9 * d) - 60 * c).tdiv (60 * c - d))) * d else 9 * (k : Int).tdiv (600 * c - 9 * d) * d) → ¬ (M / c / 60 % 60 % 10 ≠ 0 ∧ M / c % 60 = 0 ∧ M % c < d) ∧ numP c d ((M / c / 3600 : Nat) : Int) ((M / c / 60 % 60 : Nat) : Int) ((M / c % 60 : Nat) : Int) ((M % c : Nat) : Int) = (k : Int) := by
    intro hcd e2
    rw [e2, Int.tmod_eq_emod_of_nonneg (by omega), Int.tdiv_eq_ediv_of_nonneg (by omega)] at hM
    rcases hcd with ⟨rfl, rfl⟩ | ⟨rfl, rfl⟩
    · split at hM
      · rename_i hge
        rw [Int.tdiv_eq_ediv_of_nonneg (by omega)] at hM
        exact back2 (k / 17982) ((k % 17982 - 1800) / 1798) ((k % 17982 - 1800) % 1798) 30 2 (.inl ⟨rfl, rfl⟩) (by omega) (by omega) k M (by omega) (by omega)
      · exact back1 (k / 17982) (k % 17982) 30 2 (.inl ⟨rfl, rfl⟩) (by omega) k M (by omega) (by omega)
    · split at hM
      · rename_i hge
        rw [Int.tdiv_eq_ediv_of_nonneg (by omega)] at hM
        exact back2 (k / 35964) ((k % 35964 - 3600) / 3596) ((k % 35964 - 3600) % 3596) 60 4 (.inr ⟨rfl, rfl⟩) (by omega) (by omega) k M (by omega) (by omega)
      · exact back1 (k / 35964) (k % 35964) 60 4 (.inr ⟨rfl, rfl⟩) (by omega) k M (by omega) (by omega)
  have hz : ∀ y : Int × Int × Int × Int, y.2.2.2 = 0 → leftOut y k = 0 := fun y hy => by
    unfold leftOut
    rw [hy, Int.mul_zero, Int.mul_zero]
    split <;> rfl
  have hgen : leftOut x k = (if 60 * (c : Int) ≤ (k : Int).tmod (600 * c - 9 * d) then (9 * (k : Int).tdiv (600 * c - 9 * d) + (1 + ((k : Int).tmod (600 * c - 9 * d) - 60 * c).tdiv (60 * c - d))) * d else 9 * (k : Int).tdiv (600 * c - 9 * d) * d) := by
    unfold leftOut perTen
    rw [hc, hd]
  simp only [rates, List.mem_cons, List.not_mem_nil, or_false] at hx
  rcases hx with rfl | rfl | rfl | rfl | rfl | rfl | rfl | rfl
  · exact absurd rfl h0
  · exact plain (by simpa using hd) (hz _ rfl)
  · exact plain (by simpa using hd) (hz _ rfl)
  · exact plain (by simpa using hd) (hz _ rfl)
  · exact drops (.inl ⟨by simp at hc; omega, by simp at hd; omega⟩) hgen
  · exact plain (by simpa using hd) (hz _ rfl)
  · exact plain (by simpa using hd) (hz _ rfl)
  · exact drops (.inr ⟨by simp at hc; omega, by simp at hd; omega⟩) hgen
end Go.Sh.YtkghbcadnbojgaaGreatDoor

namespace Go.Sh.YtkghbcadnbojgaaGreatDoor
open Go Go.Proofs
set_option linter.unusedVariables false
set_option maxRecDepth 100000
/-- how many names are left out at the beginning of a minute -/
def leftAt (d : Int) (m : Nat) : Int := if m % 10 = 0 then 0 else d
/-- how many names are given ahead of a minute -/
def cum (c d : Int) : Nat → Int
  | 0 => 0
  | m + 1 => cum c d m + (60 * c - leftAt d m)
theorem cum0 (c : Int) : ∀ m : Nat, cum c 0 m = 60 * c * m
  | 0 => by simp [cum]
  | m + 1 => by
    have : leftAt 0 m = 0 := by unfold leftAt; split <;> rfl
    rw [cum, cum0 c m, this, Int.natCast_succ, Int.mul_add]
    omega
theorem cum2 : ∀ m : Nat, cum 30 2 m = 1800 * m - 2 * (m - ((m + 9) / 10 : Nat))
  | 0 => by simp [cum]
  | m + 1 => by
    rw [cum, cum2 m, leftAt]
    split <;> omega
theorem cum4 : ∀ m : Nat, cum 60 4 m = 3600 * m - 4 * (m - ((m + 9) / 10 : Nat))
  | 0 => by simp [cum]
  | m + 1 => by
    rw [cum, cum4 m, leftAt]
    split <;> omega
theorem cum_day {x : Int × Int × Int × Int} (hx : x ∈ rates) : cum x.1 x.2.2.2 1440 = perDay x := by
  simp only [rates, List.mem_cons, List.not_mem_nil, or_false] at hx
  rcases hx with rfl | rfl | rfl | rfl | rfl | rfl | rfl | rfl
  · rw [cum0]; decide
  · rw [cum0]; decide
  · rw [cum0]; decide
  · rw [cum0]; decide
  · rw [cum2]; decide
  · rw [cum0]; decide
  · rw [cum0]; decide
  · rw [cum4]; decide
/-- the number of the name of a frame, by its minute -/
theorem placed_eq {x : Int × Int × Int × Int} (hx : x ∈ rates) (h0 : x.1 ≠ 0) (n : Int) (hn : 0 ≤ n) (m : Nat) (hm : m < 1440) (h1 : cum x.1 x.2.2.2 m ≤ n) (h2 : n < cum x.1 x.2.2.2 (m + 1)) : n + leftOut x n = 60 * x.1 * m + (n - cum x.1 x.2.2.2 m + leftAt x.2.2.2 m) := by
  have hz : ∀ y : Int × Int × Int × Int, y.2.2.2 = 0 → n + leftOut y n = 60 * y.1 * m + (n - cum y.1 y.2.2.2 m + leftAt y.2.2.2 m) := fun y hy => by
    have e1 : leftOut y n = 0 := by
      unfold leftOut
      rw [hy, Int.mul_zero, Int.mul_zero]
      split <;> rfl
    have e2 : leftAt 0 m = 0 := by unfold leftAt; split <;> rfl
    rw [e1, hy, cum0, e2]
    omega
  simp only [rates, List.mem_cons, List.not_mem_nil, or_false] at hx
  rcases hx with rfl | rfl | rfl | rfl | rfl | rfl | rfl | rfl
  · exact absurd rfl h0
  · exact hz _ rfl
  · exact hz _ rfl
  · exact hz _ rfl
  · simp only [cum2] at h1 h2 ⊢
    simp only [leftOut, leftAt, perTen, Int.reduceMul, Int.reduceSub, Int.tmod_eq_emod_of_nonneg hn, Int.tdiv_eq_ediv_of_nonneg hn]
    have hT : n / 17982 = (m / 10 : Nat) := by omega
    have hR : n % 17982 = n - 17982 * (m / 10 : Nat) := by omega
    rw [hT, hR]
    split
    · rename_i hge
      rw [Int.tdiv_eq_ediv_of_nonneg (by omega)]
      by_cases h10 : m % 10 = 0
      · omega
      · have q1 : (m + 9) / 10 = m / 10 + 1 := by omega
        have q2 : (m + 1 + 9) / 10 = m / 10 + 1 := by omega
        rw [q1] at h1
        rw [q2] at h2
        have hQ : (n - 17982 * (m / 10 : Nat) - 1800) / 1798 = (m % 10 : Nat) - 1 := by omega
        rw [hQ, q1, if_neg h10]
        omega
    · rename_i hge
      by_cases h10 : m % 10 = 0
      · have q1 : (m + 9) / 10 = m / 10 := by omega
        rw [q1, if_pos h10]
        omega
      · have q1 : (m + 9) / 10 = m / 10 + 1 := by omega
        rw [q1] at h1
        omega
  · exact hz _ rfl
  · exact hz _ rfl
  · simp only [cum4] at h1 h2 ⊢
    simp only [leftOut, leftAt, perTen, Int.reduceMul, Int.reduceSub, Int.tmod_eq_emod_of_nonneg hn, Int.tdiv_eq_ediv_of_nonneg hn]
    have hT : n / 35964 = (m / 10 : Nat) := by omega
    have hR : n % 35964 = n - 35964 * (m / 10 : Nat) := by omega
    rw [hT, hR]
    split
    · rename_i hge
      rw [Int.tdiv_eq_ediv_of_nonneg (by omega)]
      by_cases h10 : m % 10 = 0
      · omega
      · have q1 : (m + 9) / 10 = m / 10 + 1 := by omega
        have q2 : (m + 1 + 9) / 10 = m / 10 + 1 := by omega
        rw [q1] at h1
        rw [q2] at h2
        have hQ : (n - 35964 * (m / 10 : Nat) - 3600) / 3596 = (m % 10 : Nat) - 1 := by omega
        rw [hQ, q1, if_neg h10]
        omega
    · rename_i hge
      by_cases h10 : m % 10 = 0
      · have q1 : (m + 9) / 10 = m / 10 := by omega
        rw [q1, if_pos h10]
        omega
      · have q1 : (m + 9) / 10 = m / 10 + 1 := by omega
        rw [q1] at h1
        omega
/-- the name, by the minute -/
theorem nameOf_placed (c mk m k : Nat) (hc : 0 < c) (hk : k < 60 * c) : nameOf c mk (60 * c * m + k) = two (m / 60) ++ [58] ++ two (m % 60) ++ [58] ++ two (k / c) ++ [UInt8.ofNat mk] ++ two (k % c) := by
  have e : 60 * c * m + k = c * (60 * m) + k := by rw [Nat.mul_comm 60 c, Nat.mul_assoc]
  have hq : k / c < 60 := (Nat.div_lt_iff_lt_mul hc).mpr hk
  unfold nameOf
  rw [e, Nat.mul_add_div hc, Nat.mul_add_mod c (60 * m) k]
  generalize k / c = q at hq ⊢
  rw [show (60 * m + q) / 3600 = m / 60 by omega, show (60 * m + q) / 60 % 60 = m % 60 by omega, show (60 * m + q) % 60 = q by omega]
end Go.Sh.YtkghbcadnbojgaaGreatDoor

namespace Go.Sh.YtkghbcadnbojgaaGreatDoor
open Go Go.Proofs Go.RowKit Go.Lib Go.Sh.Ev
set_option linter.unusedVariables false
set_option linter.unusedSimpArgs false
set_option maxRecDepth 100000
def goodAt (mk i : Nat) (c : UInt8) : Prop := if i = 8 then c.toNat = mk else if i % 3 = 2 then c.toNat = 58 else 48 ≤ c.toNat ∧ c.toNat ≤ 57
theorem form_ok {w : World} (c n d r : Int) (s : List UInt8) (hl : s.length = 11) (hg : ∀ i c, s[i]? = some c → goodAt (markOf r) i c) : ∃ w', C 132 #[.agg #[.int .i64 c, .int .i64 n, .int .i64 d, .int .i64 r], st s] w = some (.int .i64 (-1), w') ∧ w.grownBy w' none := by
  have s0 : Sat w emp w := ⟨Grew.refl _ _, ⟨fun _ => False, rfl⟩⟩
  have y0 := s0.newBlk 145 (rc (c, n, d, r))
  obtain ⟨w0, hw0⟩ : ∃ w0, w0 = w.alloc (.cells (rc (c, n, d, r)).toArray 145) := ⟨_, rfl⟩
  have bx : erun Tryz.prog (Instr.box 145 (.agg #[.int .i64 c, .int .i64 n, .int .i64 d, .int .i64 r])) w = some (.pointer (some ⟨w.heap.size, 0, none⟩), w0) := by rw [hw0]; rfl
  rw [← hw0] at y0
  have s1 := y0.newIter ⟨s.toArray⟩
  have rg := str_range (P := Tryz.prog) Tryz.underlying9 ⟨s.toArray⟩ w0
  have hsz : (⟨s.toArray⟩ : ByteArray).size = s.length := st_size s
  have mb : markOf r = 58 ∨ markOf r = 59 := by unfold markOf; split <;> simp
  have key := iter_down (f := f132.l0 C) (fun k ws w1 => ∃ i : Nat, ws = [st s, .pointer (some ⟨w.heap.size, 0, none⟩), .int .i64 (i : Int), .pointer (some ⟨w0.heap.size, 0, none⟩)] ∧ i + k = 11 ∧ Sat w (iterA w0.heap.size ⟨s.toArray⟩ i * (blkA w.heap.size 145 (rc (c, n, d, r)) * emp)) w1)
    (fun q => ∃ w', q = .exit 0 [st s, .int .i64 11] w' ∧ w.grownBy w' none) (by
      rintro k ws w1 ⟨i, rfl, hik, x⟩
      cases k with
      | zero =>
        obtain rfl : i = 11 := by omega
        have h1 := x.iterEnd 0 (P := Tryz.prog) (by rw [hsz]; omega)
        exact .inr ⟨.exit 0 [st s, .int .i64 ((11 : Nat) : Int)] w1, by simp [f132.l0, h1], ⟨w1, rfl, grown_of x⟩, by simp⟩
      | succ k =>
        have hil : i < s.length := by omega
        obtain ⟨ch, hch⟩ : ∃ ch, s[i]? = some ch := ⟨s[i], List.getElem?_eq_getElem hil⟩
        have hgood := hg i ch hch
        have hct : s.drop i = ch :: s.drop (i + 1) := by
          rw [List.drop_eq_getElem_cons hil]
          rw [List.getElem?_eq_getElem hil] at hch
          rw [Option.some.inj hch]
        have hlow : ch.toNat < 128 := by
          unfold goodAt at hgood
          split at hgood
          · omega
          · split at hgood <;> omega
        have hdec : Utf8.decode ⟨s.toArray⟩ i = (ch.toNat, 1) := by
          rw [← decodeL_drop]
          show decodeL (s.drop i) = _
          rw [hct, dec_asc _ hlow]
        obtain ⟨w2, h2, x2⟩ := x.iterNext 0 (P := Tryz.prog) (by rw [hsz]; exact hil)
        rw [hdec] at h2 x2
        simp only [] at h2
        obtain ⟨N, hN⟩ : ∃ N : Nat, N = ch.toNat := ⟨_, rfl⟩
        rw [← hN] at h2 hlow
        have e1 : IntKind.i64.wrap ((i : Int) + 1) = ((i + 1 : Nat) : Int) := (wrap_i64 (by omega) (by omega)).trans (by omega)
        have n11 : ¬ (i : Int) = 11 := by omega
        by_cases h8 : i = 8
        · subst h8
          rw [goodAt, if_pos rfl] at hgood
          have xb := x2.eq (by ac_rfl : _ = blkA w.heap.size 145 (rc (c, n, d, r)) * (iterA w0.heap.size ⟨s.toArray⟩ (8 + 1) * emp))
          have lb := ld145b xb.blk
          obtain ⟨w3, h3, g3⟩ := mark_ok c n d r w2
          have cv := cv5_21 (markOf r : Int)
          have e2 : IntKind.i32.wrap (markOf r : Int) = (markOf r : Int) := by rcases mb with h | h <;> rw [h] <;> decide
          rw [e2] at cv
          rw [show markOf r = N by omega] at cv h3
          refine .inl ⟨k, _, w3, by omega, ?_, ⟨9, rfl, by omega, x2.grown g3⟩⟩
          simp only [rv] at lb
          simp [f132.l0, h2, lb, h3, cv]
          decide
        · rw [goodAt, if_neg h8] at hgood
          have n8 : ¬ (i : Int) = 8 := by omega
          have q := remN i 3 (by omega)
          rw [show ((3 : Nat) : Int) = 3 from rfl] at q
          by_cases h3 : i % 3 = 2
          · rw [if_pos h3] at hgood
            have hN' : (N : Int) = 58 := by omega
            rw [hN'] at h2
            rw [h3] at q
            refine .inl ⟨k, _, w2, by omega, ?_, ⟨i + 1, rfl, by omega, x2⟩⟩
            simp [f132.l0, h2, n11, n8, q, e1]
          · rw [if_neg h3] at hgood
            have a1 : ¬ (N : Int) < 48 := by omega
            have a2 : ¬ (57 : Int) < N := by omega
            obtain ⟨R, hR⟩ : ∃ R : Int, R = ((i % 3 : Nat) : Int) := ⟨_, rfl⟩
            have hR2 : ¬ R = 2 := by omega
            rw [← hR] at q
            refine .inl ⟨k, _, w2, by omega, ?_, ⟨i + 1, rfl, by omega, x2⟩⟩
            simp [f132.l0, h2, n11, n8, q, hR2, a1, a2, e1]) 11 _ _ ⟨0, rfl, by omega, s1⟩
  obtain ⟨q, h1, w', rfl, g⟩ := key
  refine ⟨w', f132.run rfl ?_, g⟩
  simp at h1
  simp [f132, bx, rg, h1]
theorem part_ok {w : World} {b : Nat} {s : List UInt8} (hb : Blk w b 9 [st s]) (i k : Nat) (hs : s.length ≤ 1000) (hi : i + 1 < s.length) (hk : k < 100) (h0 : s[i]? = some (UInt8.ofNat (48 + k / 10))) (h1 : s[i + 1]? = some (UInt8.ofNat (48 + k % 10))) : C 133 #[.int .i64 (i : Int), .pointer (some ⟨b, 0, none⟩)] w = some (.int .i64 (k : Int), w.drew) := by
  have c0 := hb.cell_eq 0 rfl
  have i0 := str_index (P := Tryz.prog) Tryz.underlying9 s .i64 i (by omega)
  have i1 := str_index (P := Tryz.prog) Tryz.underlying9 s .i64 (i + 1) hi
  rw [List.getElem?_eq_getElem (by omega)] at h0 h1
  rw [Option.some.inj h0] at i0
  rw [Option.some.inj h1] at i1
  have t1 : (UInt8.ofNat (48 + k / 10)).toNat = 48 + k / 10 := by simp; omega
  have t2 : (UInt8.ofNat (48 + k % 10)).toNat = 48 + k % 10 := by simp; omega
  rw [t1] at i0
  rw [t2] at i1
  have e0 : IntKind.u8.wrap (((48 + k / 10 : Nat) : Int) - 48) = ((k / 10 : Nat) : Int) := by rw [show ((48 + k / 10 : Nat) : Int) - 48 = ((k / 10 : Nat) : Int) by omega, wrap_u8n]; congr 1; omega
  have e1 : IntKind.u8.wrap (((48 + k % 10 : Nat) : Int) - 48) = ((k % 10 : Nat) : Int) := by rw [show ((48 + k % 10 : Nat) : Int) - 48 = ((k % 10 : Nat) : Int) by omega, wrap_u8n]; congr 1; omega
  have cv : ∀ z : Int, prun Tryz.prog (convert 5 3 (.int .u8 z)) = some (.int .i64 (IntKind.i64.wrap z)) := fun z => id (by kernel_rfl)
  have a0 : IntKind.i64.wrap ((k / 10 : Nat) : Int) = ((k / 10 : Nat) : Int) := wrap_i64 (by omega) (by omega)
  have a1 : IntKind.i64.wrap ((k % 10 : Nat) : Int) = ((k % 10 : Nat) : Int) := wrap_i64 (by omega) (by omega)
  have a2 : IntKind.i64.wrap (10 * ((k / 10 : Nat) : Int)) = 10 * ((k / 10 : Nat) : Int) := wrap_i64 (by omega) (by omega)
  have a3 : IntKind.i64.wrap (10 * ((k / 10 : Nat) : Int) + ((k % 10 : Nat) : Int)) = (k : Int) := (wrap_i64 (by omega) (by omega)).trans (by omega)
  have a4 : IntKind.i64.wrap ((i : Int) + 1) = ((i + 1 : Nat) : Int) := (wrap_i64 (by omega) (by omega)).trans (by omega)
  refine f133.run rfl ?_
  obtain ⟨A, hA⟩ : ∃ A : Int, A = ((k / 10 : Nat) : Int) := ⟨_, rfl⟩
  obtain ⟨B, hB⟩ : ∃ B : Int, B = ((k % 10 : Nat) : Int) := ⟨_, rfl⟩
  obtain ⟨I, hI⟩ : ∃ I : Int, I = ((i + 1 : Nat) : Int) := ⟨_, rfl⟩
  obtain ⟨A2, hA2⟩ : ∃ A : Int, A = ((48 + k / 10 : Nat) : Int) := ⟨_, rfl⟩
  obtain ⟨B2, hB2⟩ : ∃ B : Int, B = ((48 + k % 10 : Nat) : Int) := ⟨_, rfl⟩
  rw [← hA] at e0 a0 a2 a3
  rw [← hB] at e1 a1 a3
  rw [← hI] at a4 i1
  rw [← hA2] at i0 e0
  rw [← hB2] at i1 e1
  simp [f133, c0, i0, i1, e0, e1, cv, a0, a1, a2, a3, a4]
end Go.Sh.YtkghbcadnbojgaaGreatDoor

namespace Go.Sh.YtkghbcadnbojgaaGreatDoor
open Go Go.Proofs Go.RowKit Go.Lib Go.Sh.Ev
set_option linter.unusedVariables false
set_option linter.unusedSimpArgs false
set_option maxRecDepth 100000
theorem vs_all : ∀ (l : List UInt8), (∀ b ∈ l, b.toNat < 128) → ∀ m, vs 0 (l ++ m) = vs 0 m
  | [], _, m => rfl
  | c :: r, h, m => by rw [List.cons_append, vs_byte _ (h c (by simp)), vs_all r (fun b hb => h b (by simp [hb])) m]
theorem so_app {n lo hi : Nat} {r : List UInt8} (m : List UInt8) (h : so n lo hi r = true) : so n lo hi (r ++ m) = true := by
  rcases so_len h with ⟨rfl, _⟩ | ⟨rfl, _⟩ | ⟨rfl, _⟩
  · match r, h with
    | a :: t, h => exact h
  · match r, h with
    | a :: b :: t, h => exact h
  · match r, h with
    | a :: b :: c :: t, h => exact h
theorem vs_append : ∀ (n : Nat) (l m : List UInt8), l.length ≤ n → vs 0 l = true → vs 0 (l ++ m) = vs 0 m
  | _, [], m, _, _ => rfl
  | 0, c :: r, m, hn, _ => by simp at hn
  | n + 1, c :: r, m, hn, hv => by
    have hr : r.length ≤ n := by simp at hn; exact hn
    by_cases hc : c.toNat < 128
    · rw [vs_byte r hc] at hv
      rw [List.cons_append, vs_byte _ hc, vs_append n r m hr hv]
    · have hc' : 128 ≤ c.toNat := by omega
      rw [vs_lead r hc'] at hv
      simp only [Bool.and_eq_true] at hv
      have h1 : signOk (lead c) (r ++ m) = true := so_app m hv.1
      have hl := so_len hv.1
      rw [List.cons_append, vs_lead _ hc', h1, Bool.true_and, List.drop_append_of_le_length (by omega), vs_append n _ m (by rw [List.length_drop]; omega) hv.2]
theorem vs_app {l m : List UInt8} (h1 : vs 0 l = true) (h2 : vs 0 m = true) : vs 0 (l ++ m) = true := by rw [vs_append l.length l m (Nat.le_refl _) h1, h2]
theorem vs_asc0 {l : List UInt8} (h : ∀ b ∈ l, b.toNat < 128) : vs 0 l = true := by have := vs_all l h []; rw [List.append_nil] at this; rw [this]; rfl
/-- a text between its quotes -/
def esc1 (c : UInt8) : List UInt8 := if c = 34 ∨ c = 92 then [92, c] else if c = 10 then [92, 110] else [c]
def esc (l : List UInt8) : List UInt8 := l.flatMap esc1
def quo (l : List UInt8) : List UInt8 := 34 :: (esc l ++ [34])
theorem esc_hi : ∀ (l m : List UInt8), (∀ b ∈ l, 128 ≤ b.toNat) → esc (l ++ m) = l ++ esc m
  | [], m, _ => rfl
  | c :: r, m, h => by
    have hc := h c (by simp)
    have h1 : ¬ (c = 34 ∨ c = 92) := by rintro (rfl | rfl) <;> simp at hc
    have h2 : ¬ c = 10 := by rintro rfl; simp at hc
    have ih := esc_hi r m fun b hb => h b (by simp [hb])
    rw [esc] at ih ⊢
    rw [List.cons_append, List.flatMap_cons, ih, esc1, if_neg h1, if_neg h2]
    rfl
theorem qt_esc : ∀ (n : Nat) (t rest o : List UInt8) (p : Nat), t.length ≤ n → vs 0 t = true → qt 0 (esc t ++ 34 :: rest) false false o p = some (o ++ t, false, p + (esc t).length)
  | _, [], rest, o, p, _, _ => by simp [esc, qt]
  | 0, c :: r, rest, o, p, hn, _ => by simp at hn
  | n + 1, c :: r, rest, o, p, hn, hv => by
    have hr : r.length ≤ n := by simp at hn; exact hn
    by_cases hc : c.toNat < 128
    · rw [vs_byte r hc] at hv
      have e0 : esc (c :: r) = esc1 c ++ esc r := by rw [esc, List.flatMap_cons, ← esc]
      rw [e0]
      by_cases h1 : c = 34 ∨ c = 92
      · have e1 : esc1 c = [92, c] := by rw [esc1, if_pos h1]
        have ih := qt_esc n r rest (o ++ [c]) (p + 1 + 1) hr hv
        rw [e1]
        simp only [List.cons_append, List.nil_append]
        rw [qt, if_pos rfl, qt, if_pos h1, ih]
        simp
        omega
      · by_cases h2 : c = 10
        · have e1 : esc1 c = [92, 110] := by rw [esc1, if_neg h1, if_pos h2]
          have ih := qt_esc n r rest (o ++ [10]) (p + 1 + 1) hr hv
          rw [e1]
          simp only [List.cons_append, List.nil_append]
          rw [qt, if_pos rfl, qt, if_neg (by decide), if_pos rfl, ih, h2]
          simp
          omega
        · have e1 : esc1 c = [c] := by rw [esc1, if_neg h1, if_neg h2]
          have hw : wid c = 1 := by simp [wid, hc]
          have ih := qt_esc n r rest (o ++ [c]) (p + 1) hr hv
          rw [e1]
          simp only [List.cons_append, List.nil_append]
          rw [qt, if_neg (fun h => h1 (.inr h)), if_neg (fun h => h1 (.inl h)), hw]
          simp only [Nat.sub_self, List.take_succ_cons, List.take_zero]
          rw [ih]
          simp
          omega
    · obtain ⟨R, e1, e2, e3, e4, e5, e6, e7, e8, e9⟩ := sign_at hv
      have hall : ∀ b ∈ (c :: r).take (wid c), 128 ≤ b.toNat := fun b hb => by
        rw [← e2] at hb
        exact enc_all (e6 (by omega)) e3 b hb
      have hsp : c :: r = (c :: r).take (wid c) ++ (c :: r).drop (wid c) := (List.take_append_drop _ _).symm
      have he : esc (c :: r) = (c :: r).take (wid c) ++ esc ((c :: r).drop (wid c)) := by
        conv => lhs; rw [hsp]
        exact esc_hi _ _ hall
      have hlt : ((c :: r).take (wid c)).length = wid c := by rw [List.length_take, List.length_cons]; omega
      obtain ⟨m, hm⟩ : ∃ m, wid c = m + 1 := ⟨wid c - 1, by omega⟩
      have ih := qt_esc n ((c :: r).drop (wid c)) rest (o ++ (c :: r).take (wid c)) (p + wid c) (by rw [List.length_drop, List.length_cons]; omega) e9
      have ht2 : (esc (c :: r) ++ 34 :: rest).take (wid c) = (c :: r).take (wid c) := by
        rw [he, List.append_assoc]
        exact List.take_left' hlt
      have hd2 : (esc (c :: r) ++ 34 :: rest).drop (wid c) = esc ((c :: r).drop (wid c)) ++ 34 :: rest := by
        rw [he, List.append_assoc]
        exact List.drop_left' hlt
      have hfull : o ++ (c :: r).take (wid c) ++ (c :: r).drop (wid c) = o ++ (c :: r) := by rw [List.append_assoc, List.take_append_drop]
      have hlen : p + wid c + (esc ((c :: r).drop (wid c))).length = p + (esc (c :: r)).length := by rw [he, List.length_append, hlt]; omega
      rw [hfull, hlen] at ih
      obtain ⟨tl, htl⟩ : ∃ tl, esc (c :: r) ++ 34 :: rest = c :: tl := by
        rw [he, hm, List.take_succ_cons]
        exact ⟨_, rfl⟩
      rw [htl] at ht2 hd2 ⊢
      have h1 : ¬ c = 92 := by rintro rfl; simp at hc
      have h2 : ¬ c = 34 := by rintro rfl; simp at hc
      rw [qt, if_neg h1, if_neg h2, qt_drop, ht2]
      have hd3 : tl.drop (wid c - 1) = (c :: tl).drop (wid c) := by rw [hm, List.drop_succ_cons]; rfl
      rw [hd3, hd2, show p + 1 + (wid c - 1) = p + wid c by omega, ih]
theorem txt_esc {t : List UInt8} (rest : List UInt8) (h : vs 0 t = true) : txt (esc t ++ 34 :: rest) = (t, false, (quo t).length) := by
  unfold txt
  rw [qt_esc t.length t rest [] 0 (Nat.le_refl _) h]
  simp [quo]
/-! ### words of a line -/
structure Tk where
  s : List UInt8
  t : Bool
def Wd.tk (x : Wd) : Tk := ⟨x.s, x.t⟩
/-- a word as it is written -/
def Tk.out (k : Tk) : List UInt8 := bif k.t then quo k.s else k.s
/-- a plain word -/
def plainW (l : List UInt8) : Bool := match l with
  | [] => false
  | c :: r => decide (c ≠ 34) && decide (c ≠ 35) && (c :: r).all fun b => !isB b
structure Tk.Ok (k : Tk) : Prop where
  txt : k.t = true → vs 0 k.s = true
  pln : k.t = false → plainW k.s = true
/-- what is empty, or begins with a blank -/
def Be (l : List UInt8) : Prop := l = [] ∨ ∃ c r, l = c :: r ∧ isB c = true
theorem wds_skip : ∀ (b : List UInt8) (n p : Nat) (r : List UInt8) (acc : List Wd), (∀ c ∈ b, isB c = true) → wds (n + b.length) p (b ++ r) acc = wds n (p + b.length) r acc
  | [], n, p, r, acc, _ => rfl
  | c :: b, n, p, r, acc, h => by
    rw [List.length_cons, ← Nat.add_assoc, List.cons_append, wds, if_pos (h c (by simp)), wds_skip b n (p + 1) r acc fun c hc => h c (by simp [hc])]
    congr 1
    omega
theorem plain_len {w rest : List UInt8} (hw : w.all (fun b => !isB b) = true) (hr : Be rest) : plainN (w ++ rest) = w.length := by
  have h0 : w.findIdx? isB = none := by
    rw [List.findIdx?_eq_none_iff]
    intro x hx
    have := List.all_eq_true.mp hw x hx
    simpa using this
  unfold plainN
  rw [List.findIdx?_append, h0]
  rcases hr with rfl | ⟨c, r, rfl, hc⟩
  · simp
  · simp [List.findIdx?_cons, hc]
theorem wds_word {w rest : List UInt8} (hw : plainW w = true) (hr : Be rest) (n p : Nat) (acc : List Wd) : wds (n + 1) p (w ++ rest) acc = wds n (p + w.length) rest (acc ++ [⟨p, w, false, false⟩]) := by
  match w, hw with
  | c :: r, hw =>
    simp only [plainW, Bool.and_eq_true, decide_eq_true_eq] at hw
    obtain ⟨⟨h1, h2⟩, h3⟩ := hw
    have hb : ¬ isB c = true := by
      have := List.all_eq_true.mp h3 c (by simp)
      simpa using this
    have hp := plain_len h3 hr
    rw [List.cons_append] at hp ⊢
    rw [wds, if_neg hb, if_neg h2, if_neg h1, hp]
    rw [show c :: (r ++ rest) = (c :: r) ++ rest from rfl, List.drop_left' rfl, List.take_left' rfl]
theorem wds_text {t : List UInt8} (h : vs 0 t = true) (rest : List UInt8) (n p : Nat) (acc : List Wd) : wds (n + 1) p (quo t ++ rest) acc = wds n (p + (quo t).length) rest (acc ++ [⟨p, t, true, false⟩]) := by
  have e : quo t ++ rest = 34 :: (esc t ++ 34 :: rest) := by simp [quo]
  have hd : (34 :: (esc t ++ 34 :: rest)).drop (quo t).length = rest := by rw [← e]; exact List.drop_left' rfl
  rw [e, wds, if_neg (by decide), if_neg (by decide), if_pos rfl, txt_esc rest h]
  simp only
  rw [hd]
theorem wds_tk {k : Tk} (hk : k.Ok) {rest : List UInt8} (hr : Be rest) (n p : Nat) (acc : List Wd) : ∃ x : Wd, x.tk = k ∧ x.b = false ∧ wds (n + 1) p (k.out ++ rest) acc = wds n (p + k.out.length) rest (acc ++ [x]) := by
  obtain ⟨s, t⟩ := k
  cases t with
  | true => exact ⟨⟨p, s, true, false⟩, rfl, rfl, wds_text (hk.txt rfl) rest n p acc⟩
  | false => exact ⟨⟨p, s, false, false⟩, rfl, rfl, wds_word (hk.pln rfl) hr n p acc⟩
theorem out_pos {k : Tk} (hk : k.Ok) : 1 ≤ k.out.length := by
  obtain ⟨s, t⟩ := k
  cases t with
  | true => simp [Tk.out, quo]
  | false =>
    have := hk.pln rfl
    match s, this with
    | c :: r, _ => simp [Tk.out]
/-- a line of some words says these words -/
def Means (l : List UInt8) (ks : List Tk) : Prop := ∀ (n p : Nat) (acc : List Wd), l.length < n → ∃ ws p', wds n p l acc = (acc ++ ws, p') ∧ ws.map Wd.tk = ks ∧ ∀ x ∈ ws, x.b = false
/-- words, each with what stands ahead of it -/
def lineT (l : List (List UInt8 × Tk)) : List UInt8 := l.flatMap fun x => x.1 ++ x.2.out
theorem line_means {E : List UInt8} (hE : Means E []) (hB : Be E) : ∀ (l : List (List UInt8 × Tk)), (∀ x ∈ l, x.2.Ok ∧ ∀ c ∈ x.1, isB c = true) → (∀ x ∈ l.tail, x.1 ≠ []) → Means (lineT l ++ E) (l.map (·.2))
  | [], _, _ => hE
  | (b, k) :: l, h1, h2 => by
    intro n p acc hn
    obtain ⟨hk, hb⟩ : k.Ok ∧ ∀ c ∈ b, isB c = true := h1 (b, k) (by simp)
    have ih := line_means hE hB l (fun x hx => h1 x (by simp [hx])) (fun x hx => h2 x (by rw [List.tail_cons]; exact List.mem_of_mem_tail hx))
    have hbe : Be (lineT l ++ E) := by
      cases l with
      | nil => exact hB
      | cons y l =>
        obtain ⟨b', k'⟩ := y
        have hne : b' ≠ [] := h2 (b', k') (by simp)
        match b', hne with
        | c :: b', _ => exact .inr ⟨c, _, rfl, (h1 (c :: b', k') (by simp)).2 c (by simp)⟩
    have e : lineT ((b, k) :: l) ++ E = b ++ (k.out ++ (lineT l ++ E)) := by simp [lineT]
    have hop := out_pos hk
    rw [e] at hn ⊢
    simp only [List.length_append] at hn ih
    obtain ⟨m, rfl⟩ : ∃ m, n = m + 1 + b.length := ⟨n - 1 - b.length, by omega⟩
    obtain ⟨x, hx1, hx2, hx3⟩ := wds_tk hk hbe m (p + b.length) acc
    rw [wds_skip b _ _ _ _ hb, hx3]
    obtain ⟨ws, p', k1, k2, k3⟩ := ih m (p + b.length + k.out.length) (acc ++ [x]) (by rw [List.length_append]; omega)
    refine ⟨x :: ws, p', by rw [k1, List.append_assoc]; rfl, by simp [hx1, k2], fun y hy => ?_⟩
    rcases List.mem_cons.mp hy with rfl | hy
    · exact hx2
    · exact k3 y hy
theorem means_blank {b : List UInt8} (h : ∀ c ∈ b, isB c = true) : Means b [] := by
  intro n p acc hn
  obtain ⟨m, rfl⟩ : ∃ m, n = m + b.length := ⟨n - b.length, by omega⟩
  have := wds_skip b m p [] acc h
  rw [List.append_nil] at this
  refine ⟨[], p + b.length, ?_, rfl, by simp⟩
  rw [this, List.append_nil]
  cases m <;> rfl
theorem means_rem {b : List UInt8} (r : List UInt8) (h : ∀ c ∈ b, isB c = true) : Means (b ++ 35 :: r) [] := by
  intro n p acc hn
  simp only [List.length_append, List.length_cons] at hn
  obtain ⟨m, rfl⟩ : ∃ m, n = m + 1 + b.length := ⟨n - 1 - b.length, by omega⟩
  refine ⟨[], p + b.length, ?_, rfl, by simp⟩
  rw [wds_skip b _ _ _ _ h, wds, if_neg (by decide), if_pos rfl, List.append_nil]
end Go.Sh.YtkghbcadnbojgaaGreatDoor

namespace Go.Sh.YtkghbcadnbojgaaGreatDoor
open Go Go.Proofs Go.RowKit Go.Lib Go.Sh.Ev
set_option linter.unusedVariables false
set_option linter.unusedSimpArgs false
set_option maxRecDepth 100000
/-- lines as a text -/
def txtOf (P : List (List UInt8)) : List UInt8 := P.flatMap (· ++ [10])
theorem txtOf_cons (L : List UInt8) (P : List (List UInt8)) : txtOf (L :: P) = L ++ 10 :: txtOf P := by simp [txtOf]
theorem txtOf_app (P Q : List (List UInt8)) : txtOf (P ++ Q) = txtOf P ++ txtOf Q := by simp [txtOf]
/-- lines say these lists of words; lines without a word say nothing -/
def Reads : List (List UInt8) → List (List Tk) → Prop
  | [], ls => ls = []
  | L :: P, ls => (∀ c ∈ L, c ≠ 10) ∧ vs 0 L = true ∧ ((Means L [] ∧ Reads P ls) ∨ ∃ k ls', ls = k :: ls' ∧ k ≠ [] ∧ Means L k ∧ Reads P ls')
theorem reads_app : ∀ {P Q : List (List UInt8)} {ls ms : List (List Tk)}, Reads P ls → Reads Q ms → Reads (P ++ Q) (ls ++ ms)
  | [], Q, ls, ms, h, h2 => by
    have : ls = [] := h
    subst this
    exact h2
  | L :: P, Q, ls, ms, ⟨h0, hv, h⟩, h2 => by
    refine ⟨h0, hv, ?_⟩
    rcases h with ⟨h1, h3⟩ | ⟨k, ls', rfl, h3, h4, h5⟩
    · exact .inl ⟨h1, reads_app h3 h2⟩
    · exact .inr ⟨k, ls' ++ ms, rfl, h3, h4, reads_app h5 h2⟩
theorem reads_valid : ∀ {P : List (List UInt8)} {ls : List (List Tk)}, Reads P ls → vs 0 (txtOf P) = true
  | [], ls, h => rfl
  | L :: P, ls, ⟨h0, hv, h⟩ => by
    rw [txtOf_cons]
    refine vs_app hv ?_
    rw [vs_byte _ (by decide)]
    rcases h with ⟨h1, h3⟩ | ⟨k, ls', rfl, h3, h4, h5⟩
    · exact reads_valid h3
    · exact reads_valid h5
/-- how a frame is named -/
def fname (r : Int) (n : Int) : List UInt8 := match rates[r.toNat]? with
  | some x => nameOf x.1.toNat (markOf x.2.2.2) (n + leftOut x n).toNat
  | none => []
def listTk (t : List UInt8) (r : Int) : List Tk := [⟨tList, false⟩, ⟨rname r, false⟩, ⟨t, true⟩]
def fadeTk (f : Int) : List Tk := if 0 < f then [⟨tFade, false⟩, ⟨dec f.toNat, false⟩] else [⟨tCut, false⟩]
def noteTk (n : List UInt8) : List Tk := if n = [] then [] else [⟨n, true⟩]
def evTk (r : Int) (e : Ev) : List Tk := fadeTk e.f ++ ([⟨e.s, false⟩, ⟨fname r e.i, false⟩, ⟨fname r e.o, false⟩] ++ noteTk e.n)
def cutTk (t : List UInt8) (r : Int) (q : List Ev) : List (List Tk) := listTk t r :: q.map (evTk r)
/-! ### what stands between words -/
def blankS : List (List UInt8) := [[32], [32, 32], [9], [32, 9, 32]]
def freeS : List (List UInt8) := [[], [], [32], [9]]
def noneS : List (List UInt8) := [[], [], [10], [35, 32, 99, 117, 116, 32, 120, 10], [32, 9, 10], [35, 34, 10, 10]]
def endS : List (List UInt8) := [[10], [10], [32, 35, 32, 102, 97, 100, 101, 32, 51, 10], [9, 10], [32, 35, 10]]
theorem blank_in {b : List UInt8} (h : b ∈ blankS) : b ≠ [] ∧ (∀ c ∈ b, isB c = true) ∧ b.length ≤ 10 := by
  simp only [blankS, List.mem_cons, List.not_mem_nil, or_false] at h
  rcases h with rfl | rfl | rfl | rfl <;> decide
theorem free_in {b : List UInt8} (h : b ∈ freeS) : (∀ c ∈ b, isB c = true) ∧ b.length ≤ 10 := by
  simp only [freeS, List.mem_cons, List.not_mem_nil, or_false] at h
  rcases h with rfl | rfl | rfl | rfl <;> decide
theorem none_in {b : List UInt8} (h : b ∈ noneS) : (∃ P, b = txtOf P ∧ Reads P []) ∧ b.length ≤ 10 := by
  simp only [noneS, List.mem_cons, List.not_mem_nil, or_false] at h
  rcases h with rfl | rfl | rfl | rfl | rfl | rfl
  · exact ⟨⟨[], rfl, rfl⟩, by decide⟩
  · exact ⟨⟨[], rfl, rfl⟩, by decide⟩
  · exact ⟨⟨[[]], rfl, by simp, rfl, .inl ⟨means_blank (by simp), rfl⟩⟩, by decide⟩
  · exact ⟨⟨[[35, 32, 99, 117, 116, 32, 120]], rfl, by decide, vs_asc0 (by decide), .inl ⟨means_rem (b := []) _ (by simp), rfl⟩⟩, by decide⟩
  · exact ⟨⟨[[32, 9]], rfl, by decide, vs_asc0 (by decide), .inl ⟨means_blank (by decide), rfl⟩⟩, by decide⟩
  · exact ⟨⟨[[35, 34], []], rfl, by decide, vs_asc0 (by decide), .inl ⟨means_rem (b := []) _ (by simp), by simp, rfl, .inl ⟨means_blank (by simp), rfl⟩⟩⟩, by decide⟩
theorem end_in {b : List UInt8} (h : b ∈ endS) : (∃ E, b = E ++ [10] ∧ Means E [] ∧ Be E ∧ (∀ c ∈ E, c ≠ 10) ∧ vs 0 E = true) ∧ b.length ≤ 10 := by
  simp only [endS, List.mem_cons, List.not_mem_nil, or_false] at h
  rcases h with rfl | rfl | rfl | rfl | rfl
  · exact ⟨⟨[], rfl, means_blank (by simp), .inl rfl, by simp, rfl⟩, by decide⟩
  · exact ⟨⟨[], rfl, means_blank (by simp), .inl rfl, by simp, rfl⟩, by decide⟩
  · exact ⟨⟨[32, 35, 32, 102, 97, 100, 101, 32, 51], rfl, means_rem (b := [32]) _ (by decide), .inr ⟨_, _, rfl, by decide⟩, by decide, vs_asc0 (by decide)⟩, by decide⟩
  · exact ⟨⟨[9], rfl, means_blank (by decide), .inr ⟨_, _, rfl, by decide⟩, by decide, vs_asc0 (by decide)⟩, by decide⟩
  · exact ⟨⟨[32, 35], rfl, means_rem (b := [32]) [] (by decide), .inr ⟨_, _, rfl, by decide⟩, by decide, vs_asc0 (by decide)⟩, by decide⟩
theorem isB_vs {b : List UInt8} (h : ∀ c ∈ b, isB c = true) : vs 0 b = true := vs_asc0 fun c hc => isB_low (h c hc)
theorem isB_10 {b : List UInt8} (h : ∀ c ∈ b, isB c = true) : ∀ c ∈ b, c ≠ 10 := fun c hc => by
  rintro rfl
  exact absurd (h 10 hc) (by decide)
/-- a word that may be written in a line -/
structure Tk.Fit (k : Tk) : Prop extends k.Ok where
  nl : ∀ c ∈ k.out, c ≠ 10
  vl : vs 0 k.out = true
theorem line_vs : ∀ (l : List (List UInt8 × Tk)), (∀ x ∈ l, x.2.Fit ∧ ∀ c ∈ x.1, isB c = true) → vs 0 (lineT l) = true ∧ ∀ c ∈ lineT l, c ≠ 10
  | [], _ => ⟨rfl, by simp [lineT]⟩
  | (b, k) :: l, h => by
    obtain ⟨i1, i2⟩ := line_vs l fun x hx => h x (by simp [hx])
    obtain ⟨h1, h2⟩ := h (b, k) (by simp)
    have e : lineT ((b, k) :: l) = b ++ k.out ++ lineT l := by simp [lineT]
    rw [e]
    refine ⟨vs_app (vs_app (isB_vs h2) h1.vl) i1, fun c hc => ?_⟩
    simp only [List.mem_append] at hc
    rcases hc with (hc | hc) | hc
    · exact isB_10 h2 c hc
    · exact h1.nl c hc
    · exact i2 c hc
/-- a line of words, ended, says these words -/
theorem line_reads {l : List (List UInt8 × Tk)} {E : List UInt8} (hl : l ≠ []) (h1 : ∀ x ∈ l, x.2.Fit ∧ ∀ c ∈ x.1, isB c = true) (h2 : ∀ x ∈ l.tail, x.1 ≠ []) (hE : Means E []) (hB : Be E) (h10 : ∀ c ∈ E, c ≠ 10) (hv : vs 0 E = true) : Reads [lineT l ++ E] [l.map (·.2)] := by
  obtain ⟨k1, k2⟩ := line_vs l h1
  refine ⟨fun c hc => ?_, vs_app k1 hv, .inr ⟨_, [], rfl, by simpa using hl, line_means hE hB l (fun x hx => ⟨(h1 x hx).1.toOk, (h1 x hx).2⟩) h2, rfl⟩⟩
  rcases List.mem_append.mp hc with hc | hc
  · exact k2 c hc
  · exact h10 c hc
end Go.Sh.YtkghbcadnbojgaaGreatDoor

namespace Go.Sh.YtkghbcadnbojgaaGreatDoor
open Go Go.Proofs Go.RowKit Go.Lib Go.Sh.Ev
set_option linter.unusedVariables false
set_option linter.unusedSimpArgs false
set_option maxRecDepth 100000
def gd (c : UInt8) : Bool := decide (36 ≤ c.toNat) && decide (c.toNat < 128)
theorem gd_in {c : UInt8} (h : gd c = true) : c ≠ 34 ∧ c ≠ 35 ∧ isB c = false ∧ c ≠ 10 ∧ c.toNat < 128 := by
  simp only [gd, Bool.and_eq_true, decide_eq_true_eq] at h
  refine ⟨?_, ?_, ?_, ?_, h.2⟩
  · rintro rfl; simp at h
  · rintro rfl; simp at h
  · by_cases hb : isB c = true
    · have : c = 32 ∨ c = 9 := by simpa [isB] using hb
      rcases this with rfl | rfl <;> simp at h
    · simpa using hb
  · rintro rfl; simp at h
theorem fit_plain {l : List UInt8} (hne : l ≠ []) (h : l.all gd = true) : Tk.Fit ⟨l, false⟩ := by
  have h' : ∀ c ∈ l, gd c = true := fun c hc => List.all_eq_true.mp h c hc
  refine ⟨⟨fun h => by simp at h, fun _ => ?_⟩, fun c hc => (gd_in (h' c hc)).2.2.2.1, vs_asc0 fun c hc => (gd_in (h' c hc)).2.2.2.2⟩
  match l, hne with
  | c :: r, _ =>
    have h0 := gd_in (h' c (by simp))
    simp only [plainW, Bool.and_eq_true, decide_eq_true_eq]
    refine ⟨⟨h0.1, h0.2.1⟩, List.all_eq_true.mpr fun b hb => ?_⟩
    rw [(gd_in (h' b hb)).2.2.1]
    rfl
theorem esc_vs : ∀ (n : Nat) (t : List UInt8), t.length ≤ n → vs 0 t = true → vs 0 (esc t) = true
  | _, [], _, _ => rfl
  | 0, c :: r, hn, _ => by simp at hn
  | n + 1, c :: r, hn, hv => by
    by_cases hc : c.toNat < 128
    · rw [vs_byte r hc] at hv
      have e0 : esc (c :: r) = esc1 c ++ esc r := by rw [esc, List.flatMap_cons, ← esc]
      rw [e0]
      refine vs_app (vs_asc0 fun b hb => ?_) (esc_vs n r (by simp at hn; exact hn) hv)
      unfold esc1 at hb
      split at hb
      · simp only [List.mem_cons, List.not_mem_nil, or_false] at hb
        rcases hb with rfl | rfl
        · decide
        · exact hc
      · split at hb
        · simp only [List.mem_cons, List.not_mem_nil, or_false] at hb
          rcases hb with rfl | rfl <;> decide
        · simp only [List.mem_cons, List.not_mem_nil, or_false] at hb
          rw [hb]; exact hc
    · obtain ⟨R, e1, e2, e3, e4, e5, e6, e7, e8, e9⟩ := sign_at hv
      have hall : ∀ b ∈ (c :: r).take (wid c), 128 ≤ b.toNat := fun b hb => by
        rw [← e2] at hb
        exact enc_all (e6 (by omega)) e3 b hb
      have hsp : c :: r = (c :: r).take (wid c) ++ (c :: r).drop (wid c) := (List.take_append_drop _ _).symm
      have he : esc (c :: r) = (c :: r).take (wid c) ++ esc ((c :: r).drop (wid c)) := by
        conv => lhs; rw [hsp]
        exact esc_hi _ _ hall
      obtain ⟨m, hm⟩ : ∃ m, wid c = m + 1 := ⟨wid c - 1, by omega⟩
      have ih := esc_vs n ((c :: r).drop (wid c)) (by rw [List.length_drop, List.length_cons]; simp at hn; omega) e9
      have hc' : 128 ≤ c.toNat := by omega
      have hwc : wid c = (lead c).2.1 := by simp [wid, hc]
      rw [he, hm, List.take_succ_cons, List.cons_append, vs_lead _ hc']
      rw [vs_lead r hc'] at hv
      simp only [Bool.and_eq_true] at hv
      have hl := so_len hv.1
      have hlen : (r.take m).length = m := by rw [List.length_take]; omega
      have hs : signOk (lead c) (r.take m) = true := by
        have hk := hv.1
        unfold signOk at hk ⊢
        have hn1 : (lead c).2.1 = m + 1 := by rw [← hwc, hm]
        rw [hn1] at hk hl ⊢
        rcases hl with ⟨h1, h2⟩ | ⟨h1, h2⟩ | ⟨h1, h2⟩
        · obtain rfl : m = 1 := by omega
          obtain ⟨a, t, rfl, _⟩ := so2 hk
          exact hk
        · obtain rfl : m = 2 := by omega
          obtain ⟨a, b, t, rfl, _⟩ := so3 hk
          exact hk
        · obtain rfl : m = 3 := by omega
          obtain ⟨a, b, d, t, rfl, _⟩ := so4 hk
          exact hk
      rw [show signOk (lead c) (r.take m ++ esc ((c :: r).drop (m + 1))) = true from so_app _ hs, Bool.true_and, show (lead c).2.1 - 1 = m by omega, List.drop_left' hlen, ← hm]
      exact ih
theorem esc_10 (t : List UInt8) : ∀ c ∈ esc t, c ≠ 10 := by
  intro c hc
  obtain ⟨d, hd, hc⟩ := List.mem_flatMap.mp hc
  unfold esc1 at hc
  split at hc
  · rename_i h
    simp only [List.mem_cons, List.not_mem_nil, or_false] at hc
    rcases hc with rfl | rfl
    · decide
    · rcases h with rfl | rfl <;> decide
  · split at hc
    · simp only [List.mem_cons, List.not_mem_nil, or_false] at hc
      rcases hc with rfl | rfl <;> decide
    · rename_i h
      simp only [List.mem_cons, List.not_mem_nil, or_false] at hc
      rw [hc]; exact h
theorem fit_text {t : List UInt8} (h : vs 0 t = true) : Tk.Fit ⟨t, true⟩ := by
  refine ⟨⟨fun _ => h, fun h => by simp at h⟩, fun c hc => ?_, ?_⟩
  · have hc' : c ∈ quo t := hc
    simp only [quo, List.mem_cons, List.mem_append, List.not_mem_nil, or_false] at hc'
    rcases hc' with rfl | hc | rfl
    · decide
    · exact esc_10 t c hc
    · decide
  · show vs 0 (quo t) = true
    rw [quo, vs_byte _ (by decide)]
    exact vs_app (esc_vs t.length t (Nat.le_refl _) h) rfl
theorem dg_gd : ∀ a, a < 10 → gd (UInt8.ofNat (48 + a)) = true := by decide
theorem two_gd {n : Nat} (h : n < 100) : (two n).all gd = true := by
  simp only [two, List.all_cons, List.all_nil, dg_gd (n / 10) (by omega), dg_gd (n % 10) (by omega), Bool.and_self]
theorem dec_gd {k : Nat} (h : k < 1000) : (dec k).all gd = true ∧ dec k ≠ [] := by
  unfold dec
  cases h1 : Nat.blt k 10 with
  | true =>
    have := Nat.blt_eq.mp h1
    exact ⟨by simp only [cond_true, List.all_cons, List.all_nil, dg_gd k this, Bool.and_self], by simp⟩
  | false =>
    cases h2 : Nat.blt k 100 with
    | true =>
      have := Nat.blt_eq.mp h2
      exact ⟨by simp only [cond_true, cond_false, List.all_cons, List.all_nil, dg_gd (k / 10) (by omega), dg_gd (k % 10) (by omega), Bool.and_self], by simp⟩
    | false => exact ⟨by simp only [cond_false, List.all_cons, List.all_nil, dg_gd (k / 100) (by omega), dg_gd (k / 10 % 10) (by omega), dg_gd (k % 10) (by omega), Bool.and_self], by simp⟩
theorem nameOf_gd {c m M : Nat} (hc : 0 < c) (hc' : c ≤ 100) (hm : m = 58 ∨ m = 59) (h : M < 86400 * c) : (nameOf c m M).all gd = true ∧ nameOf c m M ≠ [] := by
  have hS : M / c < 86400 := (Nat.div_lt_iff_lt_mul hc).mpr h
  have hF : M % c < c := Nat.mod_lt _ hc
  have hmg : gd (UInt8.ofNat m) = true := by rcases hm with rfl | rfl <;> decide
  unfold nameOf
  simp only [List.all_append, two_gd (show M / c / 3600 < 100 by omega), two_gd (show M / c / 60 % 60 < 100 by omega), two_gd (show M / c % 60 < 100 by omega), two_gd (show M % c < 100 by omega)]
  refine ⟨by simp [hmg]; decide, by simp [two]⟩
theorem rate_of {r : Int} (h1 : 1 ≤ r) (h7 : r ≤ 7) : ∃ x, rates[r.toNat]? = some x ∧ x ∈ rates ∧ x.1 ≠ 0 ∧ dayOf r = perDay x ∧ ∀ n, fname r n = nameOf x.1.toNat (markOf x.2.2.2) (n + leftOut x n).toNat := by
  obtain ⟨k, rfl⟩ : ∃ k : Nat, r = (k : Int) := ⟨r.toNat, by omega⟩
  rw [Int.toNat_natCast]
  rcases (show k = 1 ∨ k = 2 ∨ k = 3 ∨ k = 4 ∨ k = 5 ∨ k = 6 ∨ k = 7 by omega) with rfl | rfl | rfl | rfl | rfl | rfl | rfl
  · exact ⟨(24, 24, 1, 0), rfl, by simp [rates], by decide, rfl, fun n => rfl⟩
  · exact ⟨(25, 25, 1, 0), rfl, by simp [rates], by decide, rfl, fun n => rfl⟩
  · exact ⟨(30, 30, 1, 0), rfl, by simp [rates], by decide, rfl, fun n => rfl⟩
  · exact ⟨(30, 30000, 1001, 2), rfl, by simp [rates], by decide, rfl, fun n => rfl⟩
  · exact ⟨(50, 50, 1, 0), rfl, by simp [rates], by decide, rfl, fun n => rfl⟩
  · exact ⟨(60, 60, 1, 0), rfl, by simp [rates], by decide, rfl, fun n => rfl⟩
  · exact ⟨(60, 60000, 1001, 4), rfl, by simp [rates], by decide, rfl, fun n => rfl⟩
theorem fname_gd {r n : Int} (h1 : 1 ≤ r) (h7 : r ≤ 7) (hn : 0 ≤ n) (hn' : n < dayOf r) : (fname r n).all gd = true ∧ fname r n ≠ [] := by
  obtain ⟨x, hx, hm, h0, hd, hf⟩ := rate_of h1 h7
  rw [hd] at hn'
  obtain ⟨b1, b2⟩ := leftOut_in hm h0 n hn hn'
  obtain ⟨r1, r2, r3, r4⟩ := rate_in hm h0
  rw [hf]
  exact nameOf_gd (by omega) (by omega) (by unfold markOf; split <;> simp) (by omega)
theorem rname_gd {r : Int} (h1 : 1 ≤ r) (h7 : r ≤ 7) : (rname r).all gd = true ∧ rname r ≠ [] ∧ rateOf (rname r) = r := by
  rcases (show r = 1 ∨ r = 2 ∨ r = 3 ∨ r = 4 ∨ r = 5 ∨ r = 6 ∨ r = 7 by omega) with rfl | rfl | rfl | rfl | rfl | rfl | rfl <;> decide
theorem isName_gd {s : List UInt8} (h : isName s = true) : s.all gd = true ∧ s ≠ [] ∧ s.length ≤ 16 := by
  simp only [isName, Bool.and_eq_true, decide_eq_true_eq] at h
  obtain ⟨⟨h1, h2⟩, h3⟩ := h
  refine ⟨List.all_eq_true.mpr fun c hc => ?_, by rintro rfl; simp at h2, h3⟩
  have := List.all_eq_true.mp h1 c hc
  simp only [nameByte, Bool.or_eq_true, Bool.and_eq_true, decide_eq_true_eq, beq_iff_eq] at this
  simp only [gd, Bool.and_eq_true, decide_eq_true_eq]
  omega
/-- the words of a list that may be -/
theorem cut_fit {t : List UInt8} {r : Int} {q : List Ev} (F : Fine t r q) : ∀ ks ∈ cutTk t r q, ks ≠ [] ∧ ∀ k ∈ ks, k.Fit := by
  intro ks hks
  rcases List.mem_cons.mp hks with rfl | hks
  · obtain ⟨g1, g2, g3⟩ := rname_gd F.r1 F.r7
    refine ⟨by simp [listTk], fun k hk => ?_⟩
    simp only [listTk, List.mem_cons, List.not_mem_nil, or_false] at hk
    rcases hk with rfl | rfl | rfl
    · exact fit_plain (by decide) (by decide)
    · exact fit_plain g2 g1
    · exact fit_text F.tv
  · obtain ⟨e, he, rfl⟩ := List.mem_map.mp hks
    obtain ⟨i, hi⟩ := List.getElem?_of_mem he
    obtain ⟨⟨m0, m1, m2⟩, m3, m4, n1, n2, n3, n4, n5⟩ := evCode_zero (F.ev i e hi) (dayOf_le r)
    obtain ⟨g1, g2, g3⟩ := isName_gd n1
    obtain ⟨i1, i2⟩ := fname_gd F.r1 F.r7 m0 (by omega)
    obtain ⟨o1, o2⟩ := fname_gd F.r1 F.r7 (n := e.o) (by omega) n5
    refine ⟨by simp [evTk], fun k hk => ?_⟩
    simp only [evTk, List.mem_append, List.mem_cons, List.not_mem_nil, or_false] at hk
    rcases hk with hk | (rfl | rfl | rfl) | hk
    · unfold fadeTk at hk
      split at hk
      · simp only [List.mem_cons, List.not_mem_nil, or_false] at hk
        rcases hk with rfl | rfl
        · exact fit_plain (by decide) (by decide)
        · obtain ⟨d1, d2⟩ := dec_gd (k := e.f.toNat) (by omega)
          exact fit_plain d2 d1
      · simp only [List.mem_cons, List.not_mem_nil, or_false] at hk
        subst hk
        exact fit_plain (by decide) (by decide)
    · exact fit_plain g2 g1
    · exact fit_plain i2 i1
    · exact fit_plain o2 o1
    · unfold noteTk at hk
      split at hk
      · simp at hk
      · simp only [List.mem_cons, List.not_mem_nil, or_false] at hk
        subst hk
        exact fit_text n4
end Go.Sh.YtkghbcadnbojgaaGreatDoor

namespace Go.Sh.YtkghbcadnbojgaaGreatDoor
open Go Go.Proofs Go.RowKit Go.Lib Go.Sh.Ev
set_option linter.unusedVariables false
set_option linter.unusedSimpArgs false
set_option maxRecDepth 100000
def nm (h mi se fr mk : Nat) : List UInt8 := [UInt8.ofNat (48 + h / 10), UInt8.ofNat (48 + h % 10), 58, UInt8.ofNat (48 + mi / 10), UInt8.ofNat (48 + mi % 10), 58, UInt8.ofNat (48 + se / 10), UInt8.ofNat (48 + se % 10), UInt8.ofNat mk, UInt8.ofNat (48 + fr / 10), UInt8.ofNat (48 + fr % 10)]
theorem nameOf_nm (c m M : Nat) : nameOf c m M = nm (M / c / 3600) (M / c / 60 % 60) (M / c % 60) (M % c) m := rfl
theorem dg_in : ∀ a, a < 10 → 48 ≤ (UInt8.ofNat (48 + a)).toNat ∧ (UInt8.ofNat (48 + a)).toNat ≤ 57 := by decide
theorem nm_good (h mi se fr : Nat) (r : Int) (hh : h < 100) (hm : mi < 100) (hs : se < 100) (hf : fr < 100) : ∀ i c, (nm h mi se fr (markOf r))[i]? = some c → goodAt (markOf r) i c := by
  intro i c hi
  have hmk : (UInt8.ofNat (markOf r)).toNat = markOf r := by unfold markOf; split <;> rfl
  have hl : i < 11 := (List.getElem?_eq_some_iff.mp hi).1
  have h3 : ∀ a, a < 10 → ∀ i, i ≠ 8 → i % 3 ≠ 2 → goodAt (markOf r) i (UInt8.ofNat (48 + a)) := fun a ha i h1 h2 => by rw [goodAt, if_neg h1, if_neg h2]; exact dg_in a ha
  rcases (show i = 0 ∨ i = 1 ∨ i = 2 ∨ i = 3 ∨ i = 4 ∨ i = 5 ∨ i = 6 ∨ i = 7 ∨ i = 8 ∨ i = 9 ∨ i = 10 by omega) with rfl | rfl | rfl | rfl | rfl | rfl | rfl | rfl | rfl | rfl | rfl
  · cases hi; exact h3 _ (by omega) _ (by decide) (by decide)
  · cases hi; exact h3 _ (by omega) _ (by decide) (by decide)
  · cases hi; rw [goodAt, if_neg (by decide), if_pos (by decide)]; rfl
  · cases hi; exact h3 _ (by omega) _ (by decide) (by decide)
  · cases hi; exact h3 _ (by omega) _ (by decide) (by decide)
  · cases hi; rw [goodAt, if_neg (by decide), if_pos (by decide)]; rfl
  · cases hi; exact h3 _ (by omega) _ (by decide) (by decide)
  · cases hi; exact h3 _ (by omega) _ (by decide) (by decide)
  · cases hi; rw [goodAt, if_pos rfl]; exact hmk
  · cases hi; exact h3 _ (by omega) _ (by decide) (by decide)
  · cases hi; exact h3 _ (by omega) _ (by decide) (by decide)
theorem read_ok {x : Int × Int × Int × Int} (hx : x ∈ rates) (h0 : x.1 ≠ 0) (h mi se fr : Nat) (hh : h < 24) (hm : mi < 60) (hs : se < 60) (hf : (fr : Int) < x.1) (hd : ¬ (mi % 10 ≠ 0 ∧ se = 0 ∧ (fr : Int) < x.2.2.2)) (w : World) :
    ∃ w', C 123 #[rv x, st (nm h mi se fr (markOf x.2.2.2))] w = some (.tuple #[.int .i64 (numP x.1 x.2.2.2 h mi se fr), .int .i64 0, .int .i64 0], w') ∧ w.grownBy w' none := by
  obtain ⟨r1, r2, r3, r4⟩ := rate_in hx h0
  obtain ⟨c, nu, de, d⟩ := x
  simp only at r1 r2 r3 r4 hf hd ⊢
  obtain ⟨s, hsd⟩ : ∃ s, s = nm h mi se fr (markOf d) := ⟨_, rfl⟩
  have hg := nm_good h mi se fr d (by omega) (by omega) (by omega) (by omega)
  have hsl : s.length = 11 := by rw [hsd]; rfl
  have g0 : s[0]? = some (UInt8.ofNat (48 + h / 10)) ∧ s[0 + 1]? = some (UInt8.ofNat (48 + h % 10)) := by rw [hsd]; exact ⟨rfl, rfl⟩
  have g3 : s[3]? = some (UInt8.ofNat (48 + mi / 10)) ∧ s[3 + 1]? = some (UInt8.ofNat (48 + mi % 10)) := by rw [hsd]; exact ⟨rfl, rfl⟩
  have g6 : s[6]? = some (UInt8.ofNat (48 + se / 10)) ∧ s[6 + 1]? = some (UInt8.ofNat (48 + se % 10)) := by rw [hsd]; exact ⟨rfl, rfl⟩
  have g9 : s[9]? = some (UInt8.ofNat (48 + fr / 10)) ∧ s[9 + 1]? = some (UInt8.ofNat (48 + fr % 10)) := by rw [hsd]; exact ⟨rfl, rfl⟩
  rw [← hsd] at hg ⊢
  obtain ⟨w1, hw1⟩ : ∃ w1, w1 = w.alloc (.cells (rc (c, nu, de, d)).toArray 145) := ⟨_, rfl⟩
  have b1 : Blk w1 w.heap.size 145 (rc (c, nu, de, d)) := hw1 ▸ Blk.new w 145 _
  have G1 : w.grownBy w1 none := hw1 ▸ World.grownBy_alloc w _ none
  have bx1 : erun Tryz.prog (Instr.box 145 (.agg #[.int .i64 c, .int .i64 nu, .int .i64 de, .int .i64 d])) w = some (.pointer (some ⟨w.heap.size, 0, none⟩), w1) := by rw [hw1]; rfl
  obtain ⟨w2, hw2⟩ : ∃ w2, w2 = w1.alloc (.cells #[st s] 9) := ⟨_, rfl⟩
  have b2 : Blk w2 w1.heap.size 9 [st s] := hw2 ▸ Blk.new w1 9 [st s]
  have G2 : w1.grownBy w2 none := hw2 ▸ World.grownBy_alloc w1 _ none
  have bx2 : erun Tryz.prog (Instr.box 9 (st s)) w1 = some (.pointer (some ⟨w1.heap.size, 0, none⟩), w2) := by rw [hw2]; rfl
  have b12 : Blk w2 w.heap.size 145 (rc (c, nu, de, d)) := b1.grown G2 (by simp)
  have l2 := ld145b b12
  have c2 := b2.cell_eq 0 rfl
  obtain ⟨w3, h3, G3⟩ := form_ok (w := w2) c nu de d s hsl hg
  have b13 := b12.grown G3 (by simp)
  have b23 := b2.grown G3 (by simp)
  have c0 := b13.cell_eq 0 rfl
  have c3 := b13.cell_eq 3 rfl
  have p0 : C 133 #[.int .i64 0, .pointer (some ⟨w1.heap.size, 0, none⟩)] w3 = some (.int .i64 (h : Int), w3.drew) := part_ok b23 0 h (by omega) (by omega) (by omega) g0.1 g0.2
  have p3 : C 133 #[.int .i64 3, .pointer (some ⟨w1.heap.size, 0, none⟩)] w3.drew = some (.int .i64 (mi : Int), w3.drew.drew) := part_ok (w := w3.drew) b23 3 mi (by omega) (by omega) (by omega) g3.1 g3.2
  have p6 : C 133 #[.int .i64 6, .pointer (some ⟨w1.heap.size, 0, none⟩)] w3.drew.drew = some (.int .i64 (se : Int), w3.drew.drew.drew) := part_ok (w := w3.drew.drew) b23 6 se (by omega) (by omega) (by omega) g6.1 g6.2
  have p9 : C 133 #[.int .i64 9, .pointer (some ⟨w1.heap.size, 0, none⟩)] w3.drew.drew.drew = some (.int .i64 (fr : Int), w3.drew.drew.drew.drew) := part_ok (w := w3.drew.drew.drew) b23 9 fr (by omega) (by omega) (by omega) g9.1 g9.2
  have G7 : w.grownBy w3.drew.drew.drew.drew none := grown_step (grown_step (grown_step (grown_step (grown_step (grown_step G1 G2) G3) (drew_grown _)) (drew_grown _)) (drew_grown _)) (drew_grown _)
  refine ⟨_, f123.run rfl ?_, G7⟩
  obtain ⟨H, hH⟩ : ∃ H : Int, H = (h : Int) := ⟨_, rfl⟩
  obtain ⟨MI, hMI⟩ : ∃ H : Int, H = (mi : Int) := ⟨_, rfl⟩
  obtain ⟨SE, hSE⟩ : ∃ H : Int, H = (se : Int) := ⟨_, rfl⟩
  obtain ⟨FR, hFR⟩ : ∃ H : Int, H = (fr : Int) := ⟨_, rfl⟩
  have q1 := remN mi 10 (by omega)
  have q2 := quoN (60 * h + mi) 10 (by omega) (by omega)
  rw [show ((10 : Nat) : Int) = 10 from rfl] at q1 q2
  rw [← hH] at p0 ⊢
  rw [← hMI] at p3 q1 ⊢
  rw [← hSE] at p6 ⊢
  rw [← hFR] at p9 ⊢
  have z1 : ¬ (23 : Int) < H := by omega
  have z2 : ¬ (59 : Int) < MI := by omega
  have z3 : ¬ (59 : Int) < SE := by omega
  have z4 : ¬ c ≤ FR := by omega
  obtain ⟨V, hV⟩ : ∃ V : Int, V = ((60 * h + mi : Nat) : Int) := ⟨_, rfl⟩
  obtain ⟨T, hT⟩ : ∃ T : Int, T = (((60 * h + mi) / 10 : Nat) : Int) := ⟨_, rfl⟩
  rw [← hV, ← hT] at q2
  have e1 : IntKind.i64.wrap (60 * H) = 60 * H := wrap_i64 (by omega) (by omega)
  have e2 : IntKind.i64.wrap (60 * H + MI) = V := (wrap_i64 (by omega) (by omega)).trans (by omega)
  have e3 : IntKind.i64.wrap (60 * V) = 60 * V := wrap_i64 (by omega) (by omega)
  obtain ⟨U, hU⟩ : ∃ U, U = 60 * V + SE := ⟨_, rfl⟩
  have e4 : IntKind.i64.wrap (60 * V + SE) = U := (wrap_i64 (by omega) (by omega)).trans hU.symm
  have hU0 : 0 ≤ U ∧ U < 86400 := by omega
  have hcU : 0 ≤ c * U ∧ c * U ≤ 60 * U := ⟨Int.mul_nonneg (by omega) hU0.1, Int.mul_le_mul_of_nonneg_right (by omega) hU0.1⟩
  have e5 : IntKind.i64.wrap (c * U) = c * U := wrap_i64 (by omega) (by omega)
  have e6 : IntKind.i64.wrap (c * U + FR) = c * U + FR := wrap_i64 (by omega) (by omega)
  obtain ⟨K, hK⟩ : ∃ K, K = V - T := ⟨_, rfl⟩
  have e7 : IntKind.i64.wrap (V - T) = K := (wrap_i64 (by omega) (by omega)).trans hK.symm
  have hK0 : 0 ≤ K ∧ K ≤ 2000 := by omega
  have hdK : 0 ≤ d * K ∧ d * K ≤ 4 * K := ⟨Int.mul_nonneg (by omega) hK0.1, Int.mul_le_mul_of_nonneg_right (by omega) hK0.1⟩
  have e8 : IntKind.i64.wrap (d * K) = d * K := wrap_i64 (by omega) (by omega)
  have e9 : IntKind.i64.wrap (c * U + FR - d * K) = numP c d H MI SE FR := by
    have hV' : V = 60 * H + MI := by omega
    have hT' : T = (60 * H + MI) / 10 := by omega
    rw [wrap_i64 (by omega) (by omega), numP, hU, hK, hT', hV']
  have c0' : w3.cell? ⟨w.heap.size, 0, none⟩ = some (.int .i64 c) := c0
  have c3' : w3.cell? ⟨w.heap.size, 3, none⟩ = some (.int .i64 d) := c3
  obtain ⟨Q, hQ⟩ : ∃ Q : Int, Q = ((mi % 10 : Nat) : Int) := ⟨_, rfl⟩
  rw [← hQ] at q1
  obtain ⟨Z, hZ⟩ : ∃ Z, Z = numP c d H MI SE FR := ⟨_, rfl⟩
  rw [← hZ] at e9 ⊢
  simp only [rv] at l2 ⊢
  by_cases y1 : mi % 10 = 0
  · have y1' : Q = 0 := by omega
    rw [y1'] at q1
    simp [f123, bx1, bx2, l2, c2, h3, callV, p0, p3, p6, p9, z1, z2, z3, addL, c0', z4, q1, e1, e2, e3, e4, e5, e6, c3', q2, e7, e8, e9]
  · have y1' : ¬ Q = 0 := by omega
    by_cases y2 : SE = 0
    · have y3 : ¬ FR < d := fun h => hd ⟨y1, by omega, by omega⟩
      have eU : IntKind.i64.wrap U = U := wrap_i64 (by omega) (by omega)
      have e3' : IntKind.i64.wrap (60 * V) = U := by rw [e3]; omega
      rw [y2] at p6 e4
      rw [Int.add_zero] at e4
      simp [f123, bx1, bx2, l2, c2, h3, callV, p0, p3, p6, p9, z1, z2, addL, c0', z4, q1, y1', y3, e1, e2, e3', eU, e5, e6, c3', q2, e7, e8, e9]
    · simp [f123, bx1, bx2, l2, c2, h3, callV, p0, p3, p6, p9, z1, z2, z3, addL, c0', z4, q1, y1', y2, e1, e2, e3, e4, e5, e6, c3', q2, e7, e8, e9]
/-- the frame of a frame's name -/
theorem number_ok {w : World} (T : Tb w) {r n : Int} (h1 : 1 ≤ r) (h7 : r ≤ 7) (hn : 0 ≤ n) (hn' : n < dayOf r) : ∃ w', C 100 #[.int .i64 r, st (fname r n)] w = some (.tuple #[.int .i64 n, .nilIface], w') ∧ w.grownBy w' none := by
  obtain ⟨x, hx, hm, h0, hd, hf⟩ := rate_of h1 h7
  rw [hd] at hn'
  obtain ⟨r1, r2, r3, r4⟩ := rate_in hm h0
  obtain ⟨b1, b2⟩ := leftOut_in hm h0 n hn hn'
  obtain ⟨c, hc⟩ : ∃ c : Nat, (c : Int) = x.1 := ⟨x.1.toNat, by omega⟩
  obtain ⟨d, hdd⟩ : ∃ d : Nat, (d : Int) = x.2.2.2 := ⟨x.2.2.2.toNat, by omega⟩
  obtain ⟨M, hM⟩ : ∃ M : Nat, (M : Int) = n + leftOut x n := ⟨(n + leftOut x n).toNat, by omega⟩
  obtain ⟨k1, k2⟩ := back hm h0 n hn hn' c M d hc hdd hM
  rw [hf, show (n + leftOut x n).toNat = M by omega, show x.1.toNat = c by omega, nameOf_nm]
  have hMb : M < 86400 * c := by omega
  have hS : M / c < 86400 := (Nat.div_lt_iff_lt_mul (by omega)).mpr hMb
  have hF : M % c < c := Nat.mod_lt _ (by omega)
  obtain ⟨w1, j1, g1⟩ := find_in T r.toNat (by omega) hx
  rw [show ((r.toNat : Nat) : Int) = r by omega] at j1
  obtain ⟨w2, j2, bl2, g2⟩ := lay145 x w1
  have l2 := ld145b bl2
  obtain ⟨w3, j3, g3⟩ := read_ok hm h0 (M / c / 3600) (M / c / 60 % 60) (M / c % 60) (M % c) (by omega) (by omega) (by omega) (by omega) (fun h => k1 ⟨h.1, h.2.1, by omega⟩) w2
  rw [← hc, ← hdd, k2, hdd] at j3
  refine ⟨w3, f100.run rfl ?_, grown_step (grown_step g1 g2) g3⟩
  simp [f100, j1, alloc145, j2, l2, j3]
end Go.Sh.YtkghbcadnbojgaaGreatDoor

namespace Go.Sh.YtkghbcadnbojgaaGreatDoor
open Go Go.Proofs Go.RowKit Go.Lib Go.Sh.Ev
set_option linter.unusedVariables false
set_option linter.unusedSimpArgs false
set_option maxRecDepth 100000
noncomputable def fadeAt (k : Nat) : Bool := strIs (bRun Tryz.prog gl2 1000 annA (fun _ => false) 60 44 [.v (.int .i64 k)] ⟨0, .leaf⟩) (dec k)
noncomputable def fadeTo (a : Nat) : Nat → Bool := fun n => Nat.rec true (fun i r => fadeAt (a + i) && r) n
theorem fade_0 : fadeTo 1 100 = true := by kernel_rfl
theorem fadeTo_at {a : Nat} : ∀ {n i : Nat}, fadeTo a n = true → i < n → fadeAt (a + i) = true
  | 0, i, _, h => by omega
  | n + 1, i, h, hi => by
    have h' : (fadeAt (a + n) && fadeTo a n) = true := h
    simp only [Bool.and_eq_true] at h'
    by_cases e : i = n
    · rw [e]; exact h'.1
    · exact fadeTo_at h'.2 (by omega)
theorem fade_at {k : Nat} (h1 : 1 ≤ k) (h2 : k ≤ 100) : fadeAt k = true := by
  have := fadeTo_at fade_0 (i := k - 1) (by omega)
  rwa [show 1 + (k - 1) = k by omega] at this
theorem ref_digits_ok {w : World} (hG : GlobOk gl2 w) {k : Nat} (h1 : 1 ≤ k) (h2 : k ≤ 100) : ∃ w', C 44 #[.int .i64 k] w = some (st (dec k), w') ∧ w.grownBy w' none := by
  have h := fade_at h1 h2
  simp only [fadeAt] at h
  obtain ⟨w', h1, g1⟩ := closed_str hG h
  exact ⟨w', told_run rfl h1, g1⟩
/-! ### Atoi of digits -/
def num (l : List UInt8) : Nat := l.foldl (fun n c => 10 * n + (c.toNat - 48)) 0
theorem num_add (l : List UInt8) (c : UInt8) : num (l ++ [c]) = 10 * num l + (c.toNat - 48) := by simp [num]
theorem num_dec : ∀ k, k < 1000 → num (dec k) = k := by decide +kernel
theorem dec_dig : ∀ k, k < 1000 → (dec k).all (fun c => decide (48 ≤ c.toNat) && decide (c.toNat ≤ 57)) = true := by decide +kernel
theorem bytes_grown (w : World) (e : TypeId) (s : ByteArray) : w.grownBy (bytesWorld w e s) none :=
  ⟨rfl, rfl, rfl, by rw [bytesWorld_size]; omega, fun k hk _ => bytesWorld_at_old w e s k hk⟩
theorem cv9_160 (l : List UInt8) (w : World) : erun Tryz.prog (convert 9 160 (st l)) w = some (.slice (some ⟨w.heap.size, 0, none⟩) l.length (grownCap w l.length 0 5), bytesWorld w 5 ⟨l.toArray⟩) := by
  have h := Go.Lib.run_convert_string_bytes (P := Tryz.prog) w 9 160 5 ⟨l.toArray⟩ Tryz.underlying9 Tryz.underlying160 Tryz.underlying5
  rw [st_size] at h
  exact erun_of_run h
theorem atoi98 (l : List UInt8) (hl : 1 ≤ l.length) (hl' : l.length ≤ 18) (hd : ∀ c ∈ l, 48 ≤ c.toNat ∧ c.toNat ≤ 57) (w : World) : ∃ w', C 98 #[st l] w = some (.tuple #[.int .i64 (num l : Nat), .nilIface], w') ∧ w.grownBy w' none := by
  have hs := fun t => str_len (P := Tryz.prog) Tryz.underlying9 t l
  have ix := str_index (P := Tryz.prog) Tryz.underlying9 l .i64 0 (by omega)
  have hd0 := hd l[0] (List.getElem_mem _)
  obtain ⟨N0, hN0⟩ : ∃ N : Nat, N = l[0].toNat := ⟨_, rfl⟩
  rw [← hN0] at ix hd0
  rw [show ((0 : Nat) : Int) = 0 from rfl] at ix
  have a1 : ¬ (N0 : Int) = 45 := by omega
  have a2 : ¬ (N0 : Int) = 43 := by omega
  have p1 : (0 : Int) < l.length := by omega
  have p1' : 0 < l.length := by omega
  have p2 : (l.length : Int) < 19 := by omega
  obtain ⟨w1, hw1⟩ : ∃ w1, w1 = bytesWorld w 5 ⟨l.toArray⟩ := ⟨_, rfl⟩
  have cv := cv9_160 l w
  have g1 : w.grownBy w1 none := hw1 ▸ bytes_grown w 5 ⟨l.toArray⟩
  rw [← hw1] at cv
  obtain ⟨cp, hcp⟩ : ∃ cp, cp = grownCap w l.length 0 5 := ⟨_, rfl⟩
  rw [← hcp] at cv
  have rd : ∀ j (hj : j < l.length), w1.cell? ⟨w.heap.size, j, none⟩ = some (.int .u8 (l[j].toNat)) := fun j hj => by
    rw [hw1, bytesWorld_cell w 5 ⟨l.toArray⟩ j (by rw [st_size]; exact hj)]
    simp [List.getD_eq_getElem?_getD, List.getElem?_eq_getElem hj]
  have cv3 : ∀ z : Int, prun Tryz.prog (convert 5 3 (.int .u8 z)) = some (.int .i64 (IntKind.i64.wrap z)) := fun z => id (by kernel_rfl)
  have key := iter_down (f := f98.l0 C) (fun d ws w2 => ∃ i : Nat, ws = [st l, .int .i64 ((num (l.take i) : Nat) : Int), .slice (some ⟨w.heap.size, 0, none⟩) l.length cp, .int .i64 (l.length : Int), .int .i64 (i : Int)] ∧ i + d = l.length ∧ w2 = w1 ∧ num (l.take i) < 10 ^ i)
    (fun r => r = .exit 0 [st l, .int .i64 ((num l : Nat) : Int)] w1) (by
      rintro d ws w2 ⟨i, rfl, hi, rfl, hb⟩
      cases d with
      | zero =>
        obtain rfl : i = l.length := by omega
        rw [List.take_length]
        exact .inr ⟨.exit 0 [st l, .int .i64 ((num l : Nat) : Int)] w2, by simp [f98.l0], rfl, by simp⟩
      | succ d =>
        have hil : i < l.length := by omega
        have hlt : (i : Int) < l.length := by omega
        have i1 := ix160 ⟨w.heap.size, 0, none⟩ l.length cp .i64 (i : Int) (by omega) hlt
        have c1 := rd i hil
        have hdi := hd l[i] (List.getElem_mem _)
        have htk : l.take (i + 1) = l.take i ++ [l[i]] := List.take_succ_eq_append_getElem hil
        have hna := num_add (l.take i) l[i]
        rw [← htk] at hna
        obtain ⟨N, hN⟩ : ∃ N : Nat, N = l[i].toNat := ⟨_, rfl⟩
        rw [← hN] at c1 hdi hna
        have hp : 10 ^ i ≤ 10 ^ 17 := Nat.pow_le_pow_right (by omega) (by omega)
        have hps : 10 ^ (i + 1) = 10 * 10 ^ i := by rw [Nat.pow_succ]; omega
        have e0 : IntKind.u8.wrap ((N : Int) - 48) = ((N - 48 : Nat) : Int) := by rw [show (N : Int) - 48 = ((N - 48 : Nat) : Int) by omega, wrap_u8n]; congr 1; omega
        obtain ⟨M, hM⟩ : ∃ M : Nat, M = num (l.take i) := ⟨_, rfl⟩
        rw [← hM] at hb hna ⊢
        obtain ⟨D, hD⟩ : ∃ D : Nat, D = N - 48 := ⟨_, rfl⟩
        rw [← hD] at e0 hna
        have e1 : IntKind.i64.wrap ((M : Int) * 10) = (M : Int) * 10 := wrap_i64 (by omega) (by omega)
        have e2 : IntKind.i64.wrap (D : Int) = (D : Int) := wrap_i64 (by omega) (by omega)
        have e3 : IntKind.i64.wrap ((M : Int) * 10 + (D : Int)) = ((num (l.take (i + 1)) : Nat) : Int) := (wrap_i64 (by omega) (by omega)).trans (by omega)
        have e4 : IntKind.i64.wrap ((i : Int) + 1) = ((i + 1 : Nat) : Int) := (wrap_i64 (by omega) (by omega)).trans (by omega)
        have hng : ¬ (9 : Int) < D := by omega
        refine .inl ⟨d, _, w2, by omega, ?_, ⟨i + 1, rfl, by omega, rfl, by omega⟩⟩
        obtain ⟨Q, hQ⟩ : ∃ Q : Int, Q = ((num (l.take (i + 1)) : Nat) : Int) := ⟨_, rfl⟩
        rw [← hQ] at e3 ⊢
        simp [f98.l0, hlt, i1, addL, c1, e0, hng, e1, cv3, e2, e3, e4]) l.length [st l, .int .i64 0, .slice (some ⟨w.heap.size, 0, none⟩) l.length cp, .int .i64 (l.length : Int), .int .i64 0] w1 ⟨0, rfl, by omega, rfl, by simp [num]⟩
  obtain ⟨r, h1, rfl⟩ := key
  refine ⟨w1, f98.run rfl ?_, g1⟩
  simp [f98, hs, p1, p1', p2, ix, a1, a2, cv, h1]
theorem atoi_ok (l : List UInt8) (hl : 1 ≤ l.length) (hl' : l.length ≤ 18) (hd : ∀ c ∈ l, 48 ≤ c.toNat ∧ c.toNat ≤ 57) (w : World) : ∃ w', C 66 #[st l] w = some (.tuple #[.int .i64 (num l : Nat), .nilIface], w') ∧ w.grownBy w' none := by
  obtain ⟨w', h, g⟩ := atoi98 l hl hl' hd w
  exact ⟨w', f66.run rfl (by simp [f66, h]), g⟩
theorem atoi_dec {k : Nat} (h : k < 1000) (w : World) : ∃ w', C 66 #[st (dec k)] w = some (.tuple #[.int .i64 (k : Int), .nilIface], w') ∧ w.grownBy w' none := by
  obtain ⟨d1, d2⟩ : (1 ≤ (dec k).length ∧ (dec k).length ≤ 18) := by
    have := dec_len k
    refine ⟨?_, by omega⟩
    unfold dec
    cases Nat.blt k 10 <;> cases Nat.blt k 100 <;> simp
  have := atoi_ok (dec k) d1 d2 (fun c hc => by
    have := List.all_eq_true.mp (dec_dig k h) c hc
    simpa using this) w
  rw [num_dec k h] at this
  exact this
theorem isFade_ok {w : World} (hG : GlobOk gl2 w) {k : Nat} (h1 : 1 ≤ k) (h2 : k ≤ 100) : ∃ w', C 65 #[st (dec k)] w = some (.bool true, w') ∧ w.grownBy w' none := by
  obtain ⟨w1, k1, g1⟩ := atoi_dec (k := k) (by omega) w
  obtain ⟨w2, k2, g2⟩ := itoa_ok (globOk_grown hG g1) (k := k) (by omega)
  have a1 : (1 : Int) ≤ k := by omega
  have a2 : (k : Int) ≤ 100 := by omega
  have eq := fun x y => str_eql (P := Tryz.prog) (t := 9) x y (dec k) (dec k)
  exact ⟨w2, f65.run rfl (by simp [f65, k1, a1, a2, k2, eq]), grown_step g1 g2⟩
end Go.Sh.YtkghbcadnbojgaaGreatDoor

namespace Go.Sh.YtkghbcadnbojgaaGreatDoor
open Go Go.Proofs Go.RowKit Go.Lib Go.Sh.Ev
set_option linter.unusedVariables false
set_option linter.unusedSimpArgs false
set_option maxRecDepth 100000
theorem left_any (r d : Int) (hr : (r = 4 ∧ d = 2) ∨ (r = 7 ∧ d = 4) ∨ (r ≠ 4 ∧ r ≠ 7 ∧ d = 0)) (m : Nat) (hm : m ≤ 2000) (w : World) : C 108 #[.int .i64 r, .int .i64 (m : Int)] w = some (.int .i64 (leftAt d m), w) := by
  have q := remN m 10 (by omega)
  rw [show ((10 : Nat) : Int) = 10 from rfl] at q
  refine f108.run rfl ?_
  unfold leftAt
  by_cases h : m % 10 = 0
  · rw [h] at q
    rw [if_pos h]
    simp [f108, q]
  · rw [if_neg h]
    obtain ⟨Q, hQ⟩ : ∃ Q : Int, Q = ((m % 10 : Nat) : Int) := ⟨_, rfl⟩
    rw [← hQ] at q
    have hQ0 : ¬ Q = 0 := by omega
    rcases hr with ⟨rfl, rfl⟩ | ⟨rfl, rfl⟩ | ⟨h1, h2, rfl⟩
    · simp [f108, q, hQ0]
    · simp [f108, q, hQ0]
    · simp [f108, q, hQ0, h1, h2]
/-- a rate, as the document tells it -/
structure RefRate (r : Int) (x : Int × Int × Int × Int) : Prop where
  may : ∀ w, C 124 #[.int .i64 r] w = some (.bool true, w)
  count : ∀ w, C 87 #[.int .i64 r] w = some (.int .i64 x.1, w)
  left : ∀ (m : Nat) (w : World), m ≤ 2000 → C 108 #[.int .i64 r, .int .i64 (m : Int)] w = some (.int .i64 (leftAt x.2.2.2 m), w)
theorem ref_rate {r : Int} (h1 : 1 ≤ r) (h7 : r ≤ 7) : ∃ x, RefRate r x ∧ x ∈ rates ∧ x.1 ≠ 0 ∧ dayOf r = perDay x ∧ ∀ n, fname r n = nameOf x.1.toNat (markOf x.2.2.2) (n + leftOut x n).toNat := by
  obtain ⟨k, rfl⟩ : ∃ k : Nat, r = (k : Int) := ⟨r.toNat, by omega⟩
  rcases (show k = 1 ∨ k = 2 ∨ k = 3 ∨ k = 4 ∨ k = 5 ∨ k = 6 ∨ k = 7 by omega) with rfl | rfl | rfl | rfl | rfl | rfl | rfl
  · exact ⟨(24, 24, 1, 0), ⟨fun w => f124.run rfl (by simp [f124]), fun w => f87.run rfl (by simp [f87]), fun m w hm => left_any _ _ (by decide) m hm w⟩, by simp [rates], by decide, rfl, fun n => rfl⟩
  · exact ⟨(25, 25, 1, 0), ⟨fun w => f124.run rfl (by simp [f124]), fun w => f87.run rfl (by simp [f87]), fun m w hm => left_any _ _ (by decide) m hm w⟩, by simp [rates], by decide, rfl, fun n => rfl⟩
  · exact ⟨(30, 30, 1, 0), ⟨fun w => f124.run rfl (by simp [f124]), fun w => f87.run rfl (by simp [f87]), fun m w hm => left_any _ _ (by decide) m hm w⟩, by simp [rates], by decide, rfl, fun n => rfl⟩
  · exact ⟨(30, 30000, 1001, 2), ⟨fun w => f124.run rfl (by simp [f124]), fun w => f87.run rfl (by simp [f87]), fun m w hm => left_any _ _ (by decide) m hm w⟩, by simp [rates], by decide, rfl, fun n => rfl⟩
  · exact ⟨(50, 50, 1, 0), ⟨fun w => f124.run rfl (by simp [f124]), fun w => f87.run rfl (by simp [f87]), fun m w hm => left_any _ _ (by decide) m hm w⟩, by simp [rates], by decide, rfl, fun n => rfl⟩
  · exact ⟨(60, 60, 1, 0), ⟨fun w => f124.run rfl (by simp [f124]), fun w => f87.run rfl (by simp [f87]), fun m w hm => left_any _ _ (by decide) m hm w⟩, by simp [rates], by decide, rfl, fun n => rfl⟩
  · exact ⟨(60, 60000, 1001, 4), ⟨fun w => f124.run rfl (by simp [f124]), fun w => f87.run rfl (by simp [f87]), fun m w hm => left_any _ _ (by decide) m hm w⟩, by simp [rates], by decide, rfl, fun n => rfl⟩
theorem leftAt_in {d : Int} (h0 : 0 ≤ d) (m : Nat) : 0 ≤ leftAt d m ∧ leftAt d m ≤ d := by unfold leftAt; split <;> omega
theorem cum_in {c d : Int} (hc : 24 ≤ c ∧ c ≤ 60) (hd : 0 ≤ d ∧ d ≤ 4) : ∀ m : Nat, 0 ≤ cum c d m ∧ cum c d m ≤ 3600 * m
  | 0 => by simp [cum]
  | m + 1 => by
    have ih := cum_in hc hd m
    have := leftAt_in hd.1 m
    rw [cum]
    omega
theorem ref_day {r : Int} {x : Int × Int × Int × Int} (R : RefRate r x) (hx : x ∈ rates) (h0 : x.1 ≠ 0) (w : World) : C 107 #[.int .i64 r] w = some (.tuple #[.int .i64 (perDay x), .int .i64 0], w) := by
  obtain ⟨r1, r2, r3, r4⟩ := rate_in hx h0
  have key := iter_down (f := f107.l0 C) (fun d ws w1 => ∃ m : Nat, ws = [.int .i64 r, .int .i64 (cum x.1 x.2.2.2 m), .int .i64 (m : Int)] ∧ m + d = 1440 ∧ w1 = w)
    (fun q => q = .exit 0 [.int .i64 (cum x.1 x.2.2.2 1440)] w) (by
      rintro d ws w1 ⟨m, rfl, hm, rfl⟩
      cases d with
      | zero =>
        obtain rfl : m = 1440 := by omega
        exact .inr ⟨.exit 0 [.int .i64 (cum x.1 x.2.2.2 1440)] w1, by simp [f107.l0], rfl, by simp⟩
      | succ d =>
        have hlt : (m : Int) < 1440 := by omega
        have h1 := R.count w1
        have h2 := R.left m w1 (by omega)
        obtain ⟨i1, i2⟩ := cum_in ⟨r1, r2⟩ ⟨r3, r4⟩ m
        have hl := leftAt_in r3 m
        have hnx : cum x.1 x.2.2.2 (m + 1) = cum x.1 x.2.2.2 m + (60 * x.1 - leftAt x.2.2.2 m) := rfl
        obtain ⟨K, hK⟩ : ∃ K, K = cum x.1 x.2.2.2 m := ⟨_, rfl⟩
        obtain ⟨Lf, hLf⟩ : ∃ K, K = leftAt x.2.2.2 m := ⟨_, rfl⟩
        obtain ⟨N, hN⟩ : ∃ K, K = cum x.1 x.2.2.2 (m + 1) := ⟨_, rfl⟩
        rw [← hK] at i1 i2 hnx ⊢
        rw [← hLf] at h2 hl hnx
        have e1 : IntKind.i64.wrap (60 * x.1) = 60 * x.1 := wrap_i64 (by omega) (by omega)
        have e2 : IntKind.i64.wrap (K + 60 * x.1) = K + 60 * x.1 := wrap_i64 (by omega) (by omega)
        have e3 : IntKind.i64.wrap (K + 60 * x.1 - Lf) = N := (wrap_i64 (by omega) (by omega)).trans (by omega)
        have e4 : IntKind.i64.wrap ((m : Int) + 1) = ((m + 1 : Nat) : Int) := (wrap_i64 (by omega) (by omega)).trans (by omega)
        refine .inl ⟨d, _, w1, by omega, ?_, ⟨m + 1, rfl, by omega, rfl⟩⟩
        rw [← hN]
        simp [f107.l0, hlt, h1, h2, e1, e2, e3, e4]) 1440 [.int .i64 r, .int .i64 0, .int .i64 0] w ⟨0, rfl, by omega, rfl⟩
  obtain ⟨q, h1, rfl⟩ := key
  have hm := R.may w
  have hd := cum_day hx
  rw [hd] at h1
  refine f107.run rfl ?_
  simp [f107, hm, h1]
theorem ref_asked {r : Int} {x : Int × Int × Int × Int} (R : RefRate r x) (hx : x ∈ rates) (h0 : x.1 ≠ 0) (n : Int) (hn : 0 ≤ n) (hn' : n < perDay x) (w : World) : C 84 #[.int .i64 r, .int .i64 n] w = some (.int .i64 0, w) := by
  have h1 := ref_day R hx h0 w
  have z1 : ¬ n < 0 := by omega
  have z2 : ¬ perDay x ≤ n := by omega
  exact f84.run rfl (by simp [f84, h1, z1, z2])
theorem ref_placed {r : Int} {x : Int × Int × Int × Int} (R : RefRate r x) (hx : x ∈ rates) (h0 : x.1 ≠ 0) (n : Int) (hn : 0 ≤ n) (hn' : n < perDay x) (w : World) : ∃ (m : Nat) (o : Int), C 85 #[.int .i64 r, .int .i64 n] w = some (.tuple #[.int .i64 (m : Int), .int .i64 (n - cum x.1 x.2.2.2 m + leftAt x.2.2.2 m), .int .i64 o], w) ∧ m < 1440 ∧ cum x.1 x.2.2.2 m ≤ n ∧ n < cum x.1 x.2.2.2 (m + 1) := by
  obtain ⟨r1, r2, r3, r4⟩ := rate_in hx h0
  rw [← cum_day hx] at hn'
  have key := iter_down (f := f85.l0 C) (fun d ws w1 => ∃ (m : Nat) (o : Int), ws = [.int .i64 r, .int .i64 (n - cum x.1 x.2.2.2 m), .int .i64 o, .int .i64 (m : Int)] ∧ m + d = 1440 ∧ w1 = w ∧ cum x.1 x.2.2.2 m ≤ n ∧ 0 ≤ o ∧ o ≤ 4 * m)
    (fun q => ∃ (m : Nat) (o : Int), q = .ret [.int .i64 (m : Int), .int .i64 (n - cum x.1 x.2.2.2 m + leftAt x.2.2.2 m), .int .i64 o] w ∧ m < 1440 ∧ cum x.1 x.2.2.2 m ≤ n ∧ n < cum x.1 x.2.2.2 (m + 1)) (by
      rintro d ws w1 ⟨m, o, rfl, hm, rfl, hle, ho, ho'⟩
      cases d with
      | zero =>
        obtain rfl : m = 1440 := by omega
        omega
      | succ d =>
        have hlt : (m : Int) < 1440 := by omega
        have h1 := R.count w1
        have h2 := R.left m w1 (by omega)
        obtain ⟨i1, i2⟩ := cum_in ⟨r1, r2⟩ ⟨r3, r4⟩ m
        obtain ⟨j1, j2⟩ := cum_in ⟨r1, r2⟩ ⟨r3, r4⟩ 1440
        have hl := leftAt_in r3 m
        have hnx : cum x.1 x.2.2.2 (m + 1) = cum x.1 x.2.2.2 m + (60 * x.1 - leftAt x.2.2.2 m) := rfl
        by_cases hin : n < cum x.1 x.2.2.2 (m + 1)
        · refine .inr ⟨.ret [.int .i64 (m : Int), .int .i64 (n - cum x.1 x.2.2.2 m + leftAt x.2.2.2 m), .int .i64 (o + leftAt x.2.2.2 m)] w1, ?_, ⟨m, _, rfl, by omega, hle, hin⟩, by simp⟩
          obtain ⟨K, hK⟩ : ∃ K, K = cum x.1 x.2.2.2 m := ⟨_, rfl⟩
          obtain ⟨Lf, hLf⟩ : ∃ K, K = leftAt x.2.2.2 m := ⟨_, rfl⟩
          obtain ⟨N, hN⟩ : ∃ K, K = cum x.1 x.2.2.2 (m + 1) := ⟨_, rfl⟩
          rw [← hK] at i1 i2 hnx hle ⊢
          rw [← hLf] at h2 hl hnx ⊢
          rw [← hN] at hin hnx
          have e1 : IntKind.i64.wrap (60 * x.1) = 60 * x.1 := wrap_i64 (by omega) (by omega)
          have e2 : IntKind.i64.wrap (o + Lf) = o + Lf := wrap_i64 (by omega) (by omega)
          have e3 : IntKind.i64.wrap (60 * x.1 - Lf) = 60 * x.1 - Lf := wrap_i64 (by omega) (by omega)
          have e5 : IntKind.i64.wrap (n - K + Lf) = n - K + Lf := wrap_i64 (by omega) (by omega)
          have hb : n - K < 60 * x.1 - Lf := by omega
          simp [f85.l0, hlt, h1, h2, e1, e2, e3, e5, hb]
        · refine .inl ⟨d, _, w1, by omega, ?_, ⟨m + 1, o + leftAt x.2.2.2 m, rfl, by omega, rfl, by omega, by omega, by omega⟩⟩
          obtain ⟨K, hK⟩ : ∃ K, K = cum x.1 x.2.2.2 m := ⟨_, rfl⟩
          obtain ⟨Lf, hLf⟩ : ∃ K, K = leftAt x.2.2.2 m := ⟨_, rfl⟩
          obtain ⟨N, hN⟩ : ∃ K, K = cum x.1 x.2.2.2 (m + 1) := ⟨_, rfl⟩
          rw [← hK] at i1 i2 hnx hle ⊢
          rw [← hLf] at h2 hl hnx ⊢
          rw [← hN] at hin hnx ⊢
          have e1 : IntKind.i64.wrap (60 * x.1) = 60 * x.1 := wrap_i64 (by omega) (by omega)
          have e2 : IntKind.i64.wrap (o + Lf) = o + Lf := wrap_i64 (by omega) (by omega)
          have e3 : IntKind.i64.wrap (60 * x.1 - Lf) = 60 * x.1 - Lf := wrap_i64 (by omega) (by omega)
          have e5 : IntKind.i64.wrap (n - K - (60 * x.1 - Lf)) = n - N := (wrap_i64 (by omega) (by omega)).trans (by omega)
          have e4 : IntKind.i64.wrap ((m : Int) + 1) = ((m + 1 : Nat) : Int) := (wrap_i64 (by omega) (by omega)).trans (by omega)
          have hb : ¬ n - K < 60 * x.1 - Lf := by omega
          simp [f85.l0, hlt, h1, h2, e1, e2, e3, e4, e5, hb]) 1440 [.int .i64 r, .int .i64 n, .int .i64 0, .int .i64 0] w ⟨0, 0, by simp [cum], by omega, rfl, by simpa [cum] using hn, by omega, by omega⟩
  obtain ⟨q, h1, m, o, rfl, h2, h3, h4⟩ := key
  exact ⟨m, o, f85.run rfl (by simp [f85, h1]), h2, h3, h4⟩
end Go.Sh.YtkghbcadnbojgaaGreatDoor

namespace Go.Sh.YtkghbcadnbojgaaGreatDoor
open Go Go.Proofs Go.RowKit Go.Lib Go.Sh.Ev
set_option linter.unusedVariables false
set_option linter.unusedSimpArgs false
set_option maxRecDepth 100000
theorem ref_two (n : Nat) (hn : n < 100) (w : World) : ∃ w', C 86 #[.int .i64 (n : Int)] w = some (st (two n), w') ∧ w.grownBy w' none := by
  have q1 := quoN n 10 (by omega) (by omega)
  have q2 := remN n 10 (by omega)
  rw [show ((10 : Nat) : Int) = 10 from rfl] at q1 q2
  have e1 : IntKind.i64.wrap (48 + ((n / 10 : Nat) : Int)) = ((48 + n / 10 : Nat) : Int) := (wrap_i64 (by omega) (by omega)).trans (by omega)
  have e2 : IntKind.i64.wrap (48 + ((n % 10 : Nat) : Int)) = ((48 + n % 10 : Nat) : Int) := (wrap_i64 (by omega) (by omega)).trans (by omega)
  have e3 : IntKind.u8.wrap ((48 + n / 10 : Nat) : Int) = ((48 + n / 10 : Nat) : Int) := by rw [wrap_u8n]; congr 1; omega
  have e4 : IntKind.u8.wrap ((48 + n % 10 : Nat) : Int) = ((48 + n % 10 : Nat) : Int) := by rw [wrap_u8n]; congr 1; omega
  have t1 : (UInt8.ofNat (48 + n / 10)).toNat = 48 + n / 10 := by simp; omega
  have t2 : (UInt8.ofNat (48 + n % 10)).toNat = 48 + n % 10 := by simp; omega
  have hbv : bv (two n) = [.int .u8 ((48 + n / 10 : Nat) : Int), .int .u8 ((48 + n % 10 : Nat) : Int)] := by simp only [two, bv, List.map_cons, List.map_nil, t1, t2]
  have b := Blk.new w 5 (bv (two n))
  have tx := tx160_9 (w := w.alloc (.cells (bv (two n)).toArray 5)) (A := some ⟨w.heap.size, 0, none⟩) (c := 2) (l := two n) (n := 2) rfl (fun j v hj => by rw [addL, Nat.zero_add]; exact b.cell_eq j hj)
  rw [hbv] at tx
  refine ⟨w.alloc (.cells #[.int .u8 ((48 + n / 10 : Nat) : Int), .int .u8 ((48 + n % 10 : Nat) : Int)] 5), f86.run rfl ?_, World.grownBy_alloc _ _ _⟩
  obtain ⟨A, hA⟩ : ∃ A : Int, A = ((n / 10 : Nat) : Int) := ⟨_, rfl⟩
  obtain ⟨B, hB⟩ : ∃ B : Int, B = ((n % 10 : Nat) : Int) := ⟨_, rfl⟩
  obtain ⟨A2, hA2⟩ : ∃ A : Int, A = ((48 + n / 10 : Nat) : Int) := ⟨_, rfl⟩
  obtain ⟨B2, hB2⟩ : ∃ B : Int, B = ((48 + n % 10 : Nat) : Int) := ⟨_, rfl⟩
  obtain ⟨T, hT⟩ : ∃ T, T = two n := ⟨_, rfl⟩
  rw [← hA] at q1 e1
  rw [← hB] at q2 e2
  rw [← hA2] at e1 e3 tx ⊢
  rw [← hB2] at e2 e4 tx ⊢
  rw [← hT] at tx ⊢
  have tx' : rrun Tryz.prog (convert 160 9 (.slice (some ⟨w.heap.size, 0, none⟩) 2 2)) (w.alloc (.cells #[.int .u8 A2, .int .u8 B2] 5)) = some (st T) := tx
  simp [f86, q1, e1, cv3_5, e3, q2, e2, e4, bs2, tx']
theorem ref_behind {r : Int} {x : Int × Int × Int × Int} (R : RefRate r x) (w : World) : C 88 #[.int .i64 r] w = some (st [UInt8.ofNat (markOf x.2.2.2)], w) := by
  have h1 := R.left 1 w (by omega)
  have e : leftAt x.2.2.2 1 = x.2.2.2 := rfl
  rw [e, show ((1 : Nat) : Int) = 1 from rfl] at h1
  refine f88.run rfl ?_
  unfold markOf
  by_cases h : 0 < x.2.2.2
  · simp [f88, h1, h]
  · simp [f88, h1, h]
theorem ref_name {r n : Int} (h1 : 1 ≤ r) (h7 : r ≤ 7) (hn : 0 ≤ n) (hn' : n < dayOf r) (w : World) : ∃ w', C 45 #[.int .i64 r, .int .i64 n] w = some (.tuple #[st (fname r n), .int .i64 0], w') ∧ w.grownBy w' none := by
  obtain ⟨x, R, hx, h0, hd, hf⟩ := ref_rate h1 h7
  rw [hd] at hn'
  obtain ⟨r1, r2, r3, r4⟩ := rate_in hx h0
  have ha := ref_asked R hx h0 n hn hn' w
  obtain ⟨m, o, hp, hm, hle, hlt⟩ := ref_placed R hx h0 n hn hn' w
  have hpe := placed_eq hx h0 n hn m hm hle hlt
  have hl := leftAt_in r3 m
  have hnx : cum x.1 x.2.2.2 (m + 1) = cum x.1 x.2.2.2 m + (60 * x.1 - leftAt x.2.2.2 m) := rfl
  obtain ⟨k, hk⟩ : ∃ k : Nat, (k : Int) = n - cum x.1 x.2.2.2 m + leftAt x.2.2.2 m := ⟨(n - cum x.1 x.2.2.2 m + leftAt x.2.2.2 m).toNat, by omega⟩
  obtain ⟨c, hc⟩ : ∃ c : Nat, (c : Int) = x.1 := ⟨x.1.toNat, by omega⟩
  rw [← hk] at hp hpe
  have hkc : k < 60 * c := by omega
  have hM : (n + leftOut x n).toNat = 60 * c * m + k := by
    rw [hpe, ← hc]
    have : 60 * (c : Int) * (m : Int) + (k : Int) = ((60 * c * m + k : Nat) : Int) := by push_cast; rfl
    rw [this, Int.toNat_natCast]
  rw [hf, hM, show x.1.toNat = c by omega, nameOf_placed c _ m k (by omega) hkc]
  have hcn := fun w => R.count w
  have hbh := fun w => ref_behind R w
  simp only [← hc] at hcn
  have hq : k / c < 60 := (Nat.div_lt_iff_lt_mul (by omega)).mpr hkc
  have hr : k % c < c := Nat.mod_lt _ (by omega)
  have q1 := quoN m 60 (by omega) (by omega)
  have q2 := remN m 60 (by omega)
  have q3 := quoN k c (by omega) (by omega)
  have q4 := remN k c (by omega)
  rw [show ((60 : Nat) : Int) = 60 from rfl] at q1 q2
  obtain ⟨w1, t1, g1⟩ := ref_two (m / 60) (by omega) w
  obtain ⟨w2, t2, g2⟩ := ref_two (m % 60) (by omega) w1
  obtain ⟨w3, t3, g3⟩ := ref_two (k / c) (by omega) w2
  obtain ⟨w4, t4, g4⟩ := ref_two (k % c) (by omega) w3
  refine ⟨w4, f45.run rfl ?_, grown_step (grown_step (grown_step g1 g2) g3) g4⟩
  have l1 : (two (m / 60)).length = 2 := rfl
  have l2 : (two (m % 60)).length = 2 := rfl
  have l3 : (two (k / c)).length = 2 := rfl
  have l4 : (two (k % c)).length = 2 := rfl
  obtain ⟨A, hA⟩ : ∃ A, A = two (m / 60) := ⟨_, rfl⟩
  obtain ⟨B, hB⟩ : ∃ A, A = two (m % 60) := ⟨_, rfl⟩
  obtain ⟨D, hD⟩ : ∃ A, A = two (k / c) := ⟨_, rfl⟩
  obtain ⟨E, hE⟩ : ∃ A, A = two (k % c) := ⟨_, rfl⟩
  rw [← hA] at t1 l1 ⊢
  rw [← hB] at t2 l2 ⊢
  rw [← hD] at t3 l3 ⊢
  rw [← hE] at t4 l4 ⊢
  obtain ⟨mk, hmk⟩ : ∃ mk, mk = [UInt8.ofNat (markOf x.2.2.2)] := ⟨_, rfl⟩
  have lm : mk.length = 1 := by rw [hmk]; rfl
  rw [← hmk] at hbh ⊢
  have a1 := fun x y => str_add (P := Tryz.prog) Tryz.underlying9 x y A [58] (by rw [l1]; decide)
  have a2 := fun x y => str_add (P := Tryz.prog) Tryz.underlying9 x y (A ++ [58]) B (by simp [l1, l2])
  have a3 := fun x y => str_add (P := Tryz.prog) Tryz.underlying9 x y (A ++ [58] ++ B) [58] (by simp [l1, l2])
  have a4 := fun x y => str_add (P := Tryz.prog) Tryz.underlying9 x y (A ++ [58] ++ B ++ [58]) D (by simp [l1, l2, l3])
  have a5 := fun x y => str_add (P := Tryz.prog) Tryz.underlying9 x y (A ++ [58] ++ B ++ [58] ++ D) mk (by simp [l1, l2, l3, lm])
  have a6 := fun x y => str_add (P := Tryz.prog) Tryz.underlying9 x y (A ++ [58] ++ B ++ [58] ++ D ++ mk) E (by simp [l1, l2, l3, l4, lm])
  have a1' : ∀ x y, prun Tryz.prog (do eqGuard .add 9 x y (st A) (.string ⟨#[58]⟩); binOp .add 9 (st A) (.string ⟨#[58]⟩)) = some (st (A ++ [58])) := a1
  have a3' : ∀ x y, prun Tryz.prog (do eqGuard .add 9 x y (st (A ++ [58] ++ B)) (.string ⟨#[58]⟩); binOp .add 9 (st (A ++ [58] ++ B)) (.string ⟨#[58]⟩)) = some (st (A ++ [58] ++ B ++ [58])) := a3
  obtain ⟨S1, hS1⟩ : ∃ S, S = A ++ [58] := ⟨_, rfl⟩
  simp only [← hS1] at a1' a2 a3' a4 a5 a6 ⊢
  obtain ⟨S2, hS2⟩ : ∃ S, S = S1 ++ B := ⟨_, rfl⟩
  simp only [← hS2] at a2 a3' a4 a5 a6 ⊢
  obtain ⟨S3, hS3⟩ : ∃ S, S = S2 ++ [58] := ⟨_, rfl⟩
  simp only [← hS3] at a3' a4 a5 a6 ⊢
  obtain ⟨S4, hS4⟩ : ∃ S, S = S3 ++ D := ⟨_, rfl⟩
  simp only [← hS4] at a4 a5 a6 ⊢
  obtain ⟨S5, hS5⟩ : ∃ S, S = S4 ++ mk := ⟨_, rfl⟩
  simp only [← hS5] at a5 a6 ⊢
  obtain ⟨S6, hS6⟩ : ∃ S, S = S5 ++ E := ⟨_, rfl⟩
  simp only [← hS6] at a6 ⊢
  obtain ⟨K, hKK⟩ : ∃ K : Int, K = (k : Int) := ⟨_, rfl⟩
  obtain ⟨M, hMM⟩ : ∃ K : Int, K = (m : Int) := ⟨_, rfl⟩
  obtain ⟨Cc, hCC⟩ : ∃ K : Int, K = (c : Int) := ⟨_, rfl⟩
  obtain ⟨Q1, hQ1⟩ : ∃ K : Int, K = ((m / 60 : Nat) : Int) := ⟨_, rfl⟩
  obtain ⟨Q2, hQ2⟩ : ∃ K : Int, K = ((m % 60 : Nat) : Int) := ⟨_, rfl⟩
  obtain ⟨Q3, hQ3⟩ : ∃ K : Int, K = ((k / c : Nat) : Int) := ⟨_, rfl⟩
  obtain ⟨Q4, hQ4⟩ : ∃ K : Int, K = ((k % c : Nat) : Int) := ⟨_, rfl⟩
  rw [← hMM, ← hQ1] at q1
  rw [← hMM, ← hQ2] at q2
  rw [← hKK, ← hCC, ← hQ3] at q3
  rw [← hKK, ← hCC, ← hQ4] at q4
  rw [← hQ1] at t1
  rw [← hQ2] at t2
  rw [← hQ3] at t3
  rw [← hQ4] at t4
  rw [← hMM, ← hKK] at hp
  simp only [← hCC] at hcn
  simp [f45, ha, hp, q1, t1, a1', q2, t2, a2, a3', hcn, q3, t3, a4, hbh, a5, q4, t4, a6]
theorem ref_rname {r : Int} (h1 : 1 ≤ r) (h7 : r ≤ 7) (w : World) : C 42 #[.int .i64 r] w = some (st (rname r), w) := by
  rcases (show r = 1 ∨ r = 2 ∨ r = 3 ∨ r = 4 ∨ r = 5 ∨ r = 6 ∨ r = 7 by omega) with rfl | rfl | rfl | rfl | rfl | rfl | rfl <;> exact f42.run rfl (by simp [f42]; rfl)
theorem esc1_len (c : UInt8) : (esc1 c).length ≤ 2 := by
  unfold esc1
  split
  · simp
  · split <;> simp
theorem ref_quo (t : List UInt8) (ht : t.length ≤ 1000) (w : World) : C 43 #[st t] w = some (st (quo t), w) := by
  have hsl := fun ty => str_len (P := Tryz.prog) Tryz.underlying9 ty t
  have hel : ∀ i, (esc (t.take i)).length ≤ 2 * i := fun i => by
    have h1 : ∀ l : List UInt8, (esc l).length ≤ 2 * l.length := fun l => by
      induction l with
      | nil => simp [esc]
      | cons c l ih =>
        have e := esc1_len c
        rw [esc] at ih ⊢
        rw [List.flatMap_cons, List.length_append, List.length_cons]
        omega
    have := h1 (t.take i)
    rw [List.length_take] at this
    omega
  have key := iter_down (f := f43.l0 C) (fun d ws w1 => ∃ i : Nat, ws = [st t, st (34 :: esc (t.take i)), .int .i64 (i : Int)] ∧ i + d = t.length ∧ w1 = w)
    (fun q => q = .exit 0 [st (34 :: esc t)] w) (by
      rintro d ws w1 ⟨i, rfl, hi, rfl⟩
      cases d with
      | zero =>
        obtain rfl : i = t.length := by omega
        rw [List.take_length]
        exact .inr ⟨.exit 0 [st (34 :: esc t)] w1, by simp [f43.l0, hsl], rfl, by simp⟩
      | succ d =>
        have hil : i < t.length := by omega
        have hlt : (i : Int) < t.length := by omega
        have ix := str_index (P := Tryz.prog) Tryz.underlying9 t .i64 i hil
        have sl := str_part (P := Tryz.prog) Tryz.underlying9 t .i64 .i64 i (i + 1) (by omega) (by omega)
        have h1 : (t.drop i).take (i + 1 - i) = [t[i]] := by rw [Nat.add_sub_cancel_left, List.drop_eq_getElem_cons hil]; rfl
        rw [h1] at sl
        have e1 : IntKind.i64.wrap ((i : Int) + 1) = ((i + 1 : Nat) : Int) := (wrap_i64 (by omega) (by omega)).trans (by omega)
        have htk : esc (t.take (i + 1)) = esc (t.take i) ++ esc1 t[i] := by
          rw [List.take_succ_eq_append_getElem hil, esc, List.flatMap_append]
          simp [esc]
        have hl := hel i
        obtain ⟨c, hc⟩ : ∃ c, c = t[i] := ⟨_, rfl⟩
        obtain ⟨O, hO⟩ : ∃ O, O = 34 :: esc (t.take i) := ⟨_, rfl⟩
        have hOl : O.length ≤ 2001 := by rw [hO, List.length_cons]; omega
        have hN : 34 :: esc (t.take (i + 1)) = O ++ esc1 c := by rw [htk, hO, hc]; rfl
        rw [← hc] at ix sl
        rw [← hO]
        have ad := fun x y => str_add (P := Tryz.prog) Tryz.underlying9 x y O (esc1 c) (by have := esc1_len c; omega)
        refine .inl ⟨d, _, w1, by omega, ?_, ⟨i + 1, rfl, by omega, rfl⟩⟩
        rw [hN]
        obtain ⟨N, hNn⟩ : ∃ N : Nat, N = c.toNat := ⟨_, rfl⟩
        rw [← hNn] at ix
        obtain ⟨I, hI⟩ : ∃ I : Int, I = ((i + 1 : Nat) : Int) := ⟨_, rfl⟩
        rw [← hI] at e1 sl ⊢
        by_cases h34 : c = 34
        · have hn : N = 34 := by rw [hNn, h34]; rfl
          have es : esc1 c = [92, 34] := by rw [h34]; rfl
          rw [es] at ad ⊢
          rw [hn] at ix
          have ad' : ∀ x y, prun Tryz.prog (do eqGuard .add 9 x y (st O) (.string ⟨#[92, 34]⟩); binOp .add 9 (st O) (.string ⟨#[92, 34]⟩)) = some (st (O ++ [92, 34])) := ad
          have ix' : prun Tryz.prog (Instr.index 9 (st t) (.int .i64 i)) = some (.int .u8 34) := ix
          simp [f43.l0, hsl, hlt, ix', ad', e1]
        · have n34 : ¬ (N : Int) = 34 := fun h => h34 ((c_eq (c := c) (n := 34) (by omega)).mp (by omega))
          by_cases h92 : c = 92
          · have hn : N = 92 := by rw [hNn, h92]; rfl
            have es : esc1 c = [92, 92] := by rw [h92]; rfl
            rw [es] at ad ⊢
            rw [hn] at ix
            have ad' : ∀ x y, prun Tryz.prog (do eqGuard .add 9 x y (st O) (.string ⟨#[92, 92]⟩); binOp .add 9 (st O) (.string ⟨#[92, 92]⟩)) = some (st (O ++ [92, 92])) := ad
            have ix' : prun Tryz.prog (Instr.index 9 (st t) (.int .i64 i)) = some (.int .u8 92) := ix
            simp [f43.l0, hsl, hlt, ix', ad', e1]
          · have n92 : ¬ (N : Int) = 92 := fun h => h92 ((c_eq (c := c) (n := 92) (by omega)).mp (by omega))
            by_cases h10 : c = 10
            · have hn : N = 10 := by rw [hNn, h10]; rfl
              have es : esc1 c = [92, 110] := by rw [h10]; rfl
              rw [es] at ad ⊢
              rw [hn] at ix
              have ad' : ∀ x y, prun Tryz.prog (do eqGuard .add 9 x y (st O) (.string ⟨#[92, 110]⟩); binOp .add 9 (st O) (.string ⟨#[92, 110]⟩)) = some (st (O ++ [92, 110])) := ad
              have ix' : prun Tryz.prog (Instr.index 9 (st t) (.int .i64 i)) = some (.int .u8 10) := ix
              simp [f43.l0, hsl, hlt, ix', ad', e1]
            · have n10 : ¬ (N : Int) = 10 := fun h => h10 ((c_eq (c := c) (n := 10) (by omega)).mp (by omega))
              have es : esc1 c = [c] := by rw [esc1, if_neg (by simp [h34, h92]), if_neg h10]
              rw [es] at ad ⊢
              simp [f43.l0, hsl, hlt, ix, n34, n92, n10, sl, ad, e1]) t.length [st t, st [34], .int .i64 0] w ⟨0, rfl, by omega, rfl⟩
  obtain ⟨q, h1, rfl⟩ := key
  have h1' : iter (f43.l0 C) [st t, .string ⟨#[34]⟩, .int .i64 0] w = some (.exit 0 [st (34 :: esc t)] w) := h1
  have hl := hel t.length
  rw [List.take_length] at hl
  obtain ⟨O, hO⟩ : ∃ O, O = 34 :: esc t := ⟨_, rfl⟩
  have ad := fun x y => str_add (P := Tryz.prog) Tryz.underlying9 x y O [34] (by rw [hO]; simp; omega)
  have ad' : ∀ x y, prun Tryz.prog (do eqGuard .add 9 x y (st O) (.string ⟨#[34]⟩); binOp .add 9 (st O) (.string ⟨#[34]⟩)) = some (st (O ++ [34])) := ad
  rw [← hO] at h1'
  refine f43.run rfl ?_
  have hq : quo t = O ++ [34] := by rw [hO]; rfl
  rw [hq]
  simp [f43, h1', ad']
end Go.Sh.YtkghbcadnbojgaaGreatDoor

namespace Go.Sh.YtkghbcadnbojgaaGreatDoor
open Go Go.Proofs Go.RowKit Go.Sh.Ev
set_option linter.unusedVariables false
set_option linter.unusedSimpArgs false
set_option maxRecDepth 100000
/-- what the runs read beside their arguments -/
structure Lay (w : World) : Prop where
  u : Ut w
  t : Tb w
  g : GlobOk gl2 w
  h : w.cell? ⟨0, 0, none⟩ = some hnd
theorem Lay.grown {w w' : World} (h : Lay w) (g : w.grownBy w' none) : Lay w' := ⟨h.u.grown g, h.t.grown g, globOk_grown h.g g, by
  have h1 : Rd w (some ⟨0, 0, none⟩) [hnd] := fun j v hj => by
    cases j with
    | zero => simp at hj; subst hj; exact h.h
    | succ j => simp at hj
  exact h1.grown g 0 hnd rfl⟩
theorem alive_run : okTrue (bRun Tryz.prog gl2 1000 annA (fun _ => false) 60 8 [] ⟨0, .leaf⟩) = true := by kernel_rfl
theorem alive_ok {w : World} (hG : GlobOk gl2 w) : ∃ w', C 8 #[] w = some (.bool true, w') ∧ w.grownBy w' none := by
  obtain ⟨w', h, gr⟩ := closed_true (ann := annA) (prim := noPrim) (isPrim := fun _ => false) (fun _ _ _ _ => rfl) hG alive_run
  exact ⟨w', told_run rfl h, gr⟩
theorem pick_ok (c : Int) (n : Int) (hn : 0 < n) (hN : n ≤ 9223372036854775807) (hc : -9223372036854775808 ≤ c) (hc' : c ≤ 9223372036854775807) (w : World) :
    ∃ r : Int, C 19 #[.int .i64 c, .int .i64 n] w = some (.int .i64 r, w) ∧ 0 ≤ r ∧ r < n := by
  by_cases h : c < 0
  · have e1 : IntKind.i64.wrap (c + 1) = c + 1 := wrap_i64 (by omega) (by omega)
    have e2 : IntKind.i64.wrap (0 - (c + 1)) = -(c + 1) := by rw [Int.zero_sub]; exact wrap_i64 (by omega) (by omega)
    refine ⟨(-(c + 1)).tmod n, f19.run rfl ?_, Int.tmod_nonneg _ (by omega), Int.tmod_lt_of_pos _ hn⟩
    simp only [f19, bin_lss, h, decide_true, Option.bind_some, asB_bool, if_true, bin_add, e1, un_neg, e2, cont_norm, nth_zero, nth_succ]
    simp [bin_rem _ _ _ (show n ≠ 0 by omega)]
  · refine ⟨c.tmod n, f19.run rfl ?_, Int.tmod_nonneg _ (by omega), Int.tmod_lt_of_pos _ hn⟩
    simp [f19, h, bin_rem _ _ _ (show n ≠ 0 by omega)]
end Go.Sh.YtkghbcadnbojgaaGreatDoor

namespace Go.Sh.YtkghbcadnbojgaaGreatDoor
open Go Go.Proofs Go.RowKit Go.Lib Go.Sh.Ev
set_option linter.unusedVariables false
set_option linter.unusedSimpArgs false
set_option maxRecDepth 100000
theorem as_nil (v : Value) (w : World) : C 34 #[.nilIface, v] w = some (.bool false, w) := f34.run rfl (by simp [f34])
theorem is_nil (z : Int) (w : World) : C 22 #[.nilIface, .iface 35 (.int .i64 z)] w = some (.bool false, w) := by
  have h : ∀ x y, rrun Tryz.prog (do eqGuard .eql 32 x y .nilIface (.iface 35 (.int .i64 z)); binOp .eql 32 .nilIface (.iface 35 (.int .i64 z))) w = some (.bool false) := fun x y => id (by kernel_rfl)
  exact f22.run rfl (by simp [f22, h])
theorem alloc82 (w : World) : erun Tryz.prog (Instr.alloc 82 true (.tuple #[])) w = some (.pointer (some ⟨w.heap.size, 0, none⟩), w.alloc (.cells #[.pointer none] 82)) := id (by kernel_rfl)
theorem mk85 (v : Value) : prun Tryz.prog (Instr.makeInterface 85 v) = some (.iface 85 v) := id (by kernel_rfl)
section
variable {W : World} {X : Asn W.heap.size}
theorem time_good {w : World} (L : Lay W) {rb : Nat} {B : Option Addr} {cc : Nat} {y : Wd} {rest : List Wd} {e r n : Int} (h1 : 1 ≤ r) (h7 : r ≤ 7) (hn : 0 ≤ n) (hn' : n < dayOf r) (hy : y.s = fname r n) (x : Sat W (rdrS rb B cc (y :: rest) e X) w) (hc : (y :: rest).length ≤ cc) (hl : (y :: rest).length ≤ 30000) (hz : nextE false (y :: rest) e = none) :
    ∃ B' cc' w', C 68 #[.pointer (some ⟨rb, 0, none⟩), .int .i64 r] w = some (.tuple #[.int .i64 n, wv (y.a : Int) y.s false false, .nilIface], w') ∧ Sat W (rdrS rb B' cc' rest e X) w' ∧ rest.length ≤ cc' := by
  have x1 := x.newBlk 114 (wc 0 [] false false)
  have a1 := alloc114 w
  obtain ⟨w1, hw1⟩ : ∃ w1, w1 = w.alloc (.cells (wc 0 [] false false).toArray 114) := ⟨_, rfl⟩
  rw [← hw1] at x1 a1
  have y1 : Sat W (rdrS rb B cc (y :: rest) e (blkA w.heap.size 114 (wc 0 [] false false) * X)) w1 := x1.eq (by unfold rdrS; ac_rfl)
  obtain ⟨B', cc', w2, h2, y2, hcc, _, _, _⟩ := next_good y1 hc hl false hz
  have y3 := y2.newBlk 114 (wc 0 [] false false)
  have a3 := alloc114 w2
  obtain ⟨w3, hw3⟩ : ∃ w3, w3 = w2.alloc (.cells (wc 0 [] false false).toArray 114) := ⟨_, rfl⟩
  rw [← hw3] at y3 a3
  obtain ⟨w4, h4, y4⟩ := put_word y3 rfl (y.a : Int) y.s false false
  have q1 := y4.cell 1 rfl
  obtain ⟨w5, h5, g5⟩ := number_ok (L.grown (grown_of y4)).t h1 h7 hn hn'
  rw [← hy] at h5
  have y5 := y4.grown g5
  have y6 := y5.grown (World.grownBy_alloc w5 (.cells #[.pointer none] 82) none)
  have a6 := alloc82 w5
  obtain ⟨w6, hw6⟩ : ∃ w6, w6 = w5.alloc (.cells #[.pointer none] 82) := ⟨_, rfl⟩
  rw [← hw6] at y6 a6
  have l6 := ld_word y6.drew
  have asn := as_nil (.iface 85 (.pointer (some ⟨w5.heap.size, 0, none⟩))) w6
  have y7 : Sat W (blkA w.heap.size 114 (wc 0 [] false false) * (blkA w2.heap.size 114 (wc (y.a : Int) y.s false false) * rdrS rb B' cc' rest e X)) w6.drew := y6.drew.eq (by unfold rdrS; ac_rfl)
  obtain ⟨w8, h8, y8⟩ := put_word y7 rfl (y.a : Int) y.s false false
  have l8 := ld_word y8
  refine ⟨B', cc', w8, f68.run rfl ?_, y8.right.right, hcc⟩
  have q1' : w4.cell? ⟨w2.heap.size, 1, none⟩ = some (st y.s) := q1
  simp [f68, a1, h2, a3, h4, addL, q1', h5, a6, mk85, asn, l6, h8, l8]
end
end Go.Sh.YtkghbcadnbojgaaGreatDoor

namespace Go.Sh.YtkghbcadnbojgaaGreatDoor
open Go Go.Proofs Go.RowKit Go.Lib Go.Sh.Ev
set_option linter.unusedVariables false
set_option linter.unusedSimpArgs false
set_option maxRecDepth 100000
noncomputable def ev3 (call : CallF) (vs_1 : List Value) (W2 : World) : Option Res :=
  let t0_2 := nth vs_1 0
  let o1_2 := nth vs_1 1
  let a5_1 := nth vs_1 2
  let y6_1 := nth vs_1 3
  let v11 := nth vs_1 4
  (call 63 #[t0_2] W2).bind fun r114 =>
  (rrun Tryz.prog (do eqGuard .neq 32 (Operand.tmp 115) (Operand.const Value.nilIface) r114.1 Value.nilIface; binOp .neq 32 r114.1 Value.nilIface) r114.2).bind fun v116 =>
  (asB v116).bind fun c116 =>
  if c116 then
    some (Res.ret [r114.1] r114.2)
  else
  ((nilV Tryz.prog o1_2).bind fun v120 =>
  some (v120, r114.2.drew)).bind fun r120 =>
  ((prun Tryz.prog (Instr.fieldAt 30 r120.1 2)).bind fun v121 =>
  some (v121, r120.2)).bind fun r121 =>
  ((rrun Tryz.prog (Instr.loadAt 28 r121.1) r121.2).bind fun v122 =>
  some (v122, r121.2)).bind fun r122 =>
  ((rrun Tryz.prog (Instr.loadAt 51 a5_1) r122.2).bind fun v123 =>
  some (v123, r122.2)).bind fun r123 =>
  ((erun Tryz.prog (Instr.buildSlice 28 1 #[(0, r123.1)]) r123.2).bind fun r124_1 =>
  some (r124_1.1, r124_1.2)).bind fun r124 =>
  ((erun Tryz.prog (Builtin.append_ #[28, 28] 28 #[r122.1, r124.1]) r124.2).bind fun r125_1 =>
  some (r125_1.1, r125_1.2)).bind fun r125 =>
  ((nilV Tryz.prog o1_2).bind fun v126 =>
  some (v126, r125.2)).bind fun r126 =>
  ((prun Tryz.prog (Instr.fieldAt 30 r126.1 2)).bind fun v127 =>
  some (v127, r126.2)).bind fun r127 =>
  ((erun Tryz.prog (Instr.storeAt 28 r127.1 r125.1) r127.2).bind fun r_12 =>
  some (undef, r_12.2)).bind fun r_11 =>
  chkThen ((((rrun Tryz.prog (Instr.loadAt 28 r121.1) r123.2).bind fun v122_1 => some v122_1) = some r122.1 ∧ ((rrun Tryz.prog (Instr.loadAt 28 r121.1) r124.2).bind fun v122_2 => some v122_2) = some r122.1) ∧ True)
  ((nilV Tryz.prog o1_2).bind fun v129 =>
  (rrun Tryz.prog (Instr.loadAt 30 v129) r_11.2).bind fun v130 =>
  (call 15 #[v130] r_11.2).bind fun r131 =>
  ((prun Tryz.prog (Instr.makeInterface 35 (Value.int IntKind.i64 194))).bind fun v134 =>
  (call 22 #[r131.1, v134] r131.2).bind fun r135 =>
  (asB r135.1).bind fun c132 =>
  if c132 then
    (prun Tryz.prog (Instr.fieldAt 114 v11 0)).bind fun v136 =>
    (rrun Tryz.prog (Instr.loadAt 3 v136) r135.2).bind fun v137 =>
    (call 23 #[v137, (Value.int IntKind.i64 194)] r135.2).bind fun r138 =>
    some (Res.ret [r138.1] r138.2)
  else
  (rrun Tryz.prog (do eqGuard .neq 32 (Operand.tmp 140) (Operand.const Value.nilIface) r131.1 Value.nilIface; binOp .neq 32 r131.1 Value.nilIface) r135.2).bind fun v141 =>
  (asB v141).bind fun c139 =>
  if c139 then
    (prun Tryz.prog (Instr.fieldAt 114 y6_1 0)).bind fun v142 =>
    (rrun Tryz.prog (Instr.loadAt 3 v142) r135.2).bind fun v143 =>
    (call 23 #[v143, (Value.int IntKind.i64 195)] r135.2).bind fun r144 =>
    some (Res.ret [r144.1] r144.2)
  else
  some (Res.norm [] r135.2)).bind fun (r : Res) => (r.unblock 0).cont fun vs_2 W3 =>
  some (Res.ret [Value.nilIface] W3))
noncomputable def ev2 (call : CallF) (vs : List Value) (W1 : World) : Option Res :=
  let t0_1 := nth vs 0
  let o1_1 := nth vs 1
  let a5 := nth vs 2
  let y6 := nth vs 3
  (call 58 #[t0_1, (.func (.func 67) #[] #[])] W1).bind fun r58 =>
  (prun Tryz.prog (Instr.extract r58.1 0)).bind fun v59 =>
  (prun Tryz.prog (Instr.extract r58.1 1)).bind fun v60 =>
  (erun Tryz.prog (Instr.alloc 114 true (.tuple #[])) r58.2).bind fun r10 =>
  (erun Tryz.prog (Instr.storeAt 114 r10.1 v59) r10.2).bind fun r_3 =>
  (rrun Tryz.prog (do eqGuard .neq 32 (Operand.tmp 61) (Operand.const Value.nilIface) v60 Value.nilIface; binOp .neq 32 v60 Value.nilIface) r_3.2).bind fun v62 =>
  (asB v62).bind fun c62 =>
  if c62 then
    some (Res.ret [v60] r_3.2)
  else
  (prun Tryz.prog (Instr.fieldAt 114 r10.1 1)).bind fun v64 =>
  (rrun Tryz.prog (Instr.loadAt 9 v64) r_3.2).bind fun v65 =>
  (prun Tryz.prog (Instr.fieldAt 51 a5 0)).bind fun v66 =>
  (erun Tryz.prog (Instr.storeAt 9 v66 v65) r_3.2).bind fun r_4 =>
  (nilV Tryz.prog o1_1).bind fun v70 =>
  (prun Tryz.prog (Instr.fieldAt 30 v70 1)).bind fun v71 =>
  (rrun Tryz.prog (Instr.loadAt 27 v71) r_4.2).bind fun v72 =>
  (call 68 #[t0_1, v72] r_4.2).bind fun r73 =>
  (prun Tryz.prog (Instr.extract r73.1 0)).bind fun v74 =>
  (prun Tryz.prog (Instr.extract r73.1 1)).bind fun v75 =>
  (prun Tryz.prog (Instr.extract r73.1 2)).bind fun v76 =>
  (prun Tryz.prog (Instr.fieldAt 51 a5 1)).bind fun v77 =>
  (erun Tryz.prog (Instr.storeAt 3 v77 v74) r73.2).bind fun r_5 =>
  (rrun Tryz.prog (do eqGuard .neq 32 (Operand.tmp 78) (Operand.const Value.nilIface) v76 Value.nilIface; binOp .neq 32 v76 Value.nilIface) r_5.2).bind fun v79 =>
  (asB v79).bind fun c79 =>
  if c79 then
    some (Res.ret [v76] r_5.2)
  else
  (prun Tryz.prog (Instr.build 114 #[])).bind fun v81 =>
  (erun Tryz.prog (Instr.alloc 114 true (.tuple #[])) r_5.2).bind fun r11 =>
  (erun Tryz.prog (Instr.storeAt 114 r11.1 v81) r11.2).bind fun r_6 =>
  (nilV Tryz.prog o1_1).bind fun v85 =>
  (prun Tryz.prog (Instr.fieldAt 30 v85 1)).bind fun v86 =>
  (rrun Tryz.prog (Instr.loadAt 27 v86) r_6.2).bind fun v87 =>
  (call 68 #[t0_1, v87] r_6.2).bind fun r88 =>
  (prun Tryz.prog (Instr.extract r88.1 0)).bind fun v89 =>
  (prun Tryz.prog (Instr.extract r88.1 1)).bind fun v90 =>
  (prun Tryz.prog (Instr.extract r88.1 2)).bind fun v91 =>
  (prun Tryz.prog (Instr.fieldAt 51 a5 2)).bind fun v92 =>
  (erun Tryz.prog (Instr.storeAt 3 v92 v89) r88.2).bind fun r_7 =>
  (erun Tryz.prog (Instr.storeAt 114 r11.1 v90) r_7.2).bind fun r_8 =>
  (rrun Tryz.prog (do eqGuard .neq 32 (Operand.tmp 93) (Operand.const Value.nilIface) v91 Value.nilIface; binOp .neq 32 v91 Value.nilIface) r_8.2).bind fun v94 =>
  (asB v94).bind fun c94 =>
  if c94 then
    some (Res.ret [v91] r_8.2)
  else
  (nilV Tryz.prog t0_1).bind fun v97 =>
  (prun Tryz.prog (Instr.fieldAt 64 v97 0)).bind fun v98 =>
  (rrun Tryz.prog (Instr.loadAt 62 v98) r_8.2).bind fun v99 =>
  (prun Tryz.prog (Builtin.len_ #[62] 3 #[v99])).bind fun v100 =>
  (bin .gtr v100 (Value.int IntKind.i64 0)).bind fun v101 =>
  (asB v101).bind fun c101 =>
  (if c101 then
    (call 62 #[t0_1, (Value.bool true)] r_8.2).bind fun r104 =>
    (prun Tryz.prog (Instr.extract r104.1 0)).bind fun v105 =>
    (prun Tryz.prog (Instr.extract r104.1 1)).bind fun v106 =>
    (erun Tryz.prog (Instr.alloc 114 true (.tuple #[])) r104.2).bind fun r12 =>
    (erun Tryz.prog (Instr.storeAt 114 r12.1 v105) r12.2).bind fun r_9 =>
    (rrun Tryz.prog (do eqGuard .neq 32 (Operand.tmp 107) (Operand.const Value.nilIface) v106 Value.nilIface; binOp .neq 32 v106 Value.nilIface) r_9.2).bind fun v108 =>
    (asB v108).bind fun c108 =>
    if c108 then
      some (Res.ret [v106] r_9.2)
    else
    (prun Tryz.prog (Instr.fieldAt 114 r12.1 1)).bind fun v110 =>
    (rrun Tryz.prog (Instr.loadAt 9 v110) r_9.2).bind fun v111 =>
    (prun Tryz.prog (Instr.fieldAt 51 a5 4)).bind fun v112 =>
    (erun Tryz.prog (Instr.storeAt 9 v112 v111) r_9.2).bind fun r_10 =>
    some (Res.norm [t0_1, o1_1, a5, y6, r11.1] r_10.2)
   else
    some (Res.norm [t0_1, o1_1, a5, y6, r11.1] r_8.2)).bind fun (r : Res) => r.cont (ev3 call)
theorem f28.parts (call : CallF) (t0 : Value) (o1 : Value) (W0 : World) : f28 call t0 o1 W0 =
  ((nilV Tryz.prog o1).bind fun v17 =>
  (prun Tryz.prog (Instr.fieldAt 30 v17 2)).bind fun v18 =>
  (rrun Tryz.prog (Instr.loadAt 28 v18) W0).bind fun v19 =>
  (prun Tryz.prog (Builtin.len_ #[28] 3 #[v19])).bind fun v20 =>
  (bin .eql v20 (Value.int IntKind.i64 200)).bind fun v21 =>
  (asB v21).bind fun c21 =>
  if c21 then
    (nilV Tryz.prog t0).bind fun v23 =>
    (prun Tryz.prog (Instr.fieldAt 64 v23 0)).bind fun v24 =>
    (rrun Tryz.prog (Instr.loadAt 62 v24) W0).bind fun v25 =>
    (prun Tryz.prog (Instr.indexAt 62 v25 (Value.int IntKind.i64 0))).bind fun v26 =>
    (prun Tryz.prog (Instr.fieldAt 114 v26 0)).bind fun v27 =>
    (rrun Tryz.prog (Instr.loadAt 3 v27) W0).bind fun v28 =>
    (call 23 #[v28, (Value.int IntKind.i64 196)] W0).bind fun r29 =>
    some (Res.ret [r29.1] r29.2)
  else
  (erun Tryz.prog (Instr.alloc 51 true (.tuple #[])) W0).bind fun r5 =>
  (call 58 #[t0, (.func (.func 64) #[] #[])] r5.2).bind fun r32 =>
  (prun Tryz.prog (Instr.extract r32.1 0)).bind fun v33 =>
  (prun Tryz.prog (Instr.extract r32.1 1)).bind fun v34 =>
  (erun Tryz.prog (Instr.alloc 114 true (.tuple #[])) r32.2).bind fun r6 =>
  (erun Tryz.prog (Instr.storeAt 114 r6.1 v33) r6.2).bind fun r =>
  (rrun Tryz.prog (do eqGuard .neq 32 (Operand.tmp 35) (Operand.const Value.nilIface) v34 Value.nilIface; binOp .neq 32 v34 Value.nilIface) r.2).bind fun v36 =>
  (asB v36).bind fun c36 =>
  if c36 then
    some (Res.ret [v34] r.2)
  else
  (prun Tryz.prog (Instr.fieldAt 114 r6.1 1)).bind fun v38 =>
  (rrun Tryz.prog (Instr.loadAt 9 v38) r.2).bind fun v39 =>
  (prun Tryz.prog (do eqGuard .eql 9 (Operand.tmp 39) (Operand.const (Value.string { data := #[102, 97, 100, 101] })) v39 (Value.string { data := #[102, 97, 100, 101] }); binOp .eql 9 v39 (Value.string { data := #[102, 97, 100, 101] }))).bind fun v40 =>
  (asB v40).bind fun c40 =>
  (if c40 then
    (call 58 #[t0, (.func (.func 65) #[] #[])] r.2).bind fun r43 =>
    (prun Tryz.prog (Instr.extract r43.1 0)).bind fun v44 =>
    (prun Tryz.prog (Instr.extract r43.1 1)).bind fun v45 =>
    (erun Tryz.prog (Instr.alloc 114 true (.tuple #[])) r43.2).bind fun r8 =>
    (erun Tryz.prog (Instr.storeAt 114 r8.1 v44) r8.2).bind fun r_1 =>
    (rrun Tryz.prog (do eqGuard .neq 32 (Operand.tmp 46) (Operand.const Value.nilIface) v45 Value.nilIface; binOp .neq 32 v45 Value.nilIface) r_1.2).bind fun v47 =>
    (asB v47).bind fun c47 =>
    if c47 then
      some (Res.ret [v45] r_1.2)
    else
    (prun Tryz.prog (Instr.fieldAt 114 r8.1 1)).bind fun v50 =>
    (rrun Tryz.prog (Instr.loadAt 9 v50) r_1.2).bind fun v51 =>
    (call 66 #[v51] r_1.2).bind fun r52 =>
    (prun Tryz.prog (Instr.extract r52.1 0)).bind fun v53 =>
    (prun Tryz.prog (Instr.extract r52.1 1)).bind fun v54 =>
    (prun Tryz.prog (Instr.fieldAt 51 r5.1 3)).bind fun v55 =>
    (erun Tryz.prog (Instr.storeAt 3 v55 v53) r52.2).bind fun r_2 =>
    some (Res.norm [t0, o1, r5.1, r6.1] r_2.2)
   else
    some (Res.norm [t0, o1, r5.1, r6.1] r.2)).bind fun (r : Res) => r.cont (ev2 call)).bind Res.done := rfl
theorem fine_ck {t : List UInt8} {r : Int} {q : List Ev} (F : Fine t r q) : ckCode t r q = none := by
  have h1 := F.tl
  have h2 := F.r1
  have h3 := F.r7
  have h4 := F.ql
  unfold ckCode
  rw [if_neg (by omega), if_neg (by rw [F.tv]; simp), if_neg (by omega), if_neg (by omega)]
  exact (evBad_none q []).mpr (by simpa using F.ev)
theorem fine_short {t : List UInt8} {r : Int} {q : List Ev} (F : Fine t r q) : Short q := fun e he => by
  obtain ⟨i, hi⟩ := List.getElem?_of_mem he
  obtain ⟨⟨m0, m1, m2⟩, m3, m4, n1, n2, n3, n4, n5⟩ := evCode_zero (F.ev i e hi) (dayOf_le r)
  have := (isName_gd n1).2.2
  exact ⟨by omega, by omega⟩
theorem bs28 (e : Ev) (w : World) : erun Tryz.prog (Instr.buildSlice 28 1 #[(0, e.v)]) w = some (.slice (some ⟨w.heap.size, 0, none⟩) 1 1, w.alloc (.cells e.cs.toArray 51)) := id (by kernel_rfl)
theorem cs_one (e : Ev) : ∀ u ∈ e.cs, u.oneCell' = true := by
  intro u hu
  simp only [Ev.cs, List.mem_cons, List.not_mem_nil, or_false] at hu
  rcases hu with rfl | rfl | rfl | rfl | rfl <;> rfl
section
variable {W : World} {X : Asn W.heap.size}
theorem ev_bl {w : World} {b : Nat} {e : Ev} (s : Sat W (blkA b 51 e.cs * X) w) : rrun Tryz.prog (Instr.loadAt 51 (.pointer (some ⟨b, 0, none⟩))) w = some e.v := ev_blk s.blk
/-- a list as Parse has it so far -/
abbrev cutS (lb : Nat) (t : List UInt8) (r : Int) (v : Value) (q : List Ev) (X : Asn W.heap.size) : Asn W.heap.size := blkA lb 30 [st t, .int .i64 r, v] * (rowA 51 5 v q.length (q.flatMap Ev.cs) * X)
theorem ev3_ok {w : World} (L : Lay W) {rb lb eb : Nat} {B : Option Addr} {cc : Nat} {e r : Int} {t : List UInt8} {v y6 v11 : Value} {q : List Ev} {ev : Ev} (F : Fine t r (q ++ [ev]))
    (x : Sat W (rdrS rb B cc [] e (blkA eb 51 ev.cs * cutS lb t r v q X)) w) :
    ∃ v' w', ev3 C [.pointer (some ⟨rb, 0, none⟩), .pointer (some ⟨lb, 0, none⟩), .pointer (some ⟨eb, 0, none⟩), y6, v11] w = some (.ret [.nilIface] w') ∧ Sat W (cutS lb t r v' (q ++ [ev]) X) w' := by
  have dn := done_nil x
  have hql := F.ql
  rw [List.length_append, List.length_singleton] at hql
  have x1 : Sat W (cutS lb t r v q (blkA eb 51 ev.cs * X)) w.drew := (x.drew.eq (by unfold rdrS cutS; ac_rfl : _ = (blkA rb 64 [.slice B ([] : List Wd).length cc, .int .i64 e] * rdP B (wcs [])) * cutS lb t r v q (blkA eb 51 ev.cs * X))).right
  have c2 := x1.cell 2 rfl
  have xe : Sat W (blkA eb 51 ev.cs * cutS lb t r v q X) w.drew := x1.eq (by unfold cutS; ac_rfl)
  have le := ev_bl xe
  have b1 := bs28 ev w.drew
  have xr : Sat W (rowA 51 5 v q.length (q.flatMap Ev.cs) * (blkA lb 30 [st t, .int .i64 r, v] * (blkA eb 51 ev.cs * X))) w.drew := x1.eq (by unfold cutS; ac_rfl)
  obtain ⟨v', w2, h2, x2⟩ := xr.push (ty := 28) (P := Tryz.prog) Tryz.underlying28 inf51 zero51 size51 bytes51 rfl (by decide) (news := ev.cs) rfl (cs_one ev) (by simp [maxLen]; omega) (by omega)
  have h2' : erun Tryz.prog (Builtin.append_ #[28, 28] 28 #[v, .slice (some ⟨w.heap.size, 0, none⟩) 1 1]) (w.drew.alloc (.cells ev.cs.toArray 51)) = some (v', w2) := h2
  have c2a : (w.drew.alloc (.cells ev.cs.toArray 51)).cell? ⟨lb, 2, none⟩ = some v := (x1.grown (World.grownBy_alloc w.drew (.cells ev.cs.toArray 51) none)).cell 2 rfl
  have hfm : q.flatMap Ev.cs ++ ev.cs = (q ++ [ev]).flatMap Ev.cs := by simp
  rw [hfm, show q.length + 1 = (q ++ [ev]).length by simp] at x2
  obtain ⟨A', c', rfl, hc', _⟩ := own_form x2.row
  have x3 : Sat W (blkA lb 30 [st t, .int .i64 r, v] * (rowA 51 5 (.slice A' (q ++ [ev]).length c') (q ++ [ev]).length ((q ++ [ev]).flatMap Ev.cs) * (blkA eb 51 ev.cs * X))) w2 := x2.eq (by ac_rfl)
  have h3 := x3.blk.store (P := Tryz.prog) (t := 28) (j := 2) (v := .slice A' (q ++ [ev]).length c') inf28 size28 (by simp) rfl rfl
  have x4 := x3.store 2 (.slice A' (q ++ [ev]).length c') (cs' := [st t, .int .i64 r, .slice A' (q ++ [ev]).length c']) rfl
  obtain ⟨w4, hw4⟩ : ∃ w4, w4 = w2.setCell ⟨lb, 2, none⟩ (.slice A' (q ++ [ev]).length c') := ⟨_, rfl⟩
  rw [← hw4] at h3 x4
  have l4 := ld_cut x4
  have x4r : Sat W (rowA 51 5 (.slice A' (q ++ [ev]).length c') (q ++ [ev]).length ((q ++ [ev]).flatMap Ev.cs) * (blkA lb 30 [st t, .int .i64 r, .slice A' (q ++ [ev]).length c'] * (blkA eb 51 ev.cs * X))) w4 := x4.eq (by ac_rfl)
  have L4 := L.grown (grown_of x4)
  obtain ⟨u, w5, h5, g5, e5⟩ := Check_ok L4.u L4.t t r (Rd.own x4r.row) hc' (fine_short F)
  rw [fine_ck F] at e5
  have e5' : u = .nilIface := e5
  subst e5'
  have isn := is_nil 194 w5
  have mk : prun Tryz.prog (Instr.makeInterface 35 (.int .i64 194)) = some (.iface 35 (.int .i64 194)) := id (by kernel_rfl)
  have x5 : Sat W (blkA eb 51 ev.cs * cutS lb t r (.slice A' (q ++ [ev]).length c') (q ++ [ev]) X) w5 := (x4.grown g5).eq (by unfold cutS; ac_rfl)
  refine ⟨_, w5, ?_, x5.right⟩
  simp only [cutV] at h5
  have c2' : w.cell? ⟨lb, 2, none⟩ = some v := c2
  obtain ⟨N, hN⟩ : ∃ N, N = (q ++ [ev]).length := ⟨_, rfl⟩
  rw [← hN] at h2' h3 l4 h5
  simp [ev3, dn, nilV, addL, c2', le, b1, h2', c2a, h3, l4, h5, isn, mk, chkThen]
end
end Go.Sh.YtkghbcadnbojgaaGreatDoor

namespace Go.Sh.YtkghbcadnbojgaaGreatDoor
open Go Go.Proofs Go.RowKit Go.Lib Go.Sh.Ev
set_option linter.unusedVariables false
set_option linter.unusedSimpArgs false
set_option maxRecDepth 100000
noncomputable def ln3 (call : CallF) (vs_2 : List Value) (W3 : World) : Option Res :=
    let l1_2 := nth vs_2 0
    let out3_2 := nth vs_2 1
    let k4_2 := nth vs_2 2
    let row6_1 := nth vs_2 3
    (erun Tryz.prog (Instr.buildSlice 45 1 #[(0, row6_1)]) W3).bind fun r73 =>
    (erun Tryz.prog (Builtin.append_ #[45, 45] 45 #[out3_2, r73.1]) r73.2).bind fun r74 =>
    some (Res.norm [l1_2, r74.1, k4_2] r74.2)
noncomputable def ln2 (call : CallF) (vs_1 : List Value) (W2 : World) : Option Res :=
    let l1_1 := nth vs_1 0
    let out3_1 := nth vs_1 1
    let k4_1 := nth vs_1 2
    let x5 := nth vs_1 3
    let row6 := nth vs_1 4
    (prun Tryz.prog (Instr.fieldAt 30 l1_1 1)).bind fun v40 =>
    (rrun Tryz.prog (Instr.loadAt 27 v40) W2).bind fun v41 =>
    (prun Tryz.prog (Instr.fieldAt 51 x5 1)).bind fun v42 =>
    (rrun Tryz.prog (Instr.loadAt 3 v42) W2).bind fun v43 =>
    (call 45 #[v41, v43] W2).bind fun r44 =>
    (prun Tryz.prog (Instr.extract r44.1 0)).bind fun v45 =>
    (prun Tryz.prog (Instr.extract r44.1 1)).bind fun v46 =>
    (prun Tryz.prog (Instr.fieldAt 30 l1_1 1)).bind fun v48 =>
    (rrun Tryz.prog (Instr.loadAt 27 v48) r44.2).bind fun v49 =>
    (prun Tryz.prog (Instr.fieldAt 51 x5 2)).bind fun v50 =>
    (rrun Tryz.prog (Instr.loadAt 3 v50) r44.2).bind fun v51 =>
    (call 45 #[v49, v51] r44.2).bind fun r52 =>
    (prun Tryz.prog (Instr.extract r52.1 0)).bind fun v53 =>
    (prun Tryz.prog (Instr.extract r52.1 1)).bind fun v54 =>
    (prun Tryz.prog (Instr.fieldAt 51 x5 0)).bind fun v56 =>
    (rrun Tryz.prog (Instr.loadAt 9 v56) r52.2).bind fun v57 =>
    (erun Tryz.prog (Instr.buildSlice 91 3 #[(0, v57), (1, v45), (2, v53)]) r52.2).bind fun r60 =>
    (erun Tryz.prog (Builtin.append_ #[91, 91] 91 #[row6, r60.1]) r60.2).bind fun r61 =>
    (prun Tryz.prog (Instr.fieldAt 51 x5 4)).bind fun v62 =>
    (rrun Tryz.prog (Instr.loadAt 9 v62) r61.2).bind fun v63 =>
    (prun Tryz.prog (do eqGuard .neq 9 (Operand.tmp 63) (Operand.const (Value.string { data := #[] })) v63 (Value.string { data := #[] }); binOp .neq 9 v63 (Value.string { data := #[] }))).bind fun v64 =>
    (asB v64).bind fun c64 =>
    (if c64 then
      (prun Tryz.prog (Instr.fieldAt 51 x5 4)).bind fun v66 =>
      (rrun Tryz.prog (Instr.loadAt 9 v66) r61.2).bind fun v67 =>
      (call 43 #[v67] r61.2).bind fun r68 =>
      (erun Tryz.prog (Instr.buildSlice 91 1 #[(0, r68.1)]) r68.2).bind fun r69 =>
      (erun Tryz.prog (Builtin.append_ #[91, 91] 91 #[r61.1, r69.1]) r69.2).bind fun r70 =>
      some (Res.norm [l1_1, out3_1, k4_1, r70.1] r70.2)
     else
      some (Res.norm [l1_1, out3_1, k4_1, r61.1] r61.2)).bind fun (r : Res) => r.cont (ln3 call)
theorem f17.l0.parts (call : CallF) (vs : List Value) (W1 : World) : f17.l0 call vs W1 =
  let l1 := nth vs 0
  let out3 := nth vs 1
  let k4 := nth vs 2
  (prun Tryz.prog (Instr.fieldAt 30 l1 2)).bind fun v20 =>
  (rrun Tryz.prog (Instr.loadAt 28 v20) W1).bind fun v21 =>
  (prun Tryz.prog (Builtin.len_ #[28] 3 #[v21])).bind fun v22 =>
  (bin .lss k4 v22).bind fun v23 =>
  (asB v23).bind fun c23 =>
  if c23 then
    ((prun Tryz.prog (Instr.fieldAt 30 l1 2)).bind fun v26 =>
    (rrun Tryz.prog (Instr.loadAt 28 v26) W1).bind fun v27 =>
    (prun Tryz.prog (Instr.indexAt 28 v27 k4)).bind fun v29 =>
    (rrun Tryz.prog (Instr.loadAt 51 v29) W1).bind fun v30 =>
    (erun Tryz.prog (Instr.alloc 51 true (.tuple #[])) W1).bind fun r5 =>
    (erun Tryz.prog (Instr.storeAt 51 r5.1 v30) r5.2).bind fun r =>
    (erun Tryz.prog (Instr.buildSlice 91 1 #[(0, (Value.string { data := #[99, 117, 116] }))]) r.2).bind fun r31 =>
    (prun Tryz.prog (Instr.fieldAt 51 r5.1 3)).bind fun v32 =>
    (rrun Tryz.prog (Instr.loadAt 3 v32) r31.2).bind fun v33 =>
    (bin .gtr v33 (Value.int IntKind.i64 0)).bind fun v34 =>
    (asB v34).bind fun c34 =>
    (if c34 then
      (prun Tryz.prog (Instr.fieldAt 51 r5.1 3)).bind fun v35 =>
      (rrun Tryz.prog (Instr.loadAt 3 v35) r31.2).bind fun v36 =>
      (call 44 #[v36] r31.2).bind fun r37 =>
      (erun Tryz.prog (Instr.buildSlice 91 2 #[(0, (Value.string { data := #[102, 97, 100, 101] })), (1, r37.1)]) r37.2).bind fun r38 =>
      some (Res.norm [l1, out3, k4, r5.1, r38.1] r38.2)
     else
      some (Res.norm [l1, out3, k4, r5.1, r31.1] r31.2)).bind fun (r : Res) => r.cont (ln2 call)).bind fun (r : Res) => (r.unblock 1).cont fun vs_3 W4 =>
    let l1_3 := nth vs_3 0
    let out3_3 := nth vs_3 1
    let k4_3 := nth vs_3 2
    (bin .add k4_3 (Value.int IntKind.i64 1)).bind fun v25 =>
    some (Res.norm [l1_3, out3_3, v25] W4)
  else
  some (Res.exit 0 [out3] W1) := rfl
def sv (l : List (List UInt8)) : List Value := l.map fun s => st s
theorem sv_len (l : List (List UInt8)) : (sv l).length = l.length := by simp [sv]
theorem sv_app (l m : List (List UInt8)) : sv (l ++ m) = sv l ++ sv m := by simp [sv]
theorem sv_one (l : List (List UInt8)) : ∀ u ∈ sv l, u.oneCell' = true := by
  intro u hu
  simp only [sv, List.mem_map] at hu
  obtain ⟨b, _, rfl⟩ := hu
  rfl
section
variable {W : World} {X : Asn W.heap.size}
theorem puts_ok {w : World} {v : Value} {l : List (List UInt8)} (x : Sat W (rowA 9 1 v l.length (sv l) * X) w) (news : List (List UInt8)) (hb : l.length + news.length ≤ 1000000) :
    ∃ v' w', erun Tryz.prog (Builtin.append_ #[91, 91] 91 #[v, .slice (some ⟨w.heap.size, 0, none⟩) news.length news.length]) (w.alloc (.cells (sv news).toArray 9)) = some (v', w') ∧ Sat W (rowA 9 1 v' (l ++ news).length (sv (l ++ news)) * X) w' := by
  have x1 := x.alloc_ge (.cells (sv news).toArray 9)
  have r1 : Rd (w.alloc (.cells (sv news).toArray 9)) (some ⟨w.heap.size, 0, none⟩) (sv news) := by
    intro j v hj
    rw [addL, Nat.zero_add, World.cell?_alloc_new]
    simpa using hj
  obtain ⟨v', w', k1, k2, k3, k4⟩ := e_append2 (P := Tryz.prog) (ty := 91) Tryz.underlying91 inf9 zero9 size9 bytes9 rfl (by decide) x1.row (m := news.length) (c := news.length) (news := sv news) (by rw [sv_len]; omega) r1 (fun h => by cases h) (sv_one _) (by simp [maxLen]; omega) (by omega) x1.size
  rw [List.length_append, sv_app]
  exact ⟨v', w', k1, x1.rowStep k3 k2 k4⟩
theorem new_texts {w : World} (x : Sat W X w) (l : List (List UInt8)) (hl : l.length ≤ 1000000) : Sat W (rowA 9 1 (.slice (some ⟨w.heap.size, 0, none⟩) l.length l.length) l.length (sv l) * X) (w.alloc (.cells (sv l).toArray 9)) :=
  x.newRow (World.grownBy_alloc _ _ _) (blk_own (Blk.new w 9 (sv l)) (by rw [sv_len]; omega) (Nat.le_refl _) (by simp [maxLen]; omega))
abbrev Part := Option Addr × Nat × List (List UInt8)
def pv (p : Part) : Value := .slice p.1 p.2.2.length p.2.1
abbrev partA (p : Part) : Asn W.heap.size := rdP p.1 (sv p.2.2)
/-- lines of texts -/
abbrev linesS (v : Value) (parts : List Part) (X : Asn W.heap.size) : Asn W.heap.size := rowA 91 1 v parts.length (parts.map pv) * (all (partA (W := W)) parts * X)
theorem bs45 (B : Option Addr) (n c : Nat) (w : World) : erun Tryz.prog (Instr.buildSlice 45 1 #[(0, .slice B n c)]) w = some (.slice (some ⟨w.heap.size, 0, none⟩) 1 1, w.alloc (.cells #[.slice B n c] 91)) := id (by kernel_rfl)
theorem bs91_1 (a : List UInt8) (w : World) : erun Tryz.prog (Instr.buildSlice 91 1 #[(0, st a)]) w = some (.slice (some ⟨w.heap.size, 0, none⟩) 1 1, w.alloc (.cells #[st a] 9)) := id (by kernel_rfl)
theorem bs91_2 (a b : List UInt8) (w : World) : erun Tryz.prog (Instr.buildSlice 91 2 #[(0, st a), (1, st b)]) w = some (.slice (some ⟨w.heap.size, 0, none⟩) 2 2, w.alloc (.cells #[st a, st b] 9)) := id (by kernel_rfl)
theorem bs91_3 (a b c : List UInt8) (w : World) : erun Tryz.prog (Instr.buildSlice 91 3 #[(0, st a), (1, st b), (2, st c)]) w = some (.slice (some ⟨w.heap.size, 0, none⟩) 3 3, w.alloc (.cells #[st a, st b, st c] 9)) := id (by kernel_rfl)
theorem all_one {α : Type} (f : α → Asn W.heap.size) (a : α) : all f [a] = f a := by
  have : all f [a] = f a * emp := rfl
  rw [this, star_emp]
theorem ln3_ok {w : World} {l1 k : Value} {B : Option Addr} {c : Nat} {row : List (List UInt8)} {v : Value} {parts : List Part} (hp : parts.length ≤ 1000) (x : Sat W (rowA 9 1 (.slice B row.length c) row.length (sv row) * linesS v parts X) w) :
    ∃ v' w', ln3 C [l1, v, k, .slice B row.length c] w = some (.norm [l1, v', k] w') ∧ Sat W (linesS v' (parts ++ [(B, c, row)]) X) w' := by
  have x1 := Sat.reads x
  have x2 : Sat W (rowA 91 1 v parts.length (parts.map pv) * (rdP B (sv row) * (all (partA (W := W)) parts * X))) w := x1.eq (by unfold linesS; ac_rfl)
  have b1 := bs45 B row.length c w
  obtain ⟨v', w', h, x3⟩ := x2.push (ty := 45) (P := Tryz.prog) Tryz.underlying45 inf91 zero91 size91 bytes91 rfl (by decide) (news := [.slice B row.length c]) rfl (by simp [Value.oneCell']) (by simp [maxLen]; omega) (by omega)
  refine ⟨v', w', ?_, x3.eq ?_⟩
  · have h' : erun Tryz.prog (Builtin.append_ #[45, 45] 45 #[v, .slice (some ⟨w.heap.size, 0, none⟩) 1 1]) (w.alloc (.cells #[.slice B row.length c] 91)) = some (v', w') := h
    obtain ⟨N, hN⟩ : ∃ N, N = row.length := ⟨_, rfl⟩
    rw [← hN] at b1 h' ⊢
    simp [ln3, b1, h']
  · have e1 : (parts ++ [(B, c, row)]).map pv = parts.map pv ++ [.slice B row.length c] := by simp [pv]
    have e2 : (parts ++ [(B, c, row)]).length = parts.length + 1 := by simp
    unfold linesS
    rw [e1, e2, all_append, all_one]
    show _ = rowA 91 1 v' (parts.length + 1) (parts.map pv ++ [.slice B row.length c]) * ((all partA parts * rdP B (sv row)) * X)
    ac_rfl
/-- what Lines says of an event behind its first words -/
def lineR (r : Int) (e : Ev) : List (List UInt8) := [e.s, fname r e.i, fname r e.o] ++ (if e.n = [] then [] else [quo e.n])
theorem ln2_ok {w : World} {lb xb : Nat} {k : Value} {t : List UInt8} {r : Int} {cv : Value} {e : Ev} {B : Option Addr} {c : Nat} {pre : List (List UInt8)} {v : Value} {parts : List Part} (h1 : 1 ≤ r) (h7 : r ≤ 7) (hi : 0 ≤ e.i) (hi' : e.i < dayOf r) (ho : 0 ≤ e.o) (ho' : e.o < dayOf r) (hn : e.n.length ≤ 100) (hpre : pre.length ≤ 10) (hp : parts.length ≤ 1000)
    (x : Sat W (rowA 9 1 (.slice B pre.length c) pre.length (sv pre) * (blkA xb 51 e.cs * (blkA lb 30 [st t, .int .i64 r, cv] * linesS v parts X))) w) :
    ∃ v' p w', ln2 C [.pointer (some ⟨lb, 0, none⟩), v, k, .pointer (some ⟨xb, 0, none⟩), .slice B pre.length c] w = some (.norm [.pointer (some ⟨lb, 0, none⟩), v', k] w') ∧ Sat W (linesS v' (parts ++ [p]) (blkA lb 30 [st t, .int .i64 r, cv] * X)) w' ∧ p.2.2 = pre ++ lineR r e := by
  have xl : Sat W (blkA lb 30 [st t, .int .i64 r, cv] * (rowA 9 1 (.slice B pre.length c) pre.length (sv pre) * (blkA xb 51 e.cs * linesS v parts X))) w := x.eq (by unfold linesS; ac_rfl)
  have xx : Sat W (blkA xb 51 e.cs * (rowA 9 1 (.slice B pre.length c) pre.length (sv pre) * (blkA lb 30 [st t, .int .i64 r, cv] * linesS v parts X))) w := x.eq (by unfold linesS; ac_rfl)
  have c1 : w.cell? ⟨lb, 1, none⟩ = some (.int .i64 r) := xl.cell 1 rfl
  have d1 : w.cell? ⟨xb, 1, none⟩ = some (.int .i64 e.i) := xx.cell 1 rfl
  obtain ⟨w1, k1, g1⟩ := ref_name h1 h7 hi hi' w
  have c2 : w1.cell? ⟨lb, 1, none⟩ = some (.int .i64 r) := (xl.grown g1).cell 1 rfl
  have d2 : w1.cell? ⟨xb, 2, none⟩ = some (.int .i64 e.o) := (xx.grown g1).cell 2 rfl
  obtain ⟨w2, k2, g2⟩ := ref_name h1 h7 ho ho' w1
  have d0 : w2.cell? ⟨xb, 0, none⟩ = some (st e.s) := ((xx.grown g1).grown g2).cell 0 rfl
  have x2 := (x.grown g1).grown g2
  have b3 := bs91_3 e.s (fname r e.i) (fname r e.o) w2
  obtain ⟨v3, w3, k3, x3⟩ := puts_ok x2 [e.s, fname r e.i, fname r e.o] (by simp; omega)
  obtain ⟨B3, c3, rfl, hc3, _⟩ := own_form x3.row
  have x3x : Sat W (blkA xb 51 e.cs * (rowA 9 1 (.slice B3 (pre ++ [e.s, fname r e.i, fname r e.o]).length c3) (pre ++ [e.s, fname r e.i, fname r e.o]).length (sv (pre ++ [e.s, fname r e.i, fname r e.o])) * (blkA lb 30 [st t, .int .i64 r, cv] * linesS v parts X))) w3 := x3.eq (by unfold linesS; ac_rfl)
  have d4 : w3.cell? ⟨xb, 4, none⟩ = some (st e.n) := x3x.cell 4 rfl
  have k3' : erun Tryz.prog (Builtin.append_ #[91, 91] 91 #[.slice B pre.length c, .slice (some ⟨w2.heap.size, 0, none⟩) 3 3]) (w2.alloc (.cells #[st e.s, st (fname r e.i), st (fname r e.o)] 9)) = some (.slice B3 (pre ++ [e.s, fname r e.i, fname r e.o]).length c3, w3) := k3
  have ne := fun a b => str_neq (P := Tryz.prog) (t := 9) a b e.n []
  have ne' : ∀ a b, prun Tryz.prog (do eqGuard .neq 9 a b (st e.n) (.string ⟨#[]⟩); binOp .neq 9 (st e.n) (.string ⟨#[]⟩)) = some (.bool (decide (e.n ≠ []))) := ne
  obtain ⟨R3, hR3⟩ : ∃ R, R = pre ++ [e.s, fname r e.i, fname r e.o] := ⟨_, rfl⟩
  have hR3l : R3.length ≤ 20 := by rw [hR3]; simp; omega
  rw [← hR3] at k3' x3x
  obtain ⟨F1, hF1⟩ : ∃ S, S = fname r e.i := ⟨_, rfl⟩
  obtain ⟨F2, hF2⟩ : ∃ S, S = fname r e.o := ⟨_, rfl⟩
  obtain ⟨S0, hS0⟩ : ∃ S, S = e.s := ⟨_, rfl⟩
  obtain ⟨P0, hP0⟩ : ∃ P, P = pre.length := ⟨_, rfl⟩
  have hR3' : R3 = pre ++ [S0, F1, F2] := by rw [hR3, hS0, hF1, hF2]
  rw [← hF1] at k1
  rw [← hF2] at k2
  rw [← hS0] at d0
  rw [← hS0, ← hF1, ← hF2] at b3 k3'
  rw [← hP0] at k3' ⊢
  by_cases hnn : e.n = []
  · rw [hnn] at d4 ne'
    have d4' : w3.cell? ⟨xb, 4, none⟩ = some (.string ⟨#[]⟩) := d4
    have x4 : Sat W (rowA 9 1 (.slice B3 R3.length c3) R3.length (sv R3) * linesS v parts (blkA lb 30 [st t, .int .i64 r, cv] * X)) w3 := (x3x.right).eq (by unfold linesS; ac_rfl)
    obtain ⟨v', w', h5, x5⟩ := ln3_ok (l1 := .pointer (some ⟨lb, 0, none⟩)) (k := k) hp x4
    refine ⟨v', (B3, c3, R3), w', ?_, x5, ?_⟩
    · obtain ⟨N, hN⟩ : ∃ N, N = R3.length := ⟨_, rfl⟩
      rw [← hN] at k3' h5
      have ne2 : ∀ a b, prun Tryz.prog (do eqGuard .neq 9 a b (.string ⟨#[]⟩) (.string ⟨#[]⟩); binOp .neq 9 (.string ⟨#[]⟩) (.string ⟨#[]⟩)) = some (.bool false) := ne'
      simp [ln2, addL, c1, d1, k1, c2, d2, k2, d0, b3, k3', d4', ne2, h5]
    · show R3 = _
      rw [hR3, lineR, if_pos hnn]
      simp
  · have k4 := ref_quo e.n (by omega) w3
    have b5 := bs91_1 (quo e.n) w3
    have x3r : Sat W (rowA 9 1 (.slice B3 R3.length c3) R3.length (sv R3) * linesS v parts (blkA lb 30 [st t, .int .i64 r, cv] * X)) w3 := (x3x.right).eq (by unfold linesS; ac_rfl)
    obtain ⟨v6, w6, k6, x6⟩ := puts_ok x3r [quo e.n] (by simp; omega)
    obtain ⟨B6, c6, rfl, hc6, _⟩ := own_form x6.row
    have k6' : erun Tryz.prog (Builtin.append_ #[91, 91] 91 #[.slice B3 R3.length c3, .slice (some ⟨w3.heap.size, 0, none⟩) 1 1]) (w3.alloc (.cells #[st (quo e.n)] 9)) = some (.slice B6 (R3 ++ [quo e.n]).length c6, w6) := k6
    obtain ⟨v', w', h7, x7⟩ := ln3_ok (l1 := .pointer (some ⟨lb, 0, none⟩)) (k := k) hp x6
    refine ⟨v', (B6, c6, R3 ++ [quo e.n]), w', ?_, x7, ?_⟩
    · obtain ⟨N, hN⟩ : ∃ N, N = R3.length := ⟨_, rfl⟩
      obtain ⟨M, hM⟩ : ∃ N, N = (R3 ++ [quo e.n]).length := ⟨_, rfl⟩
      obtain ⟨Q, hQ⟩ : ∃ N, N = quo e.n := ⟨_, rfl⟩
      rw [← hM] at k6' h7
      rw [← hN] at k3' k6'
      rw [← hQ] at k4 b5 k6'
      have hd : decide (e.n ≠ []) = true := by simp [hnn]
      simp only [hd] at ne'
      obtain ⟨NN, hNN⟩ : ∃ N, N = e.n := ⟨_, rfl⟩
      rw [← hNN] at d4 k4
      simp only [← hNN] at ne'
      simp [ln2, addL, c1, d1, k1, c2, d2, k2, d0, b3, k3', d4, ne', k4, b5, k6', h7]
    · show R3 ++ [quo e.n] = _
      rw [hR3, lineR, if_neg hnn]
      simp
end
end Go.Sh.YtkghbcadnbojgaaGreatDoor

namespace Go.Sh.YtkghbcadnbojgaaGreatDoor
open Go Go.Proofs Go.RowKit Go.Lib Go.Sh.Ev
set_option linter.unusedVariables false
set_option linter.unusedSimpArgs false
set_option maxRecDepth 100000
/-- the words of a line as they are written -/
def outs (ks : List Tk) : List (List UInt8) := ks.map Tk.out
theorem outs_ev (r : Int) (e : Ev) : outs (evTk r e) = outs (fadeTk e.f) ++ lineR r e := by
  unfold outs evTk lineR noteTk
  rw [List.map_append, List.map_append]
  split <;> rfl
section
variable {W : World} {X : Asn W.heap.size}
theorem line_round {w : World} (L : Lay W) {lb : Nat} {t : List UInt8} {r : Int} {A0 : Option Addr} {c0 : Nat} {q : List Ev} (F : Fine t r q) (hr : Rd W A0 (q.flatMap Ev.cs)) {v : Value} {parts : List Part} {k : Nat} (hk : k < q.length) (hp : parts.length ≤ 1000) (x : Sat W (linesS v parts (blkA lb 30 [st t, .int .i64 r, .slice A0 q.length c0] * X)) w) :
    ∃ v' p w', f17.l0 C [.pointer (some ⟨lb, 0, none⟩), v, .int .i64 (k : Int)] w = some (.norm [.pointer (some ⟨lb, 0, none⟩), v', .int .i64 ((k + 1 : Nat) : Int)] w') ∧ Sat W (linesS v' (parts ++ [p]) (blkA lb 30 [st t, .int .i64 r, .slice A0 q.length c0] * X)) w' ∧ p.2.2 = outs (evTk r q[k]) := by
  obtain ⟨e, he⟩ : ∃ e, e = q[k] := ⟨_, rfl⟩
  have hqe : q[k]? = some e := by rw [he]; exact List.getElem?_eq_getElem hk
  rw [← he]
  obtain ⟨⟨m0, m1, m2⟩, m3, m4, n1, n2, n3, n4, n5⟩ := evCode_zero (F.ev k e hqe) (dayOf_le r)
  have hql := F.ql
  have xl : Sat W (blkA lb 30 [st t, .int .i64 r, .slice A0 q.length c0] * linesS v parts X) w := x.eq (by unfold linesS; ac_rfl)
  have c2 : w.cell? ⟨lb, 2, none⟩ = some (.slice A0 q.length c0) := xl.cell 2 rfl
  have hlt : (k : Int) < (q.length : Int) := by omega
  have e1 : IntKind.i64.wrap ((k : Int) + 1) = ((k + 1 : Nat) : Int) := (wrap_i64 (by omega) (by omega)).trans (by omega)
  cases A0 with
  | none =>
    have h0 : q.flatMap Ev.cs = [] := hr
    have := ev_get hqe (show 0 < 5 by omega)
    rw [h0] at this
    simp [Ev.cs] at this
  | some a =>
    have i1 := ix28 a q.length c0 .i64 (k : Int) (by omega) hlt
    simp only [Int.toNat_natCast] at i1
    have l1 := ev_ld (hr.grown (grown_of x)) hqe
    have x1 := x.newBlk 51 [st [], .int .i64 0, .int .i64 0, .int .i64 0, st []]
    have a1 := alloc51 w
    obtain ⟨w1, hw1⟩ : ∃ w1, w1 = w.alloc (.cells #[st [], .int .i64 0, .int .i64 0, .int .i64 0, st []] 51) := ⟨_, rfl⟩
    have x1 : Sat W (blkA w.heap.size 51 [st [], .int .i64 0, .int .i64 0, .int .i64 0, st []] * linesS v parts (blkA lb 30 [st t, .int .i64 r, .slice (some a) q.length c0] * X)) w1 := hw1 ▸ x1
    rw [← hw1] at a1
    obtain ⟨w2, h2, x2⟩ := put_blk x1 inf51 (v := e.v) (cs' := e.cs) rfl (by rw [size51]; rfl) rfl (cs_one e)
    have b3 := bs91_1 tCut w2
    have x3 := new_texts x2 [tCut] (by simp)
    obtain ⟨w3, hw3⟩ : ∃ w3, w3 = w2.alloc (.cells #[st tCut] 9) := ⟨_, rfl⟩
    have x3 : Sat W (rowA 9 1 (.slice (some ⟨w2.heap.size, 0, none⟩) [tCut].length 1) [tCut].length (sv [tCut]) * (blkA w.heap.size 51 e.cs * linesS v parts (blkA lb 30 [st t, .int .i64 r, .slice (some a) q.length c0] * X))) w3 := hw3 ▸ x3
    rw [← hw3] at b3
    have d3 : w3.cell? ⟨w.heap.size, 3, none⟩ = some (.int .i64 e.f) := (x3.right).cell 3 rfl
    have b3' : erun Tryz.prog (Instr.buildSlice 91 1 #[(0, .string ⟨#[99, 117, 116]⟩)]) w2 = some (.slice (some ⟨w2.heap.size, 0, none⟩) 1 1, w3) := b3
    by_cases hf : 0 < e.f
    · obtain ⟨z, hz⟩ : ∃ z : Nat, (z : Int) = e.f := ⟨e.f.toNat, by omega⟩
      obtain ⟨w4, k4, g4⟩ := ref_digits_ok (w := w3) (globOk_grown L.g (grown_of x3)) (k := z) (by omega) (by omega)
      have b5 := bs91_2 tFade (dec z) w4
      have x4 := (x3.right).grown g4
      have x5 := new_texts x4 [tFade, dec z] (by simp)
      obtain ⟨w5, hw5⟩ : ∃ w5, w5 = w4.alloc (.cells #[st tFade, st (dec z)] 9) := ⟨_, rfl⟩
      have x5 : Sat W (rowA 9 1 (.slice (some ⟨w4.heap.size, 0, none⟩) [tFade, dec z].length 2) [tFade, dec z].length (sv [tFade, dec z]) * (blkA w.heap.size 51 e.cs * linesS v parts (blkA lb 30 [st t, .int .i64 r, .slice (some a) q.length c0] * X))) w5 := hw5 ▸ x5
      have b5' : erun Tryz.prog (Instr.buildSlice 91 2 #[(0, .string ⟨#[102, 97, 100, 101]⟩), (1, st (dec z))]) w4 = some (.slice (some ⟨w4.heap.size, 0, none⟩) 2 2, w5) := hw5 ▸ b5
      obtain ⟨v', p, w', k6, x6, hp6⟩ := ln2_ok (k := .int .i64 (k : Int)) (pre := [tFade, dec z]) F.r1 F.r7 m0 (by omega) (by omega) n5 n3 (by simp) hp (x5.eq (by unfold linesS; ac_rfl))
      have k6' : ln2 C [.pointer (some ⟨lb, 0, none⟩), v, .int .i64 (k : Int), .pointer (some ⟨w.heap.size, 0, none⟩), .slice (some ⟨w4.heap.size, 0, none⟩) 2 2] w5 = some (.norm [.pointer (some ⟨lb, 0, none⟩), v', .int .i64 (k : Int)] w') := k6
      refine ⟨v', p, w', ?_, x6, ?_⟩
      · rw [f17.l0.parts]
        rw [hz] at k4
        obtain ⟨DZ, hDZ⟩ : ∃ D, D = dec z := ⟨_, rfl⟩
        rw [← hDZ] at k4 b5'
        obtain ⟨K1, hK1⟩ : ∃ K : Int, K = ((k + 1 : Nat) : Int) := ⟨_, rfl⟩
        rw [← hK1] at e1 ⊢
        simp [addL, c2, hlt, i1, l1, a1, h2, b3', d3, hf, k4, b5', k6', e1]
      · rw [hp6, outs_ev, fadeTk, if_pos hf, show e.f.toNat = z by omega]
        rfl
    · obtain ⟨v', p, w', k6, x6, hp6⟩ := ln2_ok (k := .int .i64 (k : Int)) (pre := [tCut]) F.r1 F.r7 m0 (by omega) (by omega) n5 n3 (by simp) hp (x3.eq (by unfold linesS; ac_rfl))
      have k6' : ln2 C [.pointer (some ⟨lb, 0, none⟩), v, .int .i64 (k : Int), .pointer (some ⟨w.heap.size, 0, none⟩), .slice (some ⟨w2.heap.size, 0, none⟩) 1 1] w3 = some (.norm [.pointer (some ⟨lb, 0, none⟩), v', .int .i64 (k : Int)] w') := k6
      refine ⟨v', p, w', ?_, x6, ?_⟩
      · rw [f17.l0.parts]
        obtain ⟨K1, hK1⟩ : ∃ K : Int, K = ((k + 1 : Nat) : Int) := ⟨_, rfl⟩
        rw [← hK1] at e1 ⊢
        simp [addL, c2, hlt, i1, l1, a1, h2, b3', d3, hf, k6', e1]
      · rw [hp6, outs_ev, fadeTk, if_neg hf]
        rfl
end
/-- lines of texts, read at an address -/
def LinesAt (w : World) (A : Option Addr) (ls : List (List (List UInt8))) : Prop := ∃ parts : List Part, Rd w A (parts.map pv) ∧ parts.map (·.2.2) = ls ∧ ∀ p ∈ parts, Rd w p.1 (sv p.2.2)
theorem LinesAt.grown {w w' : World} {A : Option Addr} {ls : List (List (List UInt8))} (h : LinesAt w A ls) (g : w.grownBy w' none) : LinesAt w' A ls := by
  obtain ⟨parts, h1, h2, h3⟩ := h
  exact ⟨parts, h1.grown g, h2, fun p hp => (h3 p hp).grown g⟩
theorem lines_ok {w : World} (L : Lay w) {t : List UInt8} {r : Int} {A0 : Option Addr} {c0 : Nat} {q : List Ev} (F : Fine t r q) (hr : Rd w A0 (q.flatMap Ev.cs)) : ∃ A c w', C 17 #[cutV t r A0 q.length c0] w = some (.slice A (q.length + 1) c, w') ∧ w.grownBy w' none ∧ LinesAt w' A ((cutTk t r q).map outs) := by
  have hql := F.ql
  have s0 : Sat w emp w := ⟨Grew.refl _ _, ⟨fun _ => False, rfl⟩⟩
  have x1 := s0.newBlk 30 [st t, .int .i64 r, .slice A0 q.length c0]
  obtain ⟨w1, hw1⟩ : ∃ w1, w1 = w.alloc (.cells #[st t, .int .i64 r, .slice A0 q.length c0] 30) := ⟨_, rfl⟩
  have x1 : Sat w (blkA w.heap.size 30 [st t, .int .i64 r, .slice A0 q.length c0] * emp) w1 := hw1 ▸ x1
  have bx : erun Tryz.prog (Instr.box 30 (.agg #[st t, .int .i64 r, .slice A0 q.length c0])) w = some (.pointer (some ⟨w.heap.size, 0, none⟩), w1) := by rw [hw1]; rfl
  have c1 : w1.cell? ⟨w.heap.size, 1, none⟩ = some (.int .i64 r) := x1.cell 1 rfl
  have c0' : w1.cell? ⟨w.heap.size, 0, none⟩ = some (st t) := x1.cell 0 rfl
  have k2 := ref_rname F.r1 F.r7 w1.drew
  have k3 := ref_quo t (by have := F.tl; omega) w1.drew
  have b4 := bs91_3 tList (rname r) (quo t) w1.drew
  have x4 := new_texts x1.drew [tList, rname r, quo t] (by simp)
  obtain ⟨w4, hw4⟩ : ∃ w4, w4 = w1.drew.alloc (.cells #[st tList, st (rname r), st (quo t)] 9) := ⟨_, rfl⟩
  have x4 : Sat w (rowA 9 1 (.slice (some ⟨w1.heap.size, 0, none⟩) 3 3) 3 (sv [tList, rname r, quo t]) * (blkA w.heap.size 30 [st t, .int .i64 r, .slice A0 q.length c0] * emp)) w4 := hw4 ▸ x4
  have b4' : erun Tryz.prog (Instr.buildSlice 91 3 #[(0, .string ⟨#[108, 105, 115, 116]⟩), (1, st (rname r)), (2, st (quo t))]) w1.drew = some (.slice (some ⟨w1.heap.size, 0, none⟩) 3 3, w4) := hw4 ▸ b4
  have b5 := bs45 (some ⟨w1.heap.size, 0, none⟩) 3 3 w4
  have x5 := (Sat.reads x4).newRow (World.grownBy_alloc w4 (.cells #[.slice (some ⟨w1.heap.size, 0, none⟩) 3 3] 91) none) (blk_own (size := 1) (n := 1) (Blk.new w4 91 [.slice (some ⟨w1.heap.size, 0, none⟩) 3 3]) rfl (Nat.le_refl _) (by simp [maxLen]))
  obtain ⟨w5, hw5⟩ : ∃ w5, w5 = w4.alloc (.cells #[.slice (some ⟨w1.heap.size, 0, none⟩) 3 3] 91) := ⟨_, rfl⟩
  rw [← hw5] at b5 x5
  obtain ⟨p0, hp0⟩ : ∃ p0 : Part, p0 = (some ⟨w1.heap.size, 0, none⟩, 3, [tList, rname r, quo t]) := ⟨_, rfl⟩
  have x6 : Sat w (linesS (.slice (some ⟨w4.heap.size, 0, none⟩) 1 1) [p0] (blkA w.heap.size 30 [st t, .int .i64 r, .slice A0 q.length c0] * emp)) w5 := x5.eq (by unfold linesS; rw [all_one, hp0]; rfl)
  have key := iter_down (f := f17.l0 C) (fun d ws w2 => ∃ (k : Nat) (v : Value) (parts : List Part), ws = [.pointer (some ⟨w.heap.size, 0, none⟩), v, .int .i64 (k : Int)] ∧ k + d = q.length ∧ parts.length = k + 1 ∧ parts.map (·.2.2) = ((cutTk t r q).map outs).take (k + 1) ∧ Sat w (linesS v parts (blkA w.heap.size 30 [st t, .int .i64 r, .slice A0 q.length c0] * emp)) w2)
    (fun res => ∃ (v : Value) (parts : List Part) (w2 : World), res = .exit 0 [v] w2 ∧ parts.length = q.length + 1 ∧ parts.map (·.2.2) = (cutTk t r q).map outs ∧ Sat w (linesS v parts (blkA w.heap.size 30 [st t, .int .i64 r, .slice A0 q.length c0] * emp)) w2) (by
      rintro d ws w2 ⟨k, v, parts, rfl, hk, hpl, hpm, y⟩
      cases d with
      | zero =>
        obtain rfl : k = q.length := by omega
        have yl : Sat w (blkA w.heap.size 30 [st t, .int .i64 r, .slice A0 q.length c0] * linesS v parts emp) w2 := y.eq (by unfold linesS; ac_rfl)
        have c2 : w2.cell? ⟨w.heap.size, 2, none⟩ = some (.slice A0 q.length c0) := yl.cell 2 rfl
        have hlen : ((cutTk t r q).map outs).length = q.length + 1 := by simp [cutTk]
        rw [List.take_of_length_le (by omega)] at hpm
        exact .inr ⟨.exit 0 [v] w2, by simp [f17.l0, addL, c2], ⟨v, parts, w2, rfl, hpl, hpm, y⟩, by simp⟩
      | succ d =>
        have hkq : k < q.length := by omega
        obtain ⟨v', p, w3, h3, x3, hp3⟩ := line_round L F hr hkq (by omega) y
        refine .inl ⟨d, _, w3, by omega, h3, ⟨k + 1, v', parts ++ [p], rfl, by omega, by simp [hpl], ?_, x3⟩⟩
        have hg : ((cutTk t r q).map outs)[k + 1]? = some (outs (evTk r q[k])) := by
          rw [cutTk, List.map_cons, List.getElem?_cons_succ, List.getElem?_map, List.getElem?_map, List.getElem?_eq_getElem hkq]
          rfl
        rw [List.map_append, hpm, List.take_add_one (i := k + 1), hg]
        simp [hp3]) q.length [.pointer (some ⟨w.heap.size, 0, none⟩), .slice (some ⟨w4.heap.size, 0, none⟩) 1 1, .int .i64 0] w5 ⟨0, _, [p0], rfl, by omega, rfl, by rw [hp0]; simp [cutTk, listTk, outs, Tk.out], x6⟩
  obtain ⟨res, h7, v, parts, w7, rfl, hpl, hpm, x7⟩ := key
  obtain ⟨A, c, rfl, hc, _⟩ := own_form x7.row
  refine ⟨A, c, w7, f17.run rfl ?_, grown_of x7, parts, Rd.own x7.row, hpm, fun p hp => ?_⟩
  · obtain ⟨RN, hRN⟩ : ∃ N, N = rname r := ⟨_, rfl⟩
    obtain ⟨QT, hQT⟩ : ∃ N, N = quo t := ⟨_, rfl⟩
    rw [← hRN] at k2 b4'
    rw [← hQT] at k3 b4'
    have h7' : iter (f17.l0 C) [.pointer (some ⟨w.heap.size, 0, none⟩), .slice (some ⟨w4.heap.size, 0, none⟩) 1 1, .int .i64 0] w5 = some (.exit 0 [.slice A (q.length + 1) c] w7) := by rw [← hpl]; exact h7
    simp [f17, cutV, bx, addL, c1, k2, c0', k3, b4', b5, h7', chkThen]
  · obtain ⟨i, hi⟩ := List.getElem?_of_mem hp
    have x8 : Sat w (all (partA (W := w)) parts * (rowA 91 1 (.slice A parts.length c) parts.length (parts.map pv) * (blkA w.heap.size 30 [st t, .int .i64 r, .slice A0 q.length c0] * emp))) w7 := x7.eq (by unfold linesS; ac_rfl)
    rw [all_get _ hi] at x8
    exact Sat.rd (x8.eq (star_assoc _ _ _))
end Go.Sh.YtkghbcadnbojgaaGreatDoor

namespace Go.Sh.YtkghbcadnbojgaaGreatDoor
open Go Go.Proofs Go.RowKit Go.Lib Go.Sh.Ev
set_option linter.unusedVariables false
set_option linter.unusedSimpArgs false
set_option maxRecDepth 100000
/-- what filled reads -/
structure Fill (w : World) (A : Option Addr) (c : Nat) (kss : List (List Tk)) (Af : Option Addr) (cf : Nat) (zs : List Int) (b1 b2 b3 b4 : Nat) : Prop where
  lines : LinesAt w A (kss.map outs)
  fill : Rd w Af (zs.map (Value.int .i64))
  wf : ∀ z ∈ zs, -9223372036854775808 ≤ z ∧ z ≤ 9223372036854775807
  zl : zs.length ≤ 9223372036854775807
  blank : Blk w b1 9 (sv blankS)
  free : Blk w b2 9 (sv freeS)
  none : Blk w b3 9 (sv noneS)
  ends : Blk w b4 9 (sv endS)
theorem Fill.drew {w : World} {A : Option Addr} {c : Nat} {kss : List (List Tk)} {Af : Option Addr} {cf : Nat} {zs : List Int} {b1 b2 b3 b4 : Nat} (h : Fill w A c kss Af cf zs b1 b2 b3 b4) : Fill w.drew A c kss Af cf zs b1 b2 b3 b4 :=
  ⟨h.lines.grown (drew_grown w), h.fill.grown (drew_grown w), h.wf, h.zl, h.blank.grown (drew_grown w) (by simp), h.free.grown (drew_grown w) (by simp), h.none.grown (drew_grown w) (by simp), h.ends.grown (drew_grown w) (by simp)⟩
section
variable {w : World} {A : Option Addr} {c : Nat} {kss : List (List Tk)} {Af : Option Addr} {cf : Nat} {zs : List Int} {b1 b2 b3 b4 : Nat}
theorem raw_ok (h : Fill w A c kss Af cf zs b1 b2 b3 b4) (n : Nat) (hn : n ≤ 1000000) : ∃ z, C 41 #[.slice Af zs.length cf, .int .i64 (n : Int)] w = some (.int .i64 z, w) ∧ -9223372036854775808 ≤ z ∧ z ≤ 9223372036854775807 := by
  have hzl := h.zl
  by_cases h0 : zs.length = 0
  · refine ⟨0, f41.run rfl ?_, by omega, by omega⟩
    rw [h0]
    simp [f41]
  · have hm : n % zs.length < zs.length := Nat.mod_lt _ (by omega)
    have q := remN n zs.length h0
    cases Af with
    | none =>
      have : zs.map (Value.int .i64) = [] := h.fill
      simp at this
      rw [this] at h0
      simp at h0
    | some a =>
      have i1 := ix42 a zs.length cf .i64 ((n % zs.length : Nat) : Int) (by omega) (by omega)
      simp only [Int.toNat_natCast] at i1
      have l1 : w.cell? (a.add (n % zs.length * 1)) = some (.int .i64 zs[n % zs.length]) := h.fill _ _ (by rw [Nat.mul_one, List.getElem?_map, List.getElem?_eq_getElem hm]; rfl)
      obtain ⟨w1, w2⟩ := h.wf _ (List.getElem_mem hm)
      refine ⟨zs[n % zs.length], f41.run rfl ?_, w1, w2⟩
      obtain ⟨R, hR⟩ : ∃ R : Int, R = ((n % zs.length : Nat) : Int) := ⟨_, rfl⟩
      obtain ⟨ad, had⟩ : ∃ ad, ad = a.add (n % zs.length * 1) := ⟨_, rfl⟩
      obtain ⟨Z, hZ⟩ : ∃ Z, Z = zs[n % zs.length] := ⟨_, rfl⟩
      rw [← hR] at q i1
      rw [← had] at i1 l1
      rw [← hZ] at l1 ⊢
      obtain ⟨N, hN⟩ : ∃ N, N = zs.length := ⟨_, rfl⟩
      rw [← hN] at q i1 h0 ⊢
      have h0' : ¬ (N : Int) = 0 := by omega
      simp [f41, h0, h0', q, i1, l1]
/-- one of some texts, by a raw number -/
theorem choose_ok (h : Fill w A c kss Af cf zs b1 b2 b3 b4) (n : Nat) (hn : n ≤ 1000000) {b : Nat} {S : List (List UInt8)} (hb : Blk w b 9 (sv S)) (m : Nat) (hm : S.length = m) (h0 : 0 < m) (hm' : m ≤ 100) :
    ∃ (z rr : Int) (ad : Addr) (s : List UInt8), C 41 #[.slice Af zs.length cf, .int .i64 (n : Int)] w = some (.int .i64 z, w) ∧ C 19 #[.int .i64 z, .int .i64 (m : Int)] w = some (.int .i64 rr, w) ∧ prun Tryz.prog (Instr.indexAt 91 (.slice (some ⟨b, 0, Option.none⟩) m m) (.int .i64 rr)) = some (.pointer (some ad)) ∧ w.cell? ad = some (st s) ∧ s ∈ S := by
  obtain ⟨z, k1, z1, z2⟩ := raw_ok h n hn
  obtain ⟨rr, k2, r0, r1⟩ := pick_ok z (m : Int) (by omega) (by omega) z1 z2 w
  obtain ⟨j, rfl⟩ : ∃ j : Nat, rr = (j : Int) := ⟨rr.toNat, by omega⟩
  have hj : j < S.length := by omega
  have i1 := ix91 ⟨b, 0, Option.none⟩ m m .i64 (j : Int) (by omega) r1
  simp only [Int.toNat_natCast] at i1
  refine ⟨z, (j : Int), _, S[j], k1, k2, i1, ?_, List.getElem_mem hj⟩
  rw [addL, Nat.zero_add, Nat.mul_one]
  exact hb.cell_eq j (by rw [sv, List.getElem?_map, List.getElem?_eq_getElem hj]; rfl)
/-- the words of a line, read -/
theorem row_at (h : Fill w A c kss Af cf zs b1 b2 b3 b4) {k : Nat} {ks : List Tk} (hk : kss[k]? = some ks) :
    ∃ (a : Addr) (B : Option Addr) (cb : Nat), prun Tryz.prog (Instr.indexAt 45 (.slice A kss.length c) (.int .i64 (k : Int))) = some (.pointer (some a)) ∧ w.cell? a = some (.slice B ks.length cb) ∧
      ∀ i (hi : i < ks.length), ∃ a2, prun Tryz.prog (Instr.indexAt 91 (.slice B ks.length cb) (.int .i64 (i : Int))) = some (.pointer (some a2)) ∧ w.cell? a2 = some (st (ks[i]).out) := by
  obtain ⟨parts, h1, h2, h3⟩ := h.lines
  have hkl : k < kss.length := (List.getElem?_eq_some_iff.mp hk).1
  have hpl : parts.length = kss.length := by have := congrArg List.length h2; simpa using this
  have hpk : k < parts.length := by omega
  have hrow : parts[k].2.2 = outs ks := by
    have := congrArg (fun l => l[k]?) h2
    simp only [List.getElem?_map, List.getElem?_eq_getElem hpk, hk, Option.map_some] at this
    exact Option.some.inj this
  cases A with
  | none =>
    have : parts.map pv = [] := h1
    simp at this
    rw [this] at hpk
    simp at hpk
  | some a =>
    have i1 := ix45 a kss.length c .i64 (k : Int) (by omega) (by omega)
    simp only [Int.toNat_natCast, Nat.mul_one] at i1
    have l1 : w.cell? (a.add k) = some (pv parts[k]) := h1 k _ (by rw [List.getElem?_map, List.getElem?_eq_getElem hpk]; rfl)
    have hrl : parts[k].2.2.length = ks.length := by rw [hrow]; simp [outs]
    unfold pv at l1
    rw [hrl] at l1
    refine ⟨_, _, _, i1, l1, fun i hi => ?_⟩
    have h3k := h3 parts[k] (List.getElem_mem hpk)
    rw [hrow] at h3k
    cases hB : parts[k].1 with
    | none =>
      rw [hB] at h3k
      have : sv (outs ks) = [] := h3k
      simp [sv, outs] at this
      rw [this] at hi
      simp at hi
    | some b =>
      rw [hB] at h3k
      have i2 := ix91 b ks.length parts[k].2.1 .i64 (i : Int) (by omega) (by omega)
      simp only [Int.toNat_natCast, Nat.mul_one] at i2
      refine ⟨_, i2, h3k i _ ?_⟩
      rw [sv, outs, List.map_map, List.getElem?_map, List.getElem?_eq_getElem hi]
      rfl
end
end Go.Sh.YtkghbcadnbojgaaGreatDoor

namespace Go.Sh.YtkghbcadnbojgaaGreatDoor
open Go Go.Proofs Go.RowKit Go.Lib Go.Sh.Ev
set_option linter.unusedVariables false
set_option linter.unusedSimpArgs false
set_option maxRecDepth 100000
theorem lineT_app (l m : List (List UInt8 × Tk)) : lineT (l ++ m) = lineT l ++ lineT m := by simp [lineT]
abbrev sl (b m : Nat) : Value := .slice (some ⟨b, 0, none⟩) m m
section
variable {w : World} {A : Option Addr} {c : Nat} {kss : List (List Tk)} {Af : Option Addr} {cf : Nat} {zs : List Int} {b1 b2 b3 b4 : Nat}
theorem inner_ok (h : Fill w A c kss Af cf zs b1 b2 b3 b4) {k : Nat} {ks : List Tk} (hk : kss[k]? = some ks) (hkl : ks.length ≤ 10) (hout : ∀ x ∈ ks, x.out.length ≤ 300) (S1 : List UInt8) (hS : S1.length ≤ 100000000) (n0 : Nat) (hn : n0 ≤ 900000) :
    ∃ (prs : List (List UInt8 × Tk)) (n : Nat), iter (f16.l0 C) [.slice A kss.length c, .slice Af zs.length cf, sl b1 4, sl b2 4, sl b3 6, sl b4 5, st S1, .int .i64 (n0 : Int), .int .i64 (k : Int), .int .i64 0] w = some (.exit 2 [.slice A kss.length c, .slice Af zs.length cf, sl b1 4, sl b2 4, sl b3 6, sl b4 5, st (S1 ++ lineT prs), .int .i64 (n : Int), .int .i64 (k : Int)] w) ∧
      prs.map (·.2) = ks ∧ (∀ x ∈ prs, ∀ c ∈ x.1, isB c = true) ∧ (∀ x ∈ prs.tail, x.1 ≠ []) ∧ (∀ x, prs.head? = some x → x.1 = []) ∧ n ≤ n0 + 10 ∧ (lineT prs).length ≤ 3100 := by
  obtain ⟨a, B, cb, r1, r2, r3⟩ := row_at h hk
  have key := iter_down (f := f16.l0 C) (fun d ws w1 => ∃ (i n : Nat) (prs : List (List UInt8 × Tk)), ws = [.slice A kss.length c, .slice Af zs.length cf, sl b1 4, sl b2 4, sl b3 6, sl b4 5, st (S1 ++ lineT prs), .int .i64 (n : Int), .int .i64 (k : Int), .int .i64 (i : Int)] ∧ i + d = ks.length ∧ w1 = w ∧
      prs.map (·.2) = ks.take i ∧ (∀ x ∈ prs, ∀ c ∈ x.1, isB c = true) ∧ (∀ x ∈ prs.tail, x.1 ≠ []) ∧ (∀ x, prs.head? = some x → x.1 = []) ∧ n ≤ n0 + i ∧ (lineT prs).length ≤ 310 * i)
    (fun res => ∃ (n : Nat) (prs : List (List UInt8 × Tk)), res = .exit 2 [.slice A kss.length c, .slice Af zs.length cf, sl b1 4, sl b2 4, sl b3 6, sl b4 5, st (S1 ++ lineT prs), .int .i64 (n : Int), .int .i64 (k : Int)] w ∧ prs.map (·.2) = ks ∧ (∀ x ∈ prs, ∀ c ∈ x.1, isB c = true) ∧ (∀ x ∈ prs.tail, x.1 ≠ []) ∧ (∀ x, prs.head? = some x → x.1 = []) ∧ n ≤ n0 + 10 ∧ (lineT prs).length ≤ 3100) (by
      rintro d ws w1 ⟨i, n, prs, rfl, hi, rfl, p1, p2, p3, p4, p5, p6⟩
      cases d with
      | zero =>
        obtain rfl : i = ks.length := by omega
        rw [List.take_length] at p1
        exact .inr ⟨.exit 2 [.slice A kss.length c, .slice Af zs.length cf, sl b1 4, sl b2 4, sl b3 6, sl b4 5, st (S1 ++ lineT prs), .int .i64 (n : Int), .int .i64 (k : Int)] w1, by simp [f16.l0, r1, r2], ⟨n, prs, rfl, p1, p2, p3, p4, by omega, by omega⟩, by simp⟩
      | succ d =>
        have hik : i < ks.length := by omega
        have hlt : (i : Int) < (ks.length : Int) := by omega
        obtain ⟨a2, q1, q2⟩ := r3 i hik
        have ho := hout ks[i] (List.getElem_mem hik)
        have e1 : IntKind.i64.wrap ((i : Int) + 1) = ((i + 1 : Nat) : Int) := (wrap_i64 (by omega) (by omega)).trans (by omega)
        have htk : ks.take (i + 1) = ks.take i ++ [ks[i]] := List.take_succ_eq_append_getElem hik
        obtain ⟨O, hO⟩ : ∃ O, O = (ks[i]).out := ⟨_, rfl⟩
        rw [← hO] at q2 ho
        by_cases h0 : i = 0
        · subst h0
          have hp0 : prs = [] := by simpa using p1
          subst hp0
          have ad := fun x y => str_add (P := Tryz.prog) Tryz.underlying9 x y S1 O (by omega)
          refine .inl ⟨d, _, w1, by omega, ?_, ⟨1, n, [([], ks[0])], rfl, by omega, rfl, by rw [htk]; rfl, by simp, by simp, by simp, by omega, by simp [lineT, ← hO]; omega⟩⟩
          have e2 : S1 ++ lineT [([], ks[0])] = S1 ++ O := by simp [lineT, hO]
          rw [e2]
          have e3 : S1 ++ lineT ([] : List (List UInt8 × Tk)) = S1 := by simp [lineT]
          rw [e3]
          have q1' : prun Tryz.prog (Instr.indexAt 91 (.slice B ks.length cb) (.int .i64 0)) = some (.pointer (some a2)) := q1
          have hlt' : 0 < ks.length := hik
          have e4 : IntKind.i64.wrap 1 = 1 := wrap_i64 (by omega) (by omega)
          simp [f16.l0, r1, r2, hlt', q1', q2, ad, e4]
        · have hi0 : (0 : Int) < (i : Int) := by omega
          have hi0' : 0 < i := by omega
          obtain ⟨z, rr, adr, s, k1, k2, k3, k4, k5⟩ := choose_ok h n (by omega) h.blank 4 rfl (by omega) (by omega)
          obtain ⟨s1, s2, s3⟩ := blank_in k5
          have e2 : IntKind.i64.wrap ((n : Int) + 1) = ((n + 1 : Nat) : Int) := (wrap_i64 (by omega) (by omega)).trans (by omega)
          obtain ⟨S2, hS2⟩ : ∃ S2, S2 = S1 ++ lineT prs := ⟨_, rfl⟩
          have hS2l : S2.length ≤ 200000000 := by rw [hS2, List.length_append]; omega
          have ad1 := fun x y => str_add (P := Tryz.prog) Tryz.underlying9 x y S2 s (by omega)
          have ad2 := fun x y => str_add (P := Tryz.prog) Tryz.underlying9 x y (S2 ++ s) O (by rw [List.length_append]; omega)
          have e3 : S1 ++ lineT (prs ++ [(s, ks[i])]) = S2 ++ s ++ O := by rw [lineT_app, hS2]; simp [lineT, hO]
          have hpl : prs.length = i := by
            have := congrArg List.length p1
            rw [List.length_map, List.length_take] at this
            omega
          have hpne : prs ≠ [] := by intro h; rw [h] at hpl; simp at hpl; omega
          refine .inl ⟨d, _, w1, by omega, ?_, ⟨i + 1, n + 1, prs ++ [(s, ks[i])], rfl, by omega, rfl, by rw [List.map_append, p1, htk]; rfl, ?_, ?_, ?_, by omega, ?_⟩⟩
          · rw [e3, ← hS2]
            obtain ⟨S3, hS3⟩ : ∃ S3, S3 = S2 ++ s := ⟨_, rfl⟩
            simp only [← hS3] at ad1 ad2 ⊢
            obtain ⟨S4, hS4⟩ : ∃ S3', S3' = S3 ++ O := ⟨_, rfl⟩
            simp only [← hS4] at ad2 ⊢
            obtain ⟨I, hI⟩ : ∃ I : Int, I = ((i + 1 : Nat) : Int) := ⟨_, rfl⟩
            obtain ⟨N, hN⟩ : ∃ I : Int, I = ((n + 1 : Nat) : Int) := ⟨_, rfl⟩
            rw [← hI] at e1 ⊢
            rw [← hN] at e2 ⊢
            have k2' : C 19 #[.int .i64 z, .int .i64 4] w1 = some (.int .i64 rr, w1) := k2
            simp [f16.l0, r1, r2, hlt, hik, hi0, hi0', k1, k2', k3, k4, ad1, e2, q1, q2, ad2, e1]
          · intro x hx
            rcases List.mem_append.mp hx with hx | hx
            · exact p2 x hx
            · simp only [List.mem_singleton] at hx
              subst hx
              exact s2
          · intro x hx
            rw [List.tail_append_of_ne_nil hpne] at hx
            rcases List.mem_append.mp hx with hx | hx
            · exact p3 x hx
            · simp only [List.mem_singleton] at hx
              subst hx
              exact s1
          · intro x hx
            cases prs with
            | nil => exact absurd rfl hpne
            | cons y l => exact p4 x hx
          · rw [lineT_app, List.length_append]
            have : (lineT [(s, ks[i])]).length = s.length + O.length := by simp [lineT, hO]
            omega) ks.length [.slice A kss.length c, .slice Af zs.length cf, sl b1 4, sl b2 4, sl b3 6, sl b4 5, st S1, .int .i64 (n0 : Int), .int .i64 (k : Int), .int .i64 0] w ⟨0, n0, [], by simp [lineT], by omega, rfl, by simp, by simp, by simp, by simp, by omega, by simp [lineT]⟩
  obtain ⟨res, h1, n, prs, rfl, h2, h3, h4, h5, h6, h7⟩ := key
  exact ⟨prs, n, h1, h2, h3, h4, h5, h6, h7⟩
theorem outer_ok (h : Fill w A c kss Af cf zs b1 b2 b3 b4) (hkss : kss.length ≤ 1000) {k : Nat} {ks : List Tk} (hk : kss[k]? = some ks) (hkn : ks ≠ []) (hfit : ∀ x ∈ ks, x.Fit) (hkl : ks.length ≤ 10) (hout : ∀ x ∈ ks, x.out.length ≤ 300) (P : List (List UInt8)) (hP : Reads P (kss.take k)) (hS : (txtOf P).length ≤ 90000000) (n : Nat) (hn : n ≤ 800000) :
    ∃ (P' : List (List UInt8)) (n' : Nat), f16.l1 C [.slice A kss.length c, .slice Af zs.length cf, sl b1 4, sl b2 4, sl b3 6, sl b4 5, st (txtOf P), .int .i64 (n : Int), .int .i64 (k : Int)] w = some (.norm [.slice A kss.length c, .slice Af zs.length cf, sl b1 4, sl b2 4, sl b3 6, sl b4 5, st (txtOf P'), .int .i64 (n' : Int), .int .i64 ((k + 1 : Nat) : Int)] w.drew) ∧ Reads P' (kss.take (k + 1)) ∧ (txtOf P').length ≤ (txtOf P).length + 4000 ∧ n' ≤ n + 20 := by
  have hkl2 : k < kss.length := (List.getElem?_eq_some_iff.mp hk).1
  have hlt : (k : Int) < (kss.length : Int) := by omega
  have hd := h.drew
  obtain ⟨z1, rr1, ad1, s1, k1, k2, k3, k4, k5⟩ := choose_ok hd n (by omega) hd.none 6 rfl (by omega) (by omega)
  obtain ⟨⟨P1, rfl, hP1⟩, l1⟩ := none_in k5
  obtain ⟨z2, rr2, ad2, s2, j1, j2, j3, j4, j5⟩ := choose_ok hd (n + 1) (by omega) hd.free 4 rfl (by omega) (by omega)
  obtain ⟨m1, m2⟩ := free_in j5
  have a1 := fun x y => str_add (P := Tryz.prog) Tryz.underlying9 x y (txtOf P) (txtOf P1) (by omega)
  have a2 := fun x y => str_add (P := Tryz.prog) Tryz.underlying9 x y (txtOf P ++ txtOf P1) s2 (by rw [List.length_append]; omega)
  obtain ⟨S1, hS1⟩ : ∃ S1, S1 = txtOf P ++ txtOf P1 ++ s2 := ⟨_, rfl⟩
  have hS1l : S1.length ≤ (txtOf P).length + 20 := by rw [hS1, List.length_append, List.length_append]; omega
  obtain ⟨prs, n2, t1, t2, t3, t4, t5, t6, t7⟩ := inner_ok hd hk hkl hout S1 (by omega) (n + 2) (by omega)
  obtain ⟨z3, rr3, ad3, s3, g1, g2, g3, g4, g5⟩ := choose_ok hd n2 (by omega) hd.ends 5 rfl (by omega) (by omega)
  obtain ⟨⟨E, rfl, e1, e2, e3, e4⟩, l3⟩ := end_in g5
  have a3 := fun x y => str_add (P := Tryz.prog) Tryz.underlying9 x y (S1 ++ lineT prs) (E ++ [10]) (by rw [List.length_append]; omega)
  -- the line
  obtain ⟨b0, p0, prest, hprs⟩ : ∃ b0 p0 prest, prs = (b0, p0) :: prest := by
    cases prs with
    | nil => simp at t2; exact absurd t2 hkn
    | cons x l => exact ⟨x.1, x.2, l, rfl⟩
  have hb0 : b0 = [] := t5 (b0, p0) (by rw [hprs]; rfl)
  subst hb0
  obtain ⟨full, hfull⟩ : ∃ full, full = (s2, p0) :: prest := ⟨_, rfl⟩
  have hline : lineT full = s2 ++ lineT prs := by rw [hfull, hprs]; simp [lineT]
  have hmap : full.map (·.2) = ks := by rw [← t2, hfull, hprs]; rfl
  have hR := line_reads (l := full) (E := E) (by rw [hfull]; simp) (fun x hx => by
    refine ⟨?_, ?_⟩
    · refine hfit x.2 ?_
      rw [← hmap]
      exact List.mem_map_of_mem hx
    · rw [hfull] at hx
      rcases List.mem_cons.mp hx with rfl | hx
      · exact m1
      · exact t3 x (by rw [hprs]; simp [hx])) (by rw [hfull]; rw [hprs] at t4; exact t4) e1 e2 e3 e4
  rw [hmap] at hR
  have htxt : S1 ++ lineT prs ++ (E ++ [10]) = txtOf (P ++ P1 ++ [lineT full ++ E]) := by
    rw [txtOf_app, txtOf_app, hS1, hline]
    simp [txtOf]
  refine ⟨P ++ P1 ++ [lineT full ++ E], n2 + 1, ?_, ?_, ?_, by omega⟩
  · rw [← htxt]
    have w1 : IntKind.i64.wrap ((n : Int) + 1) = ((n + 1 : Nat) : Int) := (wrap_i64 (by omega) (by omega)).trans (by omega)
    have w2 : IntKind.i64.wrap ((n : Int) + 2) = ((n + 2 : Nat) : Int) := (wrap_i64 (by omega) (by omega)).trans (by omega)
    have w3 : IntKind.i64.wrap ((n2 : Int) + 1) = ((n2 + 1 : Nat) : Int) := (wrap_i64 (by omega) (by omega)).trans (by omega)
    have w4 : IntKind.i64.wrap ((k : Int) + 1) = ((k + 1 : Nat) : Int) := (wrap_i64 (by omega) (by omega)).trans (by omega)
    have k2' : C 19 #[.int .i64 z1, .int .i64 6] w.drew = some (.int .i64 rr1, w.drew) := k2
    have j2' : C 19 #[.int .i64 z2, .int .i64 4] w.drew = some (.int .i64 rr2, w.drew) := j2
    have g2' : C 19 #[.int .i64 z3, .int .i64 5] w.drew = some (.int .i64 rr3, w.drew) := g2
    simp only [← hS1] at a2
    obtain ⟨T0, hT0⟩ : ∃ T0, T0 = txtOf P := ⟨_, rfl⟩
    obtain ⟨T1, hT1⟩ : ∃ T0, T0 = txtOf P1 := ⟨_, rfl⟩
    simp only [← hT0, ← hT1] at a1 a2 ⊢
    rw [← hT1] at k4
    obtain ⟨T2, hT2⟩ : ∃ T2, T2 = T0 ++ T1 := ⟨_, rfl⟩
    simp only [← hT2] at a1 a2
    obtain ⟨T3, hT3⟩ : ∃ T3, T3 = S1 ++ lineT prs := ⟨_, rfl⟩
    simp only [← hT3] at a3 t1 ⊢
    obtain ⟨EE, hEE⟩ : ∃ EE, EE = E ++ [10] := ⟨_, rfl⟩
    simp only [← hEE] at a3 ⊢
    rw [← hEE] at g4
    obtain ⟨T4, hT4⟩ : ∃ T4, T4 = T3 ++ EE := ⟨_, rfl⟩
    simp only [← hT4] at a3 ⊢
    obtain ⟨N1, hN1⟩ : ∃ I : Int, I = ((n + 1 : Nat) : Int) := ⟨_, rfl⟩
    obtain ⟨N2, hN2⟩ : ∃ I : Int, I = ((n + 2 : Nat) : Int) := ⟨_, rfl⟩
    obtain ⟨N3, hN3⟩ : ∃ I : Int, I = ((n2 + 1 : Nat) : Int) := ⟨_, rfl⟩
    obtain ⟨K1, hK1⟩ : ∃ I : Int, I = ((k + 1 : Nat) : Int) := ⟨_, rfl⟩
    rw [← hN1] at w1 j1
    rw [← hN2] at w2 t1
    rw [← hN3] at w3 ⊢
    rw [← hK1] at w4 ⊢
    have k4' : w.cell? ad1 = some (st T1) := k4
    have j4' : w.cell? ad2 = some (st s2) := j4
    have g4' : w.cell? ad3 = some (st EE) := g4
    simp [f16.l1, hlt, hkl2, k1, k2', k3, k4', a1, w1, j1, j2', j3, j4', a2, w2, t1, g1, g2', g3, g4', a3, w3, w4, chkThen]
  · have := reads_app (reads_app hP hP1) hR
    rw [List.append_nil] at this
    rw [List.take_add_one, hk]
    exact this
  · rw [← htxt]
    simp only [List.length_append] at l3 ⊢
    omega
end
end Go.Sh.YtkghbcadnbojgaaGreatDoor

namespace Go.Sh.YtkghbcadnbojgaaGreatDoor
open Go Go.Proofs Go.RowKit Go.Lib Go.Sh.Ev
set_option linter.unusedVariables false
set_option linter.unusedSimpArgs false
set_option maxRecDepth 100000
section
variable {W : World} {X : Asn W.heap.size}
theorem nextE_ok {y : Wd} {rest : List Wd} {e : Int} {t : Bool} (hb : y.b = false) (ht : y.t = t) (hl : t = true → y.s.length ≤ 100) : nextE t (y :: rest) e = none := by
  rw [nextE, if_neg (by simp [hb, ht]), if_neg]
  intro h
  have := hl h.1
  omega
theorem plainE_ok {y : Wd} {rest : List Wd} {e : Int} {f : List UInt8 → Bool} (hb : y.b = false) (ht : y.t = false) (hf : f y.s = true) : plainE f (y :: rest) e = none := by
  unfold plainE
  rw [nextE_ok hb ht (by simp)]
  simp [hf]
abbrev evB (eb : Nat) (s : List UInt8) (i o f : Int) (n : List UInt8) : Asn W.heap.size := blkA eb 51 [st s, .int .i64 i, .int .i64 o, .int .i64 f, st n]
theorem ev2_ok {w : World} (L : Lay W) {rb lb eb : Nat} {B : Option Addr} {cc : Nat} {e r : Int} {t : List UInt8} {v y6 : Value} {q : List Ev} {ev : Ev} (F : Fine t r (q ++ [ev])) {ws : List Wd} (hk : ws.map Wd.tk = [⟨ev.s, false⟩, ⟨fname r ev.i, false⟩, ⟨fname r ev.o, false⟩] ++ noteTk ev.n) (hb : ∀ y ∈ ws, y.b = false) (hc : ws.length ≤ cc)
    (x : Sat W (rdrS rb B cc ws e (evB eb [] 0 0 ev.f [] * cutS lb t r v q X)) w) :
    ∃ v' w', ev2 C [.pointer (some ⟨rb, 0, none⟩), .pointer (some ⟨lb, 0, none⟩), .pointer (some ⟨eb, 0, none⟩), y6] w = some (.ret [.nilIface] w') ∧ Sat W (cutS lb t r v' (q ++ [ev]) X) w' := by
  have hev : (q ++ [ev])[q.length]? = some ev := by simp
  obtain ⟨⟨m0, m1, m2⟩, m3, m4, n1, n2, n3, n4, n5⟩ := evCode_zero (F.ev _ ev hev) (dayOf_le r)
  simp only [List.cons_append, List.nil_append] at hk
  obtain ⟨y1, ws1, rfl, k1, hk⟩ := List.map_eq_cons_iff.mp hk
  obtain ⟨y2, ws2, rfl, k2, hk⟩ := List.map_eq_cons_iff.mp hk
  obtain ⟨y3, nts, rfl, k3, hk⟩ := List.map_eq_cons_iff.mp hk
  have s1 : y1.s = ev.s := congrArg Tk.s k1
  have t1 : y1.t = false := congrArg Tk.t k1
  have s2 : y2.s = fname r ev.i := congrArg Tk.s k2
  have t2 : y2.t = false := congrArg Tk.t k2
  have s3 : y3.s = fname r ev.o := congrArg Tk.s k3
  have t3 : y3.t = false := congrArg Tk.t k3
  have b1 := hb y1 (by simp)
  have b2 := hb y2 (by simp)
  have b3 := hb y3 (by simp)
  have hnl : nts.length ≤ 1 := by
    have := congrArg List.length hk
    rw [List.length_map] at this
    rw [this]
    unfold noteTk
    split <;> simp
  have hns := (isName_gd n1).2.2
  -- the name
  obtain ⟨B1, cc1, w1, h1, z1, hc1, _⟩ := plain_good holds_name (by rw [s1]; omega) x hc (by simp; omega) (plainE_ok b1 t1 (by rw [s1]; exact n1))
  have z2 := z1.newBlk 114 (wc 0 [] false false)
  have a2 := alloc114 w1
  obtain ⟨w2, hw2⟩ : ∃ w2, w2 = w1.alloc (.cells (wc 0 [] false false).toArray 114) := ⟨_, rfl⟩
  rw [← hw2] at z2 a2
  obtain ⟨w3, h3, z3⟩ := put_word z2 rfl (y1.a : Int) y1.s false false
  have q3 := z3.cell 1 rfl
  have z4 : Sat W (evB eb [] 0 0 ev.f [] * (rdrS rb B1 cc1 (y2 :: y3 :: nts) e (cutS lb t r v q X))) w3 := (z3.right).eq (by unfold rdrS evB cutS; ac_rfl)
  have h4 := z4.blk.store (P := Tryz.prog) (t := 9) (j := 0) (v := st y1.s) inf9 size9 (by simp) rfl rfl
  have z5 := z4.store 0 (st y1.s) (cs' := [st y1.s, .int .i64 0, .int .i64 0, .int .i64 ev.f, st []]) rfl
  obtain ⟨w5, hw5⟩ : ∃ w5, w5 = w3.setCell ⟨eb, 0, none⟩ (st y1.s) := ⟨_, rfl⟩
  rw [← hw5] at h4 z5
  -- the first time
  have z5l : Sat W (blkA lb 30 [st t, .int .i64 r, v] * (rowA 51 5 v q.length (q.flatMap Ev.cs) * (evB eb y1.s 0 0 ev.f [] * (rdrS rb B1 cc1 (y2 :: y3 :: nts) e X)))) w5 := z5.eq (by unfold rdrS evB cutS; ac_rfl)
  have c5 := z5l.cell 1 rfl
  have z6 : Sat W (rdrS rb B1 cc1 (y2 :: y3 :: nts) e (evB eb y1.s 0 0 ev.f [] * cutS lb t r v q X)) w5 := z5.eq (by unfold rdrS evB cutS; ac_rfl)
  obtain ⟨B7, cc7, w7, h7, z7, hc7⟩ := time_good L F.r1 F.r7 m0 (by omega) s2 z6 hc1 (by simp; omega) (nextE_ok b2 t2 (by simp))
  have z8 : Sat W (evB eb y1.s 0 0 ev.f [] * (rdrS rb B7 cc7 (y3 :: nts) e (cutS lb t r v q X))) w7 := z7.eq (by unfold rdrS evB cutS; ac_rfl)
  have h8 := z8.blk.store (P := Tryz.prog) (t := 3) (j := 1) (v := .int .i64 ev.i) inf3 size3 (by simp) rfl rfl
  have z9 := z8.store 1 (.int .i64 ev.i) (cs' := [st y1.s, .int .i64 ev.i, .int .i64 0, .int .i64 ev.f, st []]) rfl
  obtain ⟨w9, hw9⟩ : ∃ w9, w9 = w7.setCell ⟨eb, 1, none⟩ (.int .i64 ev.i) := ⟨_, rfl⟩
  rw [← hw9] at h8 z9
  -- the second
  have zA := z9.newBlk 114 (wc 0 [] false false)
  have aA := alloc114 w9
  obtain ⟨wA, hwA⟩ : ∃ wA, wA = w9.alloc (.cells (wc 0 [] false false).toArray 114) := ⟨_, rfl⟩
  rw [← hwA] at zA aA
  obtain ⟨wB, hB, zB⟩ := put_word zA rfl 0 [] false false
  have zBl : Sat W (blkA lb 30 [st t, .int .i64 r, v] * (rowA 51 5 v q.length (q.flatMap Ev.cs) * (blkA w9.heap.size 114 (wc 0 [] false false) * (evB eb y1.s ev.i 0 ev.f [] * (rdrS rb B7 cc7 (y3 :: nts) e X))))) wB := zB.eq (by unfold rdrS evB cutS; ac_rfl)
  have cB := zBl.cell 1 rfl
  have zC : Sat W (rdrS rb B7 cc7 (y3 :: nts) e (blkA w9.heap.size 114 (wc 0 [] false false) * (evB eb y1.s ev.i 0 ev.f [] * cutS lb t r v q X))) wB := zB.eq (by unfold rdrS evB cutS; ac_rfl)
  obtain ⟨BD, ccD, wD, hD, zD, hcD⟩ := time_good L F.r1 F.r7 (n := ev.o) (by omega) n5 s3 zC hc7 (by simp; omega) (nextE_ok b3 t3 (by simp))
  have zE : Sat W (evB eb y1.s ev.i 0 ev.f [] * (blkA w9.heap.size 114 (wc 0 [] false false) * (rdrS rb BD ccD nts e (cutS lb t r v q X)))) wD := zD.eq (by unfold rdrS evB cutS; ac_rfl)
  have hE := zE.blk.store (P := Tryz.prog) (t := 3) (j := 2) (v := .int .i64 ev.o) inf3 size3 (by simp) rfl rfl
  have zF := zE.store 2 (.int .i64 ev.o) (cs' := [st y1.s, .int .i64 ev.i, .int .i64 ev.o, .int .i64 ev.f, st []]) rfl
  obtain ⟨wF, hwF⟩ : ∃ wF, wF = wD.setCell ⟨eb, 2, none⟩ (.int .i64 ev.o) := ⟨_, rfl⟩
  rw [← hwF] at hE zF
  have zG : Sat W (blkA w9.heap.size 114 (wc 0 [] false false) * (evB eb y1.s ev.i ev.o ev.f [] * (rdrS rb BD ccD nts e (cutS lb t r v q X)))) wF := zF.eq (by unfold evB; ac_rfl)
  obtain ⟨wH, hH, zH⟩ := put_word zG rfl (y3.a : Int) y3.s false false
  have zI : Sat W (rdrS rb BD ccD nts e (evB eb y1.s ev.i ev.o ev.f [] * cutS lb t r v q X)) wH := (zH.right).eq (by unfold rdrS evB cutS; ac_rfl)
  have cI := zI.cell 0 rfl
  have q3' : w3.cell? ⟨w1.heap.size, 1, none⟩ = some (st y1.s) := q3
  have c5' : w5.cell? ⟨lb, 1, none⟩ = some (.int .i64 r) := c5
  have cB' : wB.cell? ⟨lb, 1, none⟩ = some (.int .i64 r) := cB
  cases hn : ev.n with
  | nil =>
    have hnt : nts = [] := by
      rw [hn] at hk
      simpa [noteTk] using hk
    subst hnt
    obtain ⟨v', w', hR, zR⟩ := ev3_ok L (ev := ev) (y6 := y6) (v11 := .pointer (some ⟨w9.heap.size, 0, none⟩)) F (zI.eq (by rw [s1, Ev.cs, hn]))
    refine ⟨v', w', ?_, zR⟩
    have cI' : wH.cell? ⟨rb, 0, none⟩ = some (.slice BD 0 ccD) := cI
    simp [ev2, h1, a2, h3, addL, q3', h4, nilV, c5', h7, h8, build114z, aA, hB, cB', hD, hE, hH, cI', hR]
  | cons ch nt =>
    have hne : ev.n ≠ [] := by rw [hn]; simp
    have hk' : nts.map Wd.tk = [⟨ev.n, true⟩] := by rw [hk, noteTk, if_neg hne]
    obtain ⟨y4, n4', rfl, k4, hk4⟩ := List.map_eq_cons_iff.mp hk'
    have : n4' = [] := by simpa using hk4
    subst this
    have s4 : y4.s = ev.n := congrArg Tk.s k4
    have t4 : y4.t = true := congrArg Tk.t k4
    have b4 := hb y4 (by simp)
    obtain ⟨BJ, ccJ, wJ, hJ, zJ, hcJ, _, _, _⟩ := next_good zI hcD (by simp) true (nextE_ok b4 t4 (fun _ => by rw [s4]; omega))
    have zK := zJ.newBlk 114 (wc 0 [] false false)
    have aK := alloc114 wJ
    obtain ⟨wK, hwK⟩ : ∃ wK, wK = wJ.alloc (.cells (wc 0 [] false false).toArray 114) := ⟨_, rfl⟩
    rw [← hwK] at zK aK
    obtain ⟨wM, hM, zM⟩ := put_word zK rfl (y4.a : Int) y4.s true false
    have qM : wM.cell? ⟨wJ.heap.size, 1, none⟩ = some (st y4.s) := zM.cell 1 rfl
    have zN : Sat W (evB eb y1.s ev.i ev.o ev.f [] * (rdrS rb BJ ccJ [] e (cutS lb t r v q X))) wM := (zM.right).eq (by unfold rdrS evB cutS; ac_rfl)
    have hN := zN.blk.store (P := Tryz.prog) (t := 9) (j := 4) (v := st y4.s) inf9 size9 (by simp) rfl rfl
    have zO := zN.store 4 (st y4.s) (cs' := [st y1.s, .int .i64 ev.i, .int .i64 ev.o, .int .i64 ev.f, st y4.s]) rfl
    obtain ⟨wO, hwO⟩ : ∃ wO, wO = wM.setCell ⟨eb, 4, none⟩ (st y4.s) := ⟨_, rfl⟩
    rw [← hwO] at hN zO
    obtain ⟨v', w', hR, zR⟩ := ev3_ok L (ev := ev) (y6 := y6) (v11 := .pointer (some ⟨w9.heap.size, 0, none⟩)) F (zO.eq (by rw [s1, s4, Ev.cs]; unfold rdrS cutS; ac_rfl))
    refine ⟨v', w', ?_, zR⟩
    have cI' : wH.cell? ⟨rb, 0, none⟩ = some (.slice BD 1 ccD) := cI
    simp [ev2, h1, a2, h3, addL, q3', h4, nilV, c5', h7, h8, build114z, aA, hB, cB', hD, hE, hH, cI', hJ, aK, hM, qM, hN, hR]
end
end Go.Sh.YtkghbcadnbojgaaGreatDoor

namespace Go.Sh.YtkghbcadnbojgaaGreatDoor
open Go Go.Proofs Go.RowKit Go.Lib Go.Sh.Ev
set_option linter.unusedVariables false
set_option linter.unusedSimpArgs false
set_option maxRecDepth 100000
section
variable {W : World} {X : Asn W.heap.size}
theorem plain_one {w : World} {rb : Nat} {B : Option Addr} {cc : Nat} {y : Wd} {rest : List Wd} {e : Int} {h : Value} (hh : ∀ (Y : Asn W.heap.size) (w : World), Sat W Y w → ∃ w', callV C h [st y.s] w = some (.bool true, w') ∧ Sat W Y w') (x : Sat W (rdrS rb B cc (y :: rest) e X) w) (hc : (y :: rest).length ≤ cc) (hl : (y :: rest).length ≤ 30000) (hn : nextE false (y :: rest) e = none) :
    ∃ B' cc' w', C 58 #[.pointer (some ⟨rb, 0, none⟩), h] w = some (.tuple #[wv (y.a : Int) y.s false false, .nilIface], w') ∧ Sat W (rdrS rb B' cc' rest e X) w' ∧ rest.length ≤ cc' := by
  have x1 := x.newBlk 114 (wc 0 [] false false)
  have a1 := alloc114 w
  obtain ⟨w1, hw1⟩ : ∃ w1, w1 = w.alloc (.cells (wc 0 [] false false).toArray 114) := ⟨_, rfl⟩
  rw [← hw1] at x1 a1
  have y1 : Sat W (rdrS rb B cc (y :: rest) e (blkA w.heap.size 114 (wc 0 [] false false) * X)) w1 := x1.eq (by unfold rdrS; ac_rfl)
  obtain ⟨B', cc', w2, h2, y2, hcc, _, _, _⟩ := next_good y1 hc hl false hn
  have y3 := y2.newBlk 114 (wc 0 [] false false)
  have a3 := alloc114 w2
  obtain ⟨w3, hw3⟩ : ∃ w3, w3 = w2.alloc (.cells (wc 0 [] false false).toArray 114) := ⟨_, rfl⟩
  rw [← hw3] at y3 a3
  obtain ⟨w4, h4, y4⟩ := put_word y3 rfl (y.a : Int) y.s false false
  have q1 := y4.cell 1 rfl
  obtain ⟨w5, h5, y5⟩ := hh _ w4 y4
  have l5 := ld_word y5
  have y6 : Sat W (blkA w.heap.size 114 (wc 0 [] false false) * (blkA w2.heap.size 114 (wc (y.a : Int) y.s false false) * rdrS rb B' cc' rest e X)) w5 := y5.eq (by unfold rdrS; ac_rfl)
  obtain ⟨w6, h6, y7⟩ := put_word y6 rfl (y.a : Int) y.s false false
  have l7 := ld_word y7
  refine ⟨B', cc', w6, f58.run rfl ?_, y7.right.right, hcc⟩
  simp [f58, a1, h2, a3, h4, addL, q1, h5, l5, h6, l7]
theorem event_good {w : World} (L : Lay W) {rb lb : Nat} {B : Option Addr} {cc : Nat} {e r : Int} {t : List UInt8} {v : Value} {q : List Ev} {ev : Ev} (F : Fine t r (q ++ [ev])) {ws : List Wd} (hk : ws.map Wd.tk = evTk r ev) (hb : ∀ y ∈ ws, y.b = false) (hc : ws.length ≤ cc)
    (x : Sat W (rdrS rb B cc ws e (cutS lb t r v q X)) w) :
    ∃ v' w', C 28 #[.pointer (some ⟨rb, 0, none⟩), .pointer (some ⟨lb, 0, none⟩)] w = some (.nilIface, w') ∧ Sat W (cutS lb t r v' (q ++ [ev]) X) w' := by
  have hev : (q ++ [ev])[q.length]? = some ev := by simp
  obtain ⟨⟨m0, m1, m2⟩, m3, m4, n1, n2, n3, n4, n5⟩ := evCode_zero (F.ev _ ev hev) (dayOf_le r)
  have hql := F.ql
  rw [List.length_append, List.length_singleton] at hql
  have hlen : ws.length ≤ 6 := by
    have := congrArg List.length hk
    rw [List.length_map] at this
    rw [this, evTk]
    simp only [List.length_append, List.length_cons, List.length_nil]
    have h1 : (fadeTk ev.f).length ≤ 2 := by unfold fadeTk; split <;> simp
    have h2 : (noteTk ev.n).length ≤ 1 := by unfold noteTk; split <;> simp
    omega
  have xr : Sat W (rowA 51 5 v q.length (q.flatMap Ev.cs) * (blkA lb 30 [st t, .int .i64 r, v] * rdrS rb B cc ws e X)) w := x.eq (by unfold rdrS cutS; ac_rfl)
  obtain ⟨A, c, rfl, hcq, _⟩ := own_form xr.row
  have xl : Sat W (blkA lb 30 [st t, .int .i64 r, .slice A q.length c] * (rowA 51 5 (.slice A q.length c) q.length (q.flatMap Ev.cs) * rdrS rb B cc ws e X)) w := xr.eq (by ac_rfl)
  have c0 : w.cell? ⟨lb, 2, none⟩ = some (.slice A q.length c) := xl.cell 2 rfl
  have h200 : ¬ (q.length : Int) = 200 := by omega
  have h200' : ¬ q.length = 200 := by omega
  have a0 := alloc51 w
  have x1 := x.newBlk 51 [st [], .int .i64 0, .int .i64 0, .int .i64 0, st []]
  obtain ⟨w1, hw1⟩ : ∃ w1, w1 = w.alloc (.cells #[st [], .int .i64 0, .int .i64 0, .int .i64 0, st []] 51) := ⟨_, rfl⟩
  have x1 : Sat W (evB w.heap.size [] 0 0 0 [] * rdrS rb B cc ws e (cutS lb t r (.slice A q.length c) q X)) w1 := hw1 ▸ x1
  rw [← hw1] at a0
  have x2 : Sat W (rdrS rb B cc ws e (evB w.heap.size [] 0 0 0 [] * cutS lb t r (.slice A q.length c) q X)) w1 := x1.eq (by unfold rdrS; ac_rfl)
  unfold evTk fadeTk at hk
  by_cases hf : 0 < ev.f
  · rw [if_pos hf] at hk
    simp only [List.cons_append, List.nil_append] at hk
    obtain ⟨y1, ws1, rfl, k1, hk⟩ := List.map_eq_cons_iff.mp hk
    obtain ⟨y2, ws2, rfl, k2, hk⟩ := List.map_eq_cons_iff.mp hk
    have s1 : y1.s = tFade := congrArg Tk.s k1
    have t1 : y1.t = false := congrArg Tk.t k1
    have s2 : y2.s = dec ev.f.toNat := congrArg Tk.s k2
    have t2 : y2.t = false := congrArg Tk.t k2
    have b1 := hb y1 (by simp)
    have b2 := hb y2 (by simp)
    have hl2 : (y2 :: ws2).length ≤ 6 := by simp at hlen ⊢; omega
    obtain ⟨B3, cc3, w3, h3, z3, hc3, _⟩ := plain_good holds_cut (by rw [s1]; decide) x2 hc (by omega) (plainE_ok b1 t1 (by rw [s1]; decide))
    have z4 := z3.newBlk 114 (wc 0 [] false false)
    have a4 := alloc114 w3
    obtain ⟨w4, hw4⟩ : ∃ w4, w4 = w3.alloc (.cells (wc 0 [] false false).toArray 114) := ⟨_, rfl⟩
    rw [← hw4] at z4 a4
    obtain ⟨w5, h5, z5⟩ := put_word z4 rfl (y1.a : Int) y1.s false false
    have q5 : w5.cell? ⟨w3.heap.size, 1, none⟩ = some (st y1.s) := z5.cell 1 rfl
    rw [s1] at q5
    have eq := fun a b => str_eql (P := Tryz.prog) (t := 9) a b tFade tFade
    simp only [tFade] at eq q5
    have z6 : Sat W (rdrS rb B3 cc3 (y2 :: ws2) e (evB w.heap.size [] 0 0 0 [] * cutS lb t r (.slice A q.length c) q X)) w5 := z5.right
    obtain ⟨k, hkk⟩ : ∃ k : Nat, (k : Int) = ev.f := ⟨ev.f.toNat, by omega⟩
    have hk1 : ev.f.toNat = k := by omega
    rw [hk1] at s2
    obtain ⟨B7, cc7, w7, h7, z7, hc7⟩ := plain_one (h := .func (.func 65) #[] #[]) (fun Y u su => by
      obtain ⟨u', hu, gu⟩ := isFade_ok (globOk_grown L.g (grown_of su)) (k := k) (by omega) (by omega)
      rw [s2]
      exact ⟨u', by simpa [callV] using hu, su.grown gu⟩) z6 hc3 (by omega) (nextE_ok b2 t2 (by simp))
    have z8 := z7.newBlk 114 (wc 0 [] false false)
    have a8 := alloc114 w7
    obtain ⟨w8, hw8⟩ : ∃ w8, w8 = w7.alloc (.cells (wc 0 [] false false).toArray 114) := ⟨_, rfl⟩
    rw [← hw8] at z8 a8
    obtain ⟨w9, h9, z9⟩ := put_word z8 rfl (y2.a : Int) y2.s false false
    have q9 : w9.cell? ⟨w7.heap.size, 1, none⟩ = some (st y2.s) := z9.cell 1 rfl
    obtain ⟨wA, hA, gA⟩ := atoi_dec (k := k) (by omega) w9
    rw [← s2] at hA
    have zA : Sat W (evB w.heap.size [] 0 0 0 [] * (rdrS rb B7 cc7 ws2 e (cutS lb t r (.slice A q.length c) q X))) wA := ((z9.grown gA).right).eq (by unfold rdrS; ac_rfl)
    have hB := zA.blk.store (P := Tryz.prog) (t := 3) (j := 3) (v := .int .i64 (k : Int)) inf3 size3 (by simp) rfl rfl
    have zB := zA.store 3 (.int .i64 (k : Int)) (cs' := [st [], .int .i64 0, .int .i64 0, .int .i64 ev.f, st []]) (by rw [← hkk]; rfl)
    obtain ⟨wB, hwB⟩ : ∃ wB, wB = wA.setCell ⟨w.heap.size, 3, none⟩ (.int .i64 (k : Int)) := ⟨_, rfl⟩
    rw [← hwB] at hB zB
    have zC : Sat W (rdrS rb B7 cc7 ws2 e (evB w.heap.size [] 0 0 ev.f [] * cutS lb t r (.slice A q.length c) q X)) wB := zB.eq (by unfold rdrS evB; ac_rfl)
    obtain ⟨v', w', hR, zR⟩ := ev2_ok L (y6 := .pointer (some ⟨w3.heap.size, 0, none⟩)) F hk (fun y hy => hb y (by simp [hy])) hc7 zC
    refine ⟨v', w', f28.run rfl ?_, zR⟩
    rw [f28.parts]
    simp [nilV, addL, c0, h200, a0, h3, a4, h5, q5, eq, h7, a8, h9, q9, hA, hB, hR]
  · rw [if_neg hf] at hk
    simp only [List.cons_append, List.nil_append] at hk
    have hf0 : ev.f = 0 := by omega
    obtain ⟨y1, ws1, rfl, k1, hk⟩ := List.map_eq_cons_iff.mp hk
    have s1 : y1.s = tCut := congrArg Tk.s k1
    have t1 : y1.t = false := congrArg Tk.t k1
    have b1 := hb y1 (by simp)
    obtain ⟨B3, cc3, w3, h3, z3, hc3, _⟩ := plain_good holds_cut (by rw [s1]; decide) x2 hc (by omega) (plainE_ok b1 t1 (by rw [s1]; decide))
    have z4 := z3.newBlk 114 (wc 0 [] false false)
    have a4 := alloc114 w3
    obtain ⟨w4, hw4⟩ : ∃ w4, w4 = w3.alloc (.cells (wc 0 [] false false).toArray 114) := ⟨_, rfl⟩
    rw [← hw4] at z4 a4
    obtain ⟨w5, h5, z5⟩ := put_word z4 rfl (y1.a : Int) y1.s false false
    have q5 : w5.cell? ⟨w3.heap.size, 1, none⟩ = some (st y1.s) := z5.cell 1 rfl
    rw [s1] at q5
    have eq := fun a b => str_eql (P := Tryz.prog) (t := 9) a b tCut tFade
    simp only [tFade, tCut] at eq q5
    have z6 : Sat W (rdrS rb B3 cc3 ws1 e (evB w.heap.size [] 0 0 ev.f [] * cutS lb t r (.slice A q.length c) q X)) w5 := by rw [hf0]; exact z5.right
    obtain ⟨v', w', hR, zR⟩ := ev2_ok L (y6 := .pointer (some ⟨w3.heap.size, 0, none⟩)) F hk (fun y hy => hb y (by simp [hy])) hc3 z6
    refine ⟨v', w', f28.run rfl ?_, zR⟩
    rw [f28.parts]
    simp [nilV, addL, c0, h200, a0, h3, a4, h5, q5, eq, hR]
end
end Go.Sh.YtkghbcadnbojgaaGreatDoor

namespace Go.Sh.YtkghbcadnbojgaaGreatDoor
open Go Go.Proofs Go.RowKit Go.Lib Go.Sh.Ev
set_option linter.unusedVariables false
set_option linter.unusedSimpArgs false
set_option maxRecDepth 100000
theorem indexByte_at : ∀ (l r : List UInt8), (∀ c ∈ l, c ≠ 10) → indexByte (l ++ 10 :: r) 10 = l.length
  | [], r, _ => by simp [indexByte]
  | c :: l, r, h => by
    have ih := indexByte_at l r fun d hd => h d (by simp [hd])
    have hc := h c (by simp)
    rw [List.cons_append, indexByte]
    simp [hc, ih]
    try omega
theorem build64 : prun Tryz.prog (Instr.build 64 #[]) = some (.agg #[.slice none 0 0, .int .i64 0]) := id (by kernel_rfl)
section
variable {W : World} {X : Asn W.heap.size}
theorem line_pre {w : World} (L : Lay W) (x : Sat W X w) {s Ln rest : List UInt8} {at_ : Nat} (hs : s.length ≤ 20000) (hd : s.drop at_ = Ln ++ 10 :: rest) (h10 : ∀ c ∈ Ln, c ≠ 10) (hv : vs 0 Ln = true) {ks : List Tk} (hm : Means Ln ks) :
    ∃ (B : Option Addr) (cc : Nat) (e : Nat) (ws : List Wd) (w1 w2 w3 w4 : World),
      prun Tryz.prog (Instr.sliceAt 9 (st s) (some (.int .i64 (at_ : Int))) none none) = some (st (s.drop at_)) ∧
      C 25 #[st (s.drop at_), .int .u8 10] w = some (.int .i64 (Ln.length : Int), w) ∧
      IntKind.i64.wrap ((at_ : Int) + (Ln.length : Int)) = ((at_ + Ln.length : Nat) : Int) ∧
      erun Tryz.prog (Instr.box 64 (.agg #[.slice none 0 0, .int .i64 0])) w = some (.pointer (some ⟨w.heap.size, 0, none⟩), w1) ∧
      C 26 #[st s, .int .i64 (at_ : Int), .int .i64 ((at_ + Ln.length : Nat) : Int)] w1 = some (.tuple #[.slice B ws.length cc, .int .i64 (e : Int)], w2) ∧
      erun Tryz.prog (Instr.storeAt 62 (.pointer (some ⟨w.heap.size, 0, none⟩)) (.slice B ws.length cc)) w2 = some ((), w3) ∧
      erun Tryz.prog (Instr.storeAt 3 (.pointer (some ⟨w.heap.size, 1, none⟩)) (.int .i64 (e : Int))) w3 = some ((), w4) ∧
      IntKind.i64.wrap (((at_ + Ln.length : Nat) : Int) + 1) = ((at_ + (Ln.length + 1) : Nat) : Int) ∧
      Sat W (rdrS w.heap.size B cc ws (e : Int) X) w4 ∧ ws.map Wd.tk = ks ∧ (∀ y ∈ ws, y.b = false) ∧ ws.length ≤ cc := by
  have hlen : Ln.length + 1 + rest.length = s.length - at_ := by have := congrArg List.length hd; simp at this; omega
  have k1 := str_from (P := Tryz.prog) Tryz.underlying9 s .i64 at_ (by omega)
  have k2 := byte_ok (s.drop at_) 10 w
  rw [show indexByte (s.drop at_) 10 = Ln.length by rw [hd]; exact indexByte_at Ln rest h10] at k2
  have e1 : IntKind.i64.wrap ((at_ : Int) + (Ln.length : Int)) = ((at_ + Ln.length : Nat) : Int) := (wrap_i64 (by omega) (by omega)).trans (by omega)
  have e2 : IntKind.i64.wrap (((at_ + Ln.length : Nat) : Int) + 1) = ((at_ + (Ln.length + 1) : Nat) : Int) := (wrap_i64 (by omega) (by omega)).trans (by omega)
  have z1 := x.newBlk 64 [.slice none 0 0, .int .i64 0]
  obtain ⟨w1, hw1⟩ : ∃ w1, w1 = w.alloc (.cells #[.slice none 0 0, .int .i64 0] 64) := ⟨_, rfl⟩
  have z1 : Sat W (blkA w.heap.size 64 [.slice none 0 0, .int .i64 0] * X) w1 := hw1 ▸ z1
  have k3 : erun Tryz.prog (Instr.box 64 (.agg #[.slice none 0 0, .int .i64 0])) w = some (.pointer (some ⟨w.heap.size, 0, none⟩), w1) := by rw [hw1]; rfl
  have hseg : (s.drop at_).take (at_ + Ln.length - at_) = Ln := by
    rw [hd, Nat.add_sub_cancel_left, List.take_left' rfl]
  obtain ⟨v, w2, k4, z2⟩ := words_ok L.g z1 (s := s) (p := at_) (to := at_ + Ln.length) (by omega) (by omega) (by omega) (by rw [hseg]; exact hv)
  rw [hseg] at k4 z2
  obtain ⟨ws, p', m1, m2, m3⟩ := hm (Ln.length + 1) at_ [] (by omega)
  have hw : words at_ Ln = (ws, p') := by rw [words, m1]; rfl
  rw [hw] at k4 z2
  simp only at k4 z2
  obtain ⟨B, cc, rfl, hcc, _⟩ := own_form z2.row
  have z3 : Sat W (blkA w.heap.size 64 [.slice none 0 0, .int .i64 0] * (rowA 114 4 (.slice B ws.length cc) ws.length (wcs ws) * X)) w2 := z2.eq (by ac_rfl)
  have k5 := z3.blk.store (P := Tryz.prog) (t := 62) (j := 0) (v := .slice B ws.length cc) inf62 size62 (by simp) rfl rfl
  have z4 := z3.store 0 (.slice B ws.length cc) (cs' := [.slice B ws.length cc, .int .i64 0]) rfl
  obtain ⟨w3, hw3⟩ : ∃ w3, w3 = w2.setCell ⟨w.heap.size, 0, none⟩ (.slice B ws.length cc) := ⟨_, rfl⟩
  rw [← hw3] at k5 z4
  have k6 := z4.blk.store (P := Tryz.prog) (t := 3) (j := 1) (v := .int .i64 (p' : Int)) inf3 size3 (by simp) rfl rfl
  have z5 := z4.store 1 (.int .i64 (p' : Int)) (cs' := [.slice B ws.length cc, .int .i64 (p' : Int)]) rfl
  obtain ⟨w4, hw4⟩ : ∃ w4, w4 = w3.setCell ⟨w.heap.size, 1, none⟩ (.int .i64 (p' : Int)) := ⟨_, rfl⟩
  rw [← hw4] at k6 z5
  have z6 : Sat W (rowA 114 4 (.slice B ws.length cc) ws.length (wcs ws) * (blkA w.heap.size 64 [.slice B ws.length cc, .int .i64 (p' : Int)] * X)) w4 := z5.eq (by ac_rfl)
  refine ⟨B, cc, p', ws, w1, w2, w3, w4, k1, k2, e1, k3, k4, k5, k6, e2, (Sat.reads z6).eq (by unfold rdrS; ac_rfl), m2, m3, hcc⟩
end
end Go.Sh.YtkghbcadnbojgaaGreatDoor

namespace Go.Sh.YtkghbcadnbojgaaGreatDoor
open Go Go.Proofs Go.RowKit Go.Lib Go.Sh.Ev
set_option linter.unusedVariables false
set_option linter.unusedSimpArgs false
set_option maxRecDepth 100000
theorem fine_pre {t : List UInt8} {r : Int} {q : List Ev} (F : Fine t r q) (k : Nat) : Fine t r (q.take k) := by
  refine ⟨F.tl, F.tv, F.r1, F.r7, by have := F.ql; rw [List.length_take]; omega, fun i e hi => ?_⟩
  rw [List.getElem?_take] at hi
  split at hi
  · rename_i hik
    rw [List.take_take, Nat.min_eq_left (by omega)]
    exact F.ev i e hi
  · cases hi
section
variable {W : World} {X : Asn W.heap.size}
/-- what Parse holds: nothing as yet, or the events so far -/
def PS (lb rb : Nat) (t : List UInt8) (r : Int) (q : List Ev) (X : Asn W.heap.size) (begun : Bool) (ls : List (List Tk)) (w : World) : Prop :=
  (begun = false ∧ ls = cutTk t r q ∧ Sat W (blkA lb 30 [st [], .int .i64 0, .slice none 0 0] * (blkA rb 30 [st [], .int .i64 0, .slice none 0 0] * X)) w) ∨
  (begun = true ∧ ∃ k v, k ≤ q.length ∧ ls = (q.drop k).map (evTk r) ∧ Sat W (cutS lb t r v (q.take k) (blkA rb 30 [st [], .int .i64 0, .slice none 0 0] * X)) w)
theorem parse_round {w : World} (L : Lay W) {t : List UInt8} {r : Int} {q : List Ev} (F : Fine t r q) {lb rb : Nat} {s Ln rest : List UInt8} {at_ : Nat} {begun : Bool} {ls ls' : List (List Tk)} (hs : s.length ≤ 20000) (hd : s.drop at_ = Ln ++ 10 :: rest) (h10 : ∀ c ∈ Ln, c ≠ 10) (hv : vs 0 Ln = true)
    (hm : (Means Ln [] ∧ ls' = ls) ∨ ∃ k, ls = k :: ls' ∧ k ≠ [] ∧ Means Ln k) (x : PS lb rb t r q X begun ls w) :
    ∃ begun' w', f9.l0 C [st s, .pointer (some ⟨rb, 0, none⟩), .pointer (some ⟨lb, 0, none⟩), .bool begun, .int .i64 (at_ : Int)] w = some (.norm [st s, .pointer (some ⟨rb, 0, none⟩), .pointer (some ⟨lb, 0, none⟩), .bool begun', .int .i64 ((at_ + (Ln.length + 1) : Nat) : Int)] w') ∧ PS lb rb t r q X begun' ls' w' := by
  have hlen : Ln.length + 1 + rest.length = s.length - at_ := by have := congrArg List.length hd; simp at this; omega
  have hsl := fun ty => str_len (P := Tryz.prog) Tryz.underlying9 ty s
  have hlt : (at_ : Int) < (s.length : Int) := by omega
  obtain ⟨TO, hTO⟩ : ∃ TO : Int, TO = ((at_ + Ln.length : Nat) : Int) := ⟨_, rfl⟩
  obtain ⟨AT, hAT⟩ : ∃ AT : Int, AT = ((at_ + (Ln.length + 1) : Nat) : Int) := ⟨_, rfl⟩
  have hnl : ¬ TO < (at_ : Int) := by omega
  rcases x with ⟨rfl, hls, x⟩ | ⟨rfl, k0, v, hk0, hls, x⟩
  · rcases hm with ⟨hm, rfl⟩ | ⟨ks, hks, hne, hm⟩
    · obtain ⟨B, cc, e, ws, w1, w2, w3, w4, a1, a2, a3, a4, a5, a6, a7, a8, z, m1, m2, m3⟩ := line_pre L x hs hd h10 hv hm
      have hw0 : ws = [] := by simpa using m1
      subst hw0
      have c0 : w4.cell? ⟨w.heap.size, 0, none⟩ = some (.slice B 0 cc) := z.cell 0 rfl
      refine ⟨false, w4, ?_, .inl ⟨rfl, hls, z.right.right⟩⟩
      rw [← hTO] at a3 a5 a8
      rw [← hAT] at a8 ⊢
      simp only [List.length_nil] at a5 a6
      simp [f9.l0, hsl, hlt, a1, a2, a3, hnl, build64, a4, a5, nilV, addL, a6, a7, a8, c0]
    · obtain ⟨B, cc, e, ws, w1, w2, w3, w4, a1, a2, a3, a4, a5, a6, a7, a8, z, m1, m2, m3⟩ := line_pre L x hs hd h10 hv hm
      rw [hls, cutTk] at hks
      obtain ⟨hk1, hk2⟩ := List.cons.inj hks
      subst hk1
      simp only [listTk] at m1
      obtain ⟨y1, ws1, rfl, k1, m1⟩ := List.map_eq_cons_iff.mp m1
      obtain ⟨y2, ws2, rfl, k2, m1⟩ := List.map_eq_cons_iff.mp m1
      obtain ⟨y3, ws3, rfl, k3, m1⟩ := List.map_eq_cons_iff.mp m1
      have hw0 : ws3 = [] := by simpa using m1
      subst hw0
      have s1 : y1.s = tList := congrArg Tk.s k1
      have t1 : y1.t = false := congrArg Tk.t k1
      have s2 : y2.s = rname r := congrArg Tk.s k2
      have t2 : y2.t = false := congrArg Tk.t k2
      have s3 : y3.s = t := congrArg Tk.s k3
      have t3 : y3.t = true := congrArg Tk.t k3
      obtain ⟨g1, g2, g3⟩ := rname_gd F.r1 F.r7
      have hrl : (rname r).length ≤ 10 := by unfold rname; repeat' split
                                             all_goals simp
      have htl := F.tl
      have hr1 := F.r1
      obtain ⟨w5, h5, z5⟩ := list_good z m3 (by rw [s1]; decide) (by rw [s2]; omega) (plainE_ok (m2 y1 (by simp)) t1 (by rw [s1]; decide)) (plainE_ok (m2 y2 (by simp)) t2 (by rw [s2, isRate, g3]; simp; omega)) (nextE_ok (m2 y3 (by simp)) t3 (fun _ => by rw [s3]; omega))
      rw [s2, g3, s3] at h5
      obtain ⟨w6, h6, z6⟩ := put_blk z5 inf30 (v := .agg #[st t, .int .i64 r, .slice none 0 0]) (cs' := [st t, .int .i64 r, .slice none 0 0]) rfl (by rw [size30]; rfl) rfl (by simp [Value.oneCell'])
      have z7 := z6.nilRow 51 5
      have c0 : w4.cell? ⟨w.heap.size, 0, none⟩ = some (.slice B 3 cc) := z.cell 0 rfl
      refine ⟨true, w6, ?_, .inr ⟨rfl, 0, .slice none 0 0, by omega, by rw [← hk2]; rfl, z7.eq (by unfold cutS; rw [star_left_comm]; rfl)⟩⟩
      rw [← hTO] at a3 a5 a8
      rw [← hAT] at a8 ⊢
      simp only [List.length_cons, List.length_nil, Nat.zero_add] at a5 a6
      simp [f9.l0, hsl, hlt, a1, a2, a3, hnl, build64, a4, a5, nilV, addL, a6, a7, a8, c0, h5, h6]
  · rcases hm with ⟨hm, rfl⟩ | ⟨ks, hks, hne, hm⟩
    · obtain ⟨B, cc, e, ws, w1, w2, w3, w4, a1, a2, a3, a4, a5, a6, a7, a8, z, m1, m2, m3⟩ := line_pre L x hs hd h10 hv hm
      have hw0 : ws = [] := by simpa using m1
      subst hw0
      have c0 : w4.cell? ⟨w.heap.size, 0, none⟩ = some (.slice B 0 cc) := z.cell 0 rfl
      refine ⟨true, w4, ?_, .inr ⟨rfl, k0, v, hk0, hls, z.right.right⟩⟩
      rw [← hTO] at a3 a5 a8
      rw [← hAT] at a8 ⊢
      simp only [List.length_nil] at a5 a6
      simp [f9.l0, hsl, hlt, a1, a2, a3, hnl, build64, a4, a5, nilV, addL, a6, a7, a8, c0]
    · obtain ⟨B, cc, e, ws, w1, w2, w3, w4, a1, a2, a3, a4, a5, a6, a7, a8, z, m1, m2, m3⟩ := line_pre L x hs hd h10 hv hm
      have hlt0 : k0 < q.length := by
        by_cases h : k0 < q.length
        · exact h
        · exfalso
          rw [hls, List.drop_eq_nil_of_le (by omega)] at hks
          cases hks
      rw [hls, List.drop_eq_getElem_cons hlt0, List.map_cons] at hks
      obtain ⟨hk1, hk2⟩ := List.cons.inj hks
      subst hk1
      have htk : q.take k0 ++ [q[k0]] = q.take (k0 + 1) := (List.take_succ_eq_append_getElem hlt0).symm
      obtain ⟨v', w5, h5, z5⟩ := event_good L (ev := q[k0]) (by rw [htk]; exact fine_pre F (k0 + 1)) m1 m2 m3 z
      rw [htk] at z5
      obtain ⟨N, hN⟩ : ∃ N, N = ws.length := ⟨_, rfl⟩
      have hN0 : ¬ N = 0 := by
        rw [hN]
        intro h
        have := congrArg List.length m1
        rw [List.length_map, h] at this
        exact hne (List.length_eq_zero_iff.mp this.symm)
      have hN0' : ¬ (N : Int) = 0 := by omega
      have c0 : w4.cell? ⟨w.heap.size, 0, none⟩ = some (.slice B ws.length cc) := z.cell 0 rfl
      rw [← hN] at c0 a5 a6
      refine ⟨true, w5, ?_, .inr ⟨rfl, k0 + 1, v', by omega, hk2.symm, z5⟩⟩
      rw [← hTO] at a3 a5 a8
      rw [← hAT] at a8 ⊢
      simp [f9.l0, hsl, hlt, a1, a2, a3, hnl, build64, a4, a5, nilV, addL, a6, a7, a8, c0, hN0, h5]
end
end Go.Sh.YtkghbcadnbojgaaGreatDoor

namespace Go.Sh.YtkghbcadnbojgaaGreatDoor
open Go Go.Proofs Go.RowKit Go.Lib Go.Sh.Ev
set_option linter.unusedVariables false
set_option linter.unusedSimpArgs false
set_option maxRecDepth 100000
section
variable {W : World} {X : Asn W.heap.size}
theorem parse_good {w : World} (L : Lay W) (x : Sat W X w) {P : List (List UInt8)} {t : List UInt8} {r : Int} {q : List Ev} (F : Fine t r q) (hr : Reads P (cutTk t r q)) (hl : (txtOf P).length ≤ 20000) :
    ∃ A c w', C 9 #[st (txtOf P)] w = some (.tuple #[cutV t r A q.length c, .nilIface], w') ∧ Sat W (rowA 51 5 (.slice A q.length c) q.length (q.flatMap Ev.cs) * X) w' := by
  obtain ⟨s, hs⟩ : ∃ s, s = txtOf P := ⟨_, rfl⟩
  have hv : vs 0 s = true := hs ▸ reads_valid hr
  rw [← hs] at hl ⊢
  have hbad : bad 0 s 0 = none := by
    have h := valid_bad s
    rw [valid, hv] at h
    simpa using h.symm
  have hsl := fun ty => str_len (P := Tryz.prog) Tryz.underlying9 ty s
  have h20 : ¬ (20000 : Int) < s.length := by omega
  have x1 := x.newBlk 30 [st [], .int .i64 0, .slice none 0 0]
  have a1 := alloc30 w
  obtain ⟨w1, hw1⟩ : ∃ w1, w1 = w.alloc (.cells [st [], .int .i64 0, .slice none 0 0].toArray 30) := ⟨_, rfl⟩
  rw [← hw1] at x1 a1
  obtain ⟨w2, h2, g2⟩ := unruly_ok (L.grown (grown_of x1)).u s (by omega)
  rw [hbad] at h2
  have h2' : C 24 #[st s] w1 = some (.int .i64 (-1), w2) := h2
  have x2 := x1.grown g2
  have x3 := x2.newBlk 30 [st [], .int .i64 0, .slice none 0 0]
  have a3 := alloc30 w2
  obtain ⟨w3, hw3⟩ : ∃ w3, w3 = w2.alloc (.cells [st [], .int .i64 0, .slice none 0 0].toArray 30) := ⟨_, rfl⟩
  rw [← hw3] at x3 a3
  have key := iter_down (f := f9.l0 C) (fun d ws w4 => ∃ (P' : List (List UInt8)) (at_ : Nat) (begun : Bool) (ls : List (List Tk)), ws = [st s, .pointer (some ⟨w.heap.size, 0, none⟩), .pointer (some ⟨w2.heap.size, 0, none⟩), .bool begun, .int .i64 (at_ : Int)] ∧ d = P'.length ∧ s.drop at_ = txtOf P' ∧ at_ ≤ s.length ∧ Reads P' ls ∧ PS w2.heap.size w.heap.size t r q X begun ls w4)
    (fun res => ∃ v w', res = .exit 0 [st s, .pointer (some ⟨w.heap.size, 0, none⟩), .pointer (some ⟨w2.heap.size, 0, none⟩), .bool true] w' ∧ Sat W (cutS w2.heap.size t r v q (blkA w.heap.size 30 [st [], .int .i64 0, .slice none 0 0] * X)) w') (by
      rintro d ws w4 ⟨P', at_, begun, ls, rfl, rfl, hd, hat, hr', y⟩
      cases P' with
      | nil =>
        have hls : ls = [] := hr'
        have hae : at_ = s.length := by
          have := congrArg List.length hd
          simp [txtOf] at this
          omega
        rcases y with ⟨_, hl2, _⟩ | ⟨rfl, k, v, hk, hl2, y⟩
        · rw [hls] at hl2
          cases hl2
        · have hkq : k = q.length := by
            rw [hls] at hl2
            have := congrArg List.length hl2
            simp at this
            omega
          subst hkq
          rw [List.take_length] at y
          have hnl : ¬ (at_ : Int) < (s.length : Int) := by omega
          exact .inr ⟨.exit 0 [st s, .pointer (some ⟨w.heap.size, 0, none⟩), .pointer (some ⟨w2.heap.size, 0, none⟩), .bool true] w4, by simp [f9.l0, hsl, hnl], ⟨v, w4, rfl, y⟩, by simp⟩
      | cons Ln P2 =>
        rw [txtOf_cons] at hd
        obtain ⟨h10, hvL, hm⟩ := hr'
        have hlen : Ln.length + 1 + (txtOf P2).length = s.length - at_ := by have := congrArg List.length hd; simp at this; omega
        have hd2 : s.drop (at_ + (Ln.length + 1)) = txtOf P2 := by
          rw [← List.drop_drop, hd, List.append_cons]
          exact List.drop_left' (by simp)
        rcases hm with ⟨hm, hR⟩ | ⟨k, ls', hls, hne, hm, hR⟩
        · obtain ⟨b', w5, h5, y5⟩ := parse_round L F hl hd h10 hvL (.inl ⟨hm, rfl⟩) y
          exact .inl ⟨P2.length, _, w5, by simp, h5, ⟨P2, _, b', ls, rfl, rfl, hd2, by omega, hR, y5⟩⟩
        · obtain ⟨b', w5, h5, y5⟩ := parse_round L F hl hd h10 hvL (.inr ⟨k, hls, hne, hm⟩) y
          exact .inl ⟨P2.length, _, w5, by simp, h5, ⟨P2, _, b', ls', rfl, rfl, hd2, by omega, hR, y5⟩⟩) P.length [st s, .pointer (some ⟨w.heap.size, 0, none⟩), .pointer (some ⟨w2.heap.size, 0, none⟩), .bool false, .int .i64 0] w3 ⟨P, 0, false, cutTk t r q, rfl, rfl, by rw [hs]; rfl, by omega, hr, .inl ⟨rfl, rfl, x3⟩⟩
  obtain ⟨res, h4, v, w5, rfl, x5⟩ := key
  have x6 : Sat W (rowA 51 5 v q.length (q.flatMap Ev.cs) * (blkA w2.heap.size 30 [st t, .int .i64 r, v] * (blkA w.heap.size 30 [st [], .int .i64 0, .slice none 0 0] * X))) w5 := x5.eq (by unfold cutS; ac_rfl)
  obtain ⟨A, c, rfl, hcc, _⟩ := own_form x6.row
  have l5 := ld_cut x5
  have x7 : Sat W (blkA w.heap.size 30 [st [], .int .i64 0, .slice none 0 0] * (blkA w2.heap.size 30 [st t, .int .i64 r, .slice A q.length c] * (rowA 51 5 (.slice A q.length c) q.length (q.flatMap Ev.cs) * X))) w5 := x6.eq (by ac_rfl)
  obtain ⟨w8, h8, x8⟩ := put_blk x7 inf30 (v := .agg #[st t, .int .i64 r, .slice A q.length c]) (cs' := [st t, .int .i64 r, .slice A q.length c]) rfl (by rw [size30]; rfl) rfl (by simp [Value.oneCell'])
  have l8 := ld_cut x8
  refine ⟨A, c, w8, f9.run rfl ?_, x8.right.right⟩
  have h2i : (0 : Int) ≤ -1 ↔ False := by decide
  simp [f9, a1, hsl, h20, h2', a3, h4, l5, h8, l8, cutV]
end
end Go.Sh.YtkghbcadnbojgaaGreatDoor

namespace Go.Sh.YtkghbcadnbojgaaGreatDoor
open Go Go.Proofs Go.RowKit Go.Lib Go.Sh.Ev
set_option linter.unusedVariables false
set_option linter.unusedSimpArgs false
set_option maxRecDepth 100000
theorem bsB (w : World) : erun Tryz.prog (Instr.buildSlice 91 4 #[(0, (Value.string { data := #[32] })), (1, (Value.string { data := #[32, 32] })), (2, (Value.string { data := #[9] })), (3, (Value.string { data := #[32, 9, 32] }))]) w = some (sl w.heap.size 4, w.alloc (.cells (sv blankS).toArray 9)) := id (by kernel_rfl)
theorem bsF (w : World) : erun Tryz.prog (Instr.buildSlice 91 4 #[(0, (Value.string { data := #[] })), (1, (Value.string { data := #[] })), (2, (Value.string { data := #[32] })), (3, (Value.string { data := #[9] }))]) w = some (sl w.heap.size 4, w.alloc (.cells (sv freeS).toArray 9)) := id (by kernel_rfl)
theorem bsN (w : World) : erun Tryz.prog (Instr.buildSlice 91 6 #[(0, (Value.string { data := #[] })), (1, (Value.string { data := #[] })), (2, (Value.string { data := #[10] })), (3, (Value.string { data := #[35, 32, 99, 117, 116, 32, 120, 10] })), (4, (Value.string { data := #[32, 9, 10] })), (5, (Value.string { data := #[35, 34, 10, 10] }))]) w = some (sl w.heap.size 6, w.alloc (.cells (sv noneS).toArray 9)) := id (by kernel_rfl)
theorem bsE (w : World) : erun Tryz.prog (Instr.buildSlice 91 5 #[(0, (Value.string { data := #[10] })), (1, (Value.string { data := #[10] })), (2, (Value.string { data := #[32, 35, 32, 102, 97, 100, 101, 32, 51, 10] })), (3, (Value.string { data := #[9, 10] })), (4, (Value.string { data := #[32, 35, 10] }))]) w = some (sl w.heap.size 5, w.alloc (.cells (sv endS).toArray 9)) := id (by kernel_rfl)
theorem filled_ok {w : World} {A : Option Addr} {c : Nat} {kss : List (List Tk)} {Af : Option Addr} {cf : Nat} {zs : List Int} (hL : LinesAt w A (kss.map outs)) (hF : Rd w Af (zs.map (Value.int .i64))) (hz : ∀ z ∈ zs, -9223372036854775808 ≤ z ∧ z ≤ 9223372036854775807) (hzl : zs.length ≤ 9223372036854775807)
    (hn : kss.length ≤ 1000) (hk : ∀ ks ∈ kss, ks ≠ [] ∧ ks.length ≤ 10 ∧ ∀ x ∈ ks, x.Fit ∧ x.out.length ≤ 300) :
    ∃ P w', C 16 #[.slice A kss.length c, .slice Af zs.length cf] w = some (st (txtOf P), w') ∧ Reads P kss ∧ w.grownBy w' none := by
  have a1 := bsB w
  obtain ⟨w1, hw1⟩ : ∃ w1, w1 = w.alloc (.cells (sv blankS).toArray 9) := ⟨_, rfl⟩
  have B1 : Blk w1 w.heap.size 9 (sv blankS) := hw1 ▸ Blk.new w 9 _
  have g1 : w.grownBy w1 none := hw1 ▸ World.grownBy_alloc w _ none
  rw [← hw1] at a1
  have a2 := bsF w1
  obtain ⟨w2, hw2⟩ : ∃ w2, w2 = w1.alloc (.cells (sv freeS).toArray 9) := ⟨_, rfl⟩
  have B2 : Blk w2 w1.heap.size 9 (sv freeS) := hw2 ▸ Blk.new w1 9 _
  have g2 : w1.grownBy w2 none := hw2 ▸ World.grownBy_alloc w1 _ none
  rw [← hw2] at a2
  have a3 := bsN w2
  obtain ⟨w3, hw3⟩ : ∃ w3, w3 = w2.alloc (.cells (sv noneS).toArray 9) := ⟨_, rfl⟩
  have B3 : Blk w3 w2.heap.size 9 (sv noneS) := hw3 ▸ Blk.new w2 9 _
  have g3 : w2.grownBy w3 none := hw3 ▸ World.grownBy_alloc w2 _ none
  rw [← hw3] at a3
  have a4 := bsE w3
  obtain ⟨w4, hw4⟩ : ∃ w4, w4 = w3.alloc (.cells (sv endS).toArray 9) := ⟨_, rfl⟩
  have B4 : Blk w4 w3.heap.size 9 (sv endS) := hw4 ▸ Blk.new w3 9 _
  have g4 : w3.grownBy w4 none := hw4 ▸ World.grownBy_alloc w3 _ none
  rw [← hw4] at a4
  have G : w.grownBy w4 none := grown_step (grown_step (grown_step g1 g2) g3) g4
  have h : Fill w4 A c kss Af cf zs w.heap.size w1.heap.size w2.heap.size w3.heap.size := ⟨hL.grown G, hF.grown G, hz, hzl, B1.grown (grown_step (grown_step g2 g3) g4) (by simp), B2.grown (grown_step g3 g4) (by simp), B3.grown g4 (by simp), B4⟩
  have key := iter_down (f := f16.l1 C) (fun d ws w5 => ∃ (k n : Nat) (P : List (List UInt8)), ws = [.slice A kss.length c, .slice Af zs.length cf, sl w.heap.size 4, sl w1.heap.size 4, sl w2.heap.size 6, sl w3.heap.size 5, st (txtOf P), .int .i64 (n : Int), .int .i64 (k : Int)] ∧ k + d = kss.length ∧ w.grownBy w5 none ∧ Fill w5 A c kss Af cf zs w.heap.size w1.heap.size w2.heap.size w3.heap.size ∧ Reads P (kss.take k) ∧ (txtOf P).length ≤ 4000 * k ∧ n ≤ 20 * k)
    (fun res => ∃ (P : List (List UInt8)) (w5 : World), res = .exit 0 [st (txtOf P)] w5 ∧ Reads P kss ∧ w.grownBy w5 none) (by
      rintro d ws w5 ⟨k, n, P, rfl, hkd, g5, h5, hR, hPl, hnl⟩
      cases d with
      | zero =>
        obtain rfl : k = kss.length := by omega
        rw [List.take_length] at hR
        exact .inr ⟨.exit 0 [st (txtOf P)] w5, by simp [f16.l1], ⟨P, w5, rfl, hR, g5⟩, by simp⟩
      | succ d =>
        have hkl : k < kss.length := by omega
        obtain ⟨q1, q2, q3⟩ := hk kss[k] (List.getElem_mem hkl)
        obtain ⟨P', n', r1, r2, r3, r4⟩ := outer_ok h5 hn (List.getElem?_eq_getElem hkl) q1 (fun x hx => (q3 x hx).1) q2 (fun x hx => (q3 x hx).2) P hR (by omega) n (by omega)
        exact .inl ⟨d, _, w5.drew, by omega, r1, ⟨k + 1, n', P', rfl, by omega, grown_step g5 (drew_grown _), h5.drew, r2, by omega, by omega⟩⟩) kss.length [.slice A kss.length c, .slice Af zs.length cf, sl w.heap.size 4, sl w1.heap.size 4, sl w2.heap.size 6, sl w3.heap.size 5, st [], .int .i64 0, .int .i64 0] w4 ⟨0, 0, [], rfl, by omega, G, h, rfl, by simp [txtOf], by omega⟩
  obtain ⟨res, k1, P, w5, rfl, k2, k3⟩ := key
  have k1' : iter (f16.l1 C) [.slice A kss.length c, .slice Af zs.length cf, sl w.heap.size 4, sl w1.heap.size 4, sl w2.heap.size 6, sl w3.heap.size 5, .string ⟨#[]⟩, .int .i64 0, .int .i64 0] w4 = some (.exit 0 [st (txtOf P)] w5) := k1
  refine ⟨P, w5, f16.run rfl ?_, k2, k3⟩
  simp [f16, a1, a2, a3, a4, k1']
theorem sameEvents_ok {w : World} {A B : Option Addr} {c d : Nat} {q : List Ev} (hA : Rd w A (q.flatMap Ev.cs)) (hB : Rd w B (q.flatMap Ev.cs)) (hq : q.length ≤ 1000) : ∃ w', C 33 #[.slice A q.length c, .slice B q.length d] w = some (.bool true, w') ∧ w.grownBy w' none := by
  have ne51 : ∀ (e : Ev) (x y : Operand) (w : World), rrun Tryz.prog (do eqGuard .neq 51 x y e.v e.v; binOp .neq 51 e.v e.v) w = some (.bool false) := fun e x y w => by simp [Ev.v]
  have key := iter_down (f := f33.l0 C) (fun n ws w1 => ∃ i : Nat, ws = [.slice A q.length c, .slice B q.length d, .int .i64 (i : Int)] ∧ i + n = q.length ∧ w.grownBy w1 none)
    (fun res => ∃ w1, res = .exit 0 [] w1 ∧ w.grownBy w1 none) (by
      rintro n ws w1 ⟨i, rfl, hi, g⟩
      cases n with
      | zero =>
        obtain rfl : i = q.length := by omega
        exact .inr ⟨.exit 0 [] w1, by simp [f33.l0], ⟨w1, rfl, g⟩, by simp⟩
      | succ n =>
        have hil : i < q.length := by omega
        have hlt : (i : Int) < (q.length : Int) := by omega
        have hqe : q[i]? = some q[i] := List.getElem?_eq_getElem hil
        have e1 : IntKind.i64.wrap ((i : Int) + 1) = ((i + 1 : Nat) : Int) := (wrap_i64 (by omega) (by omega)).trans (by omega)
        have hne : q.flatMap Ev.cs ≠ [] := by
          intro h
          have := fm_len q
          rw [h] at this
          simp only [List.length_nil] at this
          omega
        cases A with
        | none => exact absurd hA hne
        | some a =>
          cases B with
          | none => exact absurd hB hne
          | some b =>
            have ia := ix28 a q.length c .i64 (i : Int) (by omega) hlt
            have ib := ix28 b q.length d .i64 (i : Int) (by omega) hlt
            simp only [Int.toNat_natCast] at ia ib
            have la := ev_ld (hA.grown (grown_step g (drew_grown w1))) hqe
            have lb := ev_ld (hB.grown (grown_step g (drew_grown w1))) hqe
            have ne := ne51 q[i]
            obtain ⟨V, hV⟩ : ∃ V, V = (q[i]).v := ⟨_, rfl⟩
            rw [← hV] at la lb
            simp only [← hV] at ne
            obtain ⟨I, hI⟩ : ∃ I : Int, I = ((i + 1 : Nat) : Int) := ⟨_, rfl⟩
            refine .inl ⟨n, _, w1.drew, by omega, ?_, ⟨i + 1, rfl, by omega, grown_step g (drew_grown w1)⟩⟩
            rw [← hI] at e1 ⊢
            simp [f33.l0, hlt, hil, ia, ib, la, lb, ne, e1]) q.length [.slice A q.length c, .slice B q.length d, .int .i64 0] w ⟨0, rfl, by omega, grown_refl _ _⟩
  obtain ⟨res, h1, w1, rfl, g⟩ := key
  exact ⟨w1, f33.run rfl (by simp [f33, h1]), g⟩
theorem same_ok {w : World} {A B : Option Addr} {c d : Nat} {t : List UInt8} {r : Int} {q : List Ev} (hA : Rd w A (q.flatMap Ev.cs)) (hB : Rd w B (q.flatMap Ev.cs)) (hq : q.length ≤ 1000) : ∃ w', C 11 #[cutV t r A q.length c, cutV t r B q.length d] w = some (.bool true, w') ∧ w.grownBy w' none := by
  obtain ⟨w1, hw1⟩ : ∃ w1, w1 = w.alloc (.cells #[st t, .int .i64 r, .slice A q.length c] 30) := ⟨_, rfl⟩
  have B1 : Blk w1 w.heap.size 30 [st t, .int .i64 r, .slice A q.length c] := hw1 ▸ Blk.new w 30 _
  have g1 : w.grownBy w1 none := hw1 ▸ World.grownBy_alloc w _ none
  have b1 : erun Tryz.prog (Instr.box 30 (.agg #[st t, .int .i64 r, .slice A q.length c])) w = some (.pointer (some ⟨w.heap.size, 0, none⟩), w1) := by rw [hw1]; rfl
  obtain ⟨w2, hw2⟩ : ∃ w2, w2 = w1.alloc (.cells #[st t, .int .i64 r, .slice B q.length d] 30) := ⟨_, rfl⟩
  have B2 : Blk w2 w1.heap.size 30 [st t, .int .i64 r, .slice B q.length d] := hw2 ▸ Blk.new w1 30 _
  have g2 : w1.grownBy w2 none := hw2 ▸ World.grownBy_alloc w1 _ none
  have b2 : erun Tryz.prog (Instr.box 30 (.agg #[st t, .int .i64 r, .slice B q.length d])) w1 = some (.pointer (some ⟨w1.heap.size, 0, none⟩), w2) := by rw [hw2]; rfl
  have B12 := B1.grown g2 (by simp)
  have G := grown_step g1 g2
  obtain ⟨w3, h3, g3⟩ := sameEvents_ok (c := c) (d := d) (hA.grown G) (hB.grown G) hq
  have c2 := B12.cell_eq 2 rfl
  have d2 := B2.cell_eq 2 rfl
  have c0 := (B12.grown g3 (by simp)).cell_eq 0 rfl
  have d0 := (B2.grown g3 (by simp)).cell_eq 0 rfl
  have c1 := (B12.grown g3 (by simp)).cell_eq 1 rfl
  have d1 := (B2.grown g3 (by simp)).cell_eq 1 rfl
  have eq := fun a b => str_eql (P := Tryz.prog) (t := 9) a b t t
  refine ⟨w3, f11.run rfl ?_, grown_step G g3⟩
  simp [f11, cutV, b1, b2, addL, c2, d2, h3, c0, d0, eq, c1, d1]
end Go.Sh.YtkghbcadnbojgaaGreatDoor

namespace Go.Sh.YtkghbcadnbojgaaGreatDoor
open Go Go.Proofs Go.RowKit Go.ChangeShapes Go.WideShapes Go.Sh.Ev
set_option linter.unusedVariables false
set_option maxRecDepth 100000
theorem rt163 : (Tryz.prog.cutTypes.find? (·.1 == "internal/reflectlite.rtype")).map (·.2) = some 163 := by kernel_rfl
theorem oneError : ((List.range Tryz.prog.types.size).filter fun t => Tryz.prog.rowNamed t [101, 114, 114, 111, 114]) = [32] := by kernel_rfl
theorem et0 : Tryz.prog.globalNamed "errors.errorType" = some 0 := by kernel_rfl
theorem hnd_of {W : World} (h : laidMetH Tryz.prog Go.Proofs.YtkghbcadnbojgaaGreatDoor.Rows.cutsLengthsRow.laid W) : W.cell? ⟨0, 0, none⟩ = some hnd := by
  have h' : laidMet Tryz.prog (Go.Proofs.YtkghbcadnbojgaaGreatDoor.Rows.cutsLengthsRow.laid.filter fun x => x.2.handleName?.isNone) W ∧ handlesMet Tryz.prog [("errors.errorType", Go.Proofs.YtkghbcadnbojgaaGreatDoor.Rows.laid_errors_errorType)] W := h
  obtain ⟨name, u, ty, e1, e2, e3, e4, e5⟩ := h'.2 _ (List.mem_singleton.2 rfl)
  have en : name = [101, 114, 114, 111, 114] := (Option.some.inj e1).symm
  subst en
  obtain rfl := Option.some.inj (rt163.symm.trans e2)
  have hm : ty ∈ (List.range Tryz.prog.types.size).filter fun t => Tryz.prog.rowNamed t [101, 114, 114, 111, 114] := List.mem_filter.2 ⟨List.mem_range.2 e3, e4⟩
  rw [oneError] at hm
  obtain rfl := List.mem_singleton.1 hm
  have hh : typeHandle Tryz.prog 32 = .pointer (some ⟨15, 32, none⟩) := by kernel_rfl
  rw [hh] at e5
  simpa [hnd] using World.var?_cell et0 e5 0
theorem tbl_lit : flatD Go.Proofs.YtkghbcadnbojgaaGreatDoor.Rows.laid_dailies_timecode_table = some tbl := by kernel_rfl
theorem rd_of {W : World} {b : Nat} {cs : List Value} (h : ∀ i V, cs[i]? = some V → W.cell? ⟨b, i, none⟩ = some V) : Rd W (some ⟨b, 0, none⟩) cs := fun j v hj => by
  rw [addL, Nat.zero_add]
  exact h j v hj
theorem lay_of {W : World} (h : laidMetH Tryz.prog Go.Proofs.YtkghbcadnbojgaaGreatDoor.Rows.cutsLengthsRow.laid W) : Lay W := by
  have ht := cells_of_laid h (n := "dailies/timecode.table") (b := 3) (vs := tbl) ⟨by repeat (first | exact List.Mem.head _ | apply List.Mem.tail), by kernel_rfl, by kernel_rfl, ⟨_, rfl, by kernel_rfl⟩, tbl_lit⟩
  have hf := cells_of_laid h (n := "unicode/utf8.first") (b := 1) (vs := fcs) ⟨by repeat (first | exact List.Mem.head _ | apply List.Mem.tail), by kernel_rfl, by kernel_rfl, ⟨_, rfl, by kernel_rfl⟩, first_lit⟩
  have ha := cells_of_laid h (n := "unicode/utf8.acceptRanges") (b := 2) (vs := acs) ⟨by repeat (first | exact List.Mem.head _ | apply List.Mem.tail), by kernel_rfl, by kernel_rfl, ⟨_, rfl, by kernel_rfl⟩, acc_lit⟩
  refine ⟨⟨rd_of hf, rd_of ha⟩, rd_of ht, ?_, hnd_of h⟩
  intro b l hl
  unfold gl2 at hl
  cases hb : Nat.beq b 3 with
  | true =>
    rw [hb] at hl
    have := Nat.eq_of_beq_eq_true hb
    subst this
    exact cells_of_laid h (n := "dailies/timecode.table") ⟨by repeat (first | exact List.Mem.head _ | apply List.Mem.tail), by kernel_rfl, by kernel_rfl, ⟨_, rfl, by kernel_rfl⟩, hl⟩
  | false =>
    rw [hb] at hl
    simp only [cond_false] at hl
    cases hb7 : Nat.beq b 7 with
    | true =>
      rw [hb7] at hl
      have := Nat.eq_of_beq_eq_true hb7
      subst this
      exact cells_of_laid h (n := "internal/strconv.uint64pow10") ⟨by repeat (first | exact List.Mem.head _ | apply List.Mem.tail), by kernel_rfl, by kernel_rfl, ⟨_, rfl, by kernel_rfl⟩, hl⟩
    | false => rw [hb7] at hl; cases hl
section
variable {W : World} {H : Type} {enc : TypeId × Value → H}
theorem dat_string {cs : List Value} (h : Dat enc Tryz.prog W 9 cs) : ∃ l : List UInt8, cs = [st l] ∧ l.length ≤ 9223372036854775807 := by
  obtain ⟨n, y, h⟩ := h
  obtain ⟨s, rfl, _, hs⟩ := DataW.trod_string Tryz.underlying9 h
  refine ⟨s.data.toList, rfl, ?_⟩
  have : s.data.toList.length = s.size := by rw [Array.length_toList]; rfl
  rw [this]
  exact hs
theorem ev_in {r : List Value} (h : Dat enc Tryz.prog W 51 r) : ∃ e : Ev, r = e.cs ∧ e.s.length ≤ 9223372036854775807 ∧ e.n.length ≤ 9223372036854775807 := by
  have c9 : Tryz.prog.cellsOf 9 = 1 := by kernel_rfl
  have c3 : Tryz.prog.cellsOf 3 = 1 := by kernel_rfl
  have c51 : Tryz.prog.cellsOf 51 = 5 := by kernel_rfl
  obtain ⟨hl, hf⟩ := dat_struct Tryz.underlying51 h
  rw [c51] at hl
  have f0 := hf 0 _ rfl
  have f1 := hf 1 _ rfl
  have f2 := hf 2 _ rfl
  have f3 := hf 3 _ rfl
  have f4 := hf 4 _ rfl
  erw [c9] at f0 f4
  erw [c3] at f1 f2 f3
  match r, hl with
  | [x0, x1, x2, x3, x4], _ =>
    obtain ⟨s, e0, hs⟩ := dat_string f0
    obtain ⟨i, e1, _⟩ := dat_int Tryz.underlying3 f1
    obtain ⟨o, e2, _⟩ := dat_int Tryz.underlying3 f2
    obtain ⟨f, e3, _⟩ := dat_int Tryz.underlying3 f3
    obtain ⟨n, e4, hn⟩ := dat_string f4
    have e0 : [x0] = [st s] := e0
    have e1 : [x1] = [Value.int .i64 i] := e1
    have e2 : [x2] = [Value.int .i64 o] := e2
    have e3 : [x3] = [Value.int .i64 f] := e3
    have e4 : [x4] = [st n] := e4
    cases e0
    cases e1
    cases e2
    cases e3
    cases e4
    exact ⟨⟨s, i, o, f, n⟩, rfl, hs, hn⟩
theorem cut_in {base : Nat} {v : Value} (o : Value.okWide Tryz.prog W .any base 30 v) (z : Dat enc Tryz.prog W 30 v.cells.toList) :
    ∃ (t : List UInt8) (r : Int) (A : Option Addr) (c : Nat) (q : List Ev), v = cutV t r A q.length c ∧ Rd W A (q.flatMap Ev.cs) ∧ q.length ≤ c ∧ (A = none → c = 0) ∧ Short q := by
  have o' : ∃ cs, v = .agg cs ∧ cs.size = Tryz.prog.cellsOf 30 ∧ Row.okWide Tryz.prog W .any base 30 cs := by
    unfold Value.okWide at o
    rw [Tryz.underlying30] at o
    exact o
  obtain ⟨cs, rfl, hsz, _⟩ := o'
  have z' : Dat enc Tryz.prog W 30 cs.toList := z
  have c30 : Tryz.prog.cellsOf 30 = 3 := by kernel_rfl
  have c9 : Tryz.prog.cellsOf 9 = 1 := by kernel_rfl
  have c27 : Tryz.prog.cellsOf 27 = 1 := by kernel_rfl
  have c28 : Tryz.prog.cellsOf 28 = 1 := by kernel_rfl
  obtain ⟨hl, hf⟩ := dat_struct Tryz.underlying30 z'
  rw [c30] at hl
  have f0 := hf 0 _ rfl
  have f1 := hf 1 _ rfl
  have f2 := hf 2 _ rfl
  erw [c9] at f0
  erw [c27] at f1
  erw [c28] at f2
  obtain ⟨cs⟩ := cs
  match cs, hl with
  | [x0, x1, x2], _ =>
    obtain ⟨t, e0, _⟩ := dat_string f0
    obtain ⟨r, e1, _⟩ := dat_int Tryz.underlying27 f1
    obtain ⟨A, n, c, e2, hnc, hcm, hAn, rows, hrl, hrow, hrd⟩ := dat_slice Tryz.underlying28 f2
    have e0 : [x0] = [st t] := e0
    have e1 : [x1] = [Value.int .i64 r] := e1
    have e2 : [x2] = [Value.slice A n c] := e2
    cases e0
    cases e1
    cases e2
    obtain ⟨q, rfl, hq, hQ⟩ := choose_rows Ev.cs (fun e => e.s.length ≤ 9223372036854775807 ∧ e.n.length ≤ 9223372036854775807) (rows := rows) (by
      intro r hr
      obtain ⟨e, h1, h2⟩ := ev_in (hrow r hr).2
      exact ⟨e, h1, h2⟩)
    have hqn : q.length = n := by rw [hq, hrl]
    have hflat : (q.map Ev.cs).flatten = q.flatMap Ev.cs := by rw [List.flatMap_def]
    rw [hflat] at hrd
    exact ⟨t, r, A, c, q, by rw [hqn]; rfl, hrd, by omega, hAn, hQ⟩
end
end Go.Sh.YtkghbcadnbojgaaGreatDoor

namespace Go.Sh.YtkghbcadnbojgaaGreatDoor
open Go Go.Proofs Go.RowKit Go.Lib Go.ChangeShapes Go.WideShapes Go.Sh.Ev
set_option linter.unusedVariables false
set_option linter.unusedSimpArgs false
set_option maxRecDepth 100000
theorem quo_len (t : List UInt8) : (quo t).length ≤ 2 * t.length + 2 := by
  have h1 : ∀ l : List UInt8, (esc l).length ≤ 2 * l.length := fun l => by
    induction l with
    | nil => simp [esc]
    | cons c l ih =>
      have e := esc1_len c
      rw [esc] at ih ⊢
      rw [List.flatMap_cons, List.length_append, List.length_cons]
      omega
  have := h1 t
  simp only [quo, List.length_cons, List.length_append, List.length_nil]
  omega
theorem rname_len (r : Int) : (rname r).length ≤ 3 := by
  unfold rname
  repeat' split
  all_goals simp
theorem fname_len (r n : Int) : (fname r n).length ≤ 11 := by
  unfold fname
  split
  · exact Nat.le_of_eq rfl
  · simp
theorem cut_short {t : List UInt8} {r : Int} {q : List Ev} (F : Fine t r q) : ∀ ks ∈ cutTk t r q, ks ≠ [] ∧ ks.length ≤ 10 ∧ ∀ x ∈ ks, x.Fit ∧ x.out.length ≤ 300 := by
  intro ks hks
  obtain ⟨f1, f2⟩ := cut_fit F ks hks
  refine ⟨f1, ?_⟩
  rcases List.mem_cons.mp hks with rfl | hks
  · refine ⟨by simp [listTk], fun k hk => ⟨f2 k hk, ?_⟩⟩
    simp only [listTk, List.mem_cons, List.not_mem_nil, or_false] at hk
    rcases hk with rfl | rfl | rfl
    · decide
    · have := rname_len r
      show (rname r).length ≤ 300
      omega
    · have := quo_len t
      have := F.tl
      show (quo t).length ≤ 300
      omega
  · obtain ⟨e, he, rfl⟩ := List.mem_map.mp hks
    obtain ⟨i, hi⟩ := List.getElem?_of_mem he
    obtain ⟨⟨m0, m1, m2⟩, m3, m4, n1, n2, n3, n4, n5⟩ := evCode_zero (F.ev i e hi) (dayOf_le r)
    obtain ⟨g1, g2, g3⟩ := isName_gd n1
    constructor
    · rw [evTk]
      simp only [List.length_append, List.length_cons, List.length_nil]
      have h1 : (fadeTk e.f).length ≤ 2 := by unfold fadeTk; split <;> simp
      have h2 : (noteTk e.n).length ≤ 1 := by unfold noteTk; split <;> simp
      omega
    · intro k hk
      refine ⟨f2 k hk, ?_⟩
      simp only [evTk, List.mem_append, List.mem_cons, List.not_mem_nil, or_false] at hk
      rcases hk with hk | (rfl | rfl | rfl) | hk
      · unfold fadeTk at hk
        split at hk
        · simp only [List.mem_cons, List.not_mem_nil, or_false] at hk
          rcases hk with rfl | rfl
          · decide
          · have := dec_len e.f.toNat
            show (dec e.f.toNat).length ≤ 300
            omega
        · simp only [List.mem_cons, List.not_mem_nil, or_false] at hk
          subst hk
          decide
      · show e.s.length ≤ 300
        omega
      · have := fname_len r e.i
        show (fname r e.i).length ≤ 300
        omega
      · have := fname_len r e.o
        show (fname r e.o).length ≤ 300
        omega
      · unfold noteTk at hk
        split at hk
        · simp at hk
        · simp only [List.mem_cons, List.not_mem_nil, or_false] at hk
          subst hk
          have := quo_len e.n
          show (quo e.n).length ≤ 300
          omega
theorem blanks_ok {w : World} (L : Lay w) (t : List UInt8) (r : Int) {A : Option Addr} {c : Nat} {q : List Ev} (hr : Rd w A (q.flatMap Ev.cs)) (hc : q.length ≤ c) (hs : Short q) {Af : Option Addr} {cf : Nat} {zs : List Int} (hF : Rd w Af (zs.map (Value.int .i64))) (hz : ∀ z ∈ zs, -9223372036854775808 ≤ z ∧ z ≤ 9223372036854775807) (hzl : zs.length ≤ 9223372036854775807) :
    ∃ w', C 5 #[cutV t r A q.length c, .slice Af zs.length cf] w = some (.bool true, w') ∧ w.grownBy w' none := by
  obtain ⟨w1, hw1⟩ : ∃ w1, w1 = w.alloc (.cells #[st t, .int .i64 r, .slice A q.length c] 30) := ⟨_, rfl⟩
  have B1 : Blk w1 w.heap.size 30 [st t, .int .i64 r, .slice A q.length c] := hw1 ▸ Blk.new w 30 _
  have g1 : w.grownBy w1 none := hw1 ▸ World.grownBy_alloc w _ none
  have b1 : erun Tryz.prog (Instr.box 30 (.agg #[st t, .int .i64 r, .slice A q.length c])) w = some (.pointer (some ⟨w.heap.size, 0, none⟩), w1) := by rw [hw1]; rfl
  have ldc : ∀ {u : World}, Blk u w.heap.size 30 [st t, .int .i64 r, .slice A q.length c] → rrun Tryz.prog (Instr.loadAt 30 (.pointer (some ⟨w.heap.size, 0, none⟩))) u = some (.agg #[st t, .int .i64 r, .slice A q.length c]) := fun b =>
    ld30 (a := ⟨w.heap.size, 0, none⟩) (by rw [addL]; exact b.cell_eq 0 rfl) (by rw [addL]; exact b.cell_eq 1 rfl) (by rw [addL]; exact b.cell_eq 2 rfl)
  obtain ⟨w2, h2, g2⟩ := alive_ok (globOk_grown L.g g1)
  have B2 := B1.grown g2 (by simp)
  have l2 := ldc B2
  have G2 := grown_step g1 g2
  obtain ⟨v, w3, h3, g3, e3⟩ := Check_ok (L.grown G2).u (L.grown G2).t t r (hr.grown G2) hc hs
  have G3 := grown_step G2 g3
  have B3 := B2.grown g3 (by simp)
  have l3 := ldc B3
  simp only [cutV] at h3 ⊢
  cases hck : ckCode t r q with
  | some p =>
    rw [hck] at e3
    obtain ⟨k, e⟩ := p
    obtain ⟨b, rfl, _⟩ := e3
    exact ⟨w3, f5.run rfl (by simp [f5, b1, h2, l2, h3]), G3⟩
  | none =>
    rw [hck] at e3
    have e3' : v = .nilIface := e3
    subst e3'
    have F := ck_none hck
    have hql := F.ql
    obtain ⟨A4, c4, w4, h4, g4, H4⟩ := lines_ok (L.grown G3) (c0 := c) F (hr.grown G3)
    have G4 := grown_step G3 g4
    have hcl : (cutTk t r q).length = q.length + 1 := by simp [cutTk]
    obtain ⟨P, w5, h5, R5, g5⟩ := filled_ok (c := c4) (cf := cf) H4 (hF.grown G4) hz hzl (by omega) (cut_short F)
    rw [hcl] at h5
    have G5 := grown_step G4 g5
    simp only [cutV] at h4
    have hsl := fun ty => str_len (P := Tryz.prog) Tryz.underlying9 ty (txtOf P)
    by_cases hlong : 20000 < (txtOf P).length
    · have hl' : (20000 : Int) < (txtOf P).length := by omega
      refine ⟨w5, f5.run rfl ?_, G5⟩
      obtain ⟨TX, hTX⟩ : ∃ T, T = txtOf P := ⟨_, rfl⟩
      rw [← hTX] at h5 hl'
      simp only [← hTX] at hsl
      simp [f5, b1, h2, l2, h3, l3, h4, h5, hsl, hl']
    · have hl' : ¬ (20000 : Int) < (txtOf P).length := by omega
      have L5 := L.grown G5
      have s0 : Sat w5 emp w5 := ⟨Grew.refl _ _, ⟨fun _ => False, rfl⟩⟩
      obtain ⟨A6, c6, w6, h6, x6⟩ := parse_good L5 s0 F R5 (by omega)
      simp only [cutV] at h6
      have x7 := x6.newBlk 30 [st [], .int .i64 0, .slice none 0 0]
      have a7 := alloc30 w6
      obtain ⟨w7, hw7⟩ : ∃ w7, w7 = w6.alloc (.cells [st [], .int .i64 0, .slice none 0 0].toArray 30) := ⟨_, rfl⟩
      rw [← hw7] at x7 a7
      obtain ⟨w8, h8, x8⟩ := put_blk x7 inf30 (v := .agg #[st t, .int .i64 r, .slice A6 q.length c6]) (cs' := [st t, .int .i64 r, .slice A6 q.length c6]) rfl (by rw [size30]; rfl) rfl (by simp [Value.oneCell'])
      have l8 := ld_cut x8
      have g58 := grown_of x8
      have B8 := (((B3.grown g4 (by simp)).grown g5 (by simp)).grown g58 (by simp))
      have l8b := ldc B8
      have rd8 := Rd.own (x8.right).row
      have G8 := grown_step G5 g58
      obtain ⟨w9, h9, g9⟩ := same_ok (t := t) (r := r) (c := c6) (d := c) rd8 (hr.grown G8) (by omega)
      simp only [cutV] at h9
      refine ⟨w9, f5.run rfl ?_, grown_step G8 g9⟩
      obtain ⟨TX, hTX⟩ : ∃ T, T = txtOf P := ⟨_, rfl⟩
      rw [← hTX] at h5 h6 hl'
      simp only [← hTX] at hsl
      simp [f5, b1, h2, l2, h3, l3, h4, h5, hsl, hl', h6, a7, h8, l8, l8b, h9]
theorem blanks_walk (W : World) {H : Type} {enc : TypeId × Value → H} {base : Nat} (v0 : Value) (o0 : Value.okWide Tryz.prog W .any base 30 v0) (z0 : Dat enc Tryz.prog W 30 v0.cells.toList)
    (a1 : Option Addr) (len1 cap1 : Nat) (z1 : Dat enc Tryz.prog W 42 (Value.slice a1 len1 cap1).cells.toList) (y1 : len1 * 8 ≤ 140737488351232) (hL : laidMetH Tryz.prog Go.Proofs.YtkghbcadnbojgaaGreatDoor.Rows.cutsBlanksRow.laid W) :
    Calls Tryz.prog 5 #[v0, .slice a1 len1 cap1] W fun e w' => e = .returned (.bool true) ∧ Below W.heap.size W w' := by
  obtain ⟨t, r, A, c, q, rfl, hr, hc, hn, hs⟩ := cut_in o0 z0
  have z1' : Dat enc Tryz.prog W 42 [.slice a1 len1 cap1] := z1
  obtain ⟨A', n', c', l, he, hln, h1, h2, h3, h4, h5⟩ := dat_ints Tryz.underlying42 Tryz.underlying3 z1'
  cases he
  subst hln
  obtain ⟨w', h, G⟩ := blanks_ok (lay_of hL) t r hr hc hs (cf := cap1) h5 (fun z hz => by
    have := h4 z hz
    simp [Lit.wf, IntKind.min, IntKind.max, IntKind.signed, IntKind.bits] at this
    omega) (by omega)
  exact (calls_of_run (by kernel_rfl) er_ok h).mono fun e v ⟨h1, h2⟩ => ⟨h1, h2 ▸ below_of_grown G⟩
end Go.Sh.YtkghbcadnbojgaaGreatDoor

