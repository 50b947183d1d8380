/- MediumFull: the law's function answers true. Conditions: its arguments are an int and a list of bytes. -/
import Derived.Test.YtokpgallfmpmkaaMD
namespace Go.Sh.Ytokpgallfmpmkaa
open Go Go.Proofs Go.RowKit
set_option linter.unusedVariables false
set_option linter.unusedSimpArgs false
theorem made_bytes (n : Nat) : (madeCells ((.int .u8 0) : Value).cells (n * 1)).toList = bv (List.replicate n 0) := by
  simp [toList_madeCells_one, Value.cells, bv]
theorem own_len0 {w : World} {base : Nat} (hb : base ≤ w.heap.size) : Rd w none (bv []) := rfl
theorem full_ok (o : Int) (ho : -9223372036854775808 ≤ o) (ho' : o ≤ 9223372036854775807) {W : World} {A : Option Addr} {n c : Nat} {l : List UInt8} (hl : l.length = n) (hc : n ≤ c) (hr : Rd W A (bv l)) (hnil : A = none → c = 0) (hn : n ≤ 140737488351232) :
    ∃ w', C 3 #[.int .i64 o, .slice A n c] W = some (.bool true, w') ∧ W.grownBy w' none := by
  obtain ⟨w1, h1, g1⟩ := shown_ok W
  obtain ⟨m, hm, x, hx, hrx⟩ : ∃ (m : Nat), (m = min n 1000) ∧ ∃ x : List UInt8, x.length = m ∧ Rd W A (bv x) := ⟨min n 1000, rfl, l.take (min n 1000), by simp; omega, by rw [bv_take]; exact hr.take _⟩
  obtain ⟨N, hN⟩ : ∃ N : Nat, N = 268435457 := ⟨_, rfl⟩
  obtain ⟨Q, hQ⟩ : ∃ Q : Nat, Q = 268435456 := ⟨_, rfl⟩
  obtain ⟨w2, h2, o2, g2⟩ := mk22 (w := w1) w1.heap.size N (by omega) (by simp [maxLen]; omega) (Nat.le_refl _)
  rw [made_bytes] at o2
  have G2 : W.grownBy w2 none := grown_trans g1 g2 (by simp)
  have hrx2 := hrx.grown G2
  have h3 := load_full (some ⟨w1.heap.size, 0, none⟩) N N (by omega) w2
  obtain ⟨M, B4, w4, h4, m4, g4, k4⟩ := load_ok (w := w2) (base := w2.heap.size) (c := c) hx hrx2 hnil (by omega) (Nat.le_refl _)
  obtain ⟨w5, h5, m5, g5⟩ := arm_ok m4 1 3 (by omega) (by omega)
  have G5 := grown_fp g4 m4 g5
  have e1 : IntKind.i64.wrap (268435456 - (m : Int)) = 268435456 - m := wrap_i64 (by omega) (by omega)
  have e2 : IntKind.i64.wrap (268435456 - (m : Int) + 1) = 268435456 - m + 1 := wrap_i64 (by omega) (by omega)
  obtain ⟨q, hq⟩ : ∃ q : Nat, q = N - m := ⟨_, rfl⟩
  have s1 := sl22 (some ⟨w1.heap.size, 0, none⟩) N N none (some (.int .i64 (268435456 - (m : Int) + 1))) none 0 q N (by
    have := bounds_hi (P := Try.prog) N N .i64 (268435456 - (m : Int) + 1) (by omega) (by omega)
    rw [this, show (268435456 - (m : Int) + 1).toNat = q by omega])
  obtain ⟨w6, h6, m6, g6⟩ := append_full m5 (some ⟨w1.heap.size, 0, none⟩) q N (by omega) (by omega)
  have G6 := grown_fp G5 m5 g6
  obtain ⟨w7, h7, m7, g7⟩ := size_ok m6
  have G7 := grown_fp G6 m6 g7
  obtain ⟨w8, h8, m8, g8⟩ := dead_ok m7
  have G8 := grown_fp G7 m7 g8
  obtain ⟨B9, w9, h9, m9, g9, k9⟩ := append_dies m8 (A := A) (c := c) hx (by omega) (Rd.fp hrx2 G8 m8) hnil (by omega) (by omega) G8.size
  have G9 := grown_fp G8 m8 g9
  obtain ⟨w10, h10, m10, g10⟩ := append_dead m9 (.slice (some ⟨w1.heap.size, 0, none⟩) N N)
  have G10 := grown_fp G9 m9 g10
  obtain ⟨w11, h11, m11, g11⟩ := dead_ok m10
  have G11 := grown_fp G10 m10 g11
  obtain ⟨w12, h12, m12, g12⟩ := size_ok m11
  have G12 := grown_fp G11 m11 g12
  obtain ⟨w13, h13, m13, g13⟩ := revive_ok m12
  have G13 := grown_fp G12 m12 g13
  obtain ⟨r, h14, r0, r1⟩ := place_ok o 256 (by omega) (by omega) ho ho' w13
  have mn := min3 3 (m : Int)
  obtain ⟨u, hu⟩ : ∃ u : Nat, u = min 3 m := ⟨_, rfl⟩
  have mn' : (if (m : Int) < 3 then (m : Int) else 3) = u := by split <;> omega
  rw [mn'] at mn
  have e3 : IntKind.i64.wrap ((m : Int) + u) = m + u := wrap_i64 (by omega) (by omega)
  have hlen : ((x ++ x.take (3 : Int).toNat).length : Int) = m + u := by simp; omega
  rw [hlen] at h12
  have hNi : (N : Int) = 268435457 := by omega
  rw [hNi] at h2
  rw [hx] at h7
  have hcut : (n ≤ 1000 ∧ m = n) ∨ (1000 < n ∧ m = 1000) := by omega
  have s0 := sl22 A n c none (some (.int .i64 1000)) none 0 1000 c
  by_cases hr0 : 0 < r
  · obtain ⟨B15, w15, h15, m15, g15, k15⟩ := append_ok m13 (A := A) (c := c) hx (Rd.fp hrx2 G13 m13) hnil (by simp; omega) (by omega) (by omega) (by omega) G13.size
    have G15 := grown_fp G13 m13 g15
    obtain ⟨w16, h16, m16, g16⟩ := size_ok m15
    have G16 := grown_fp G15 m15 g16
    have e4 : IntKind.i64.wrap ((m : Int) + u + m) = m + u + m := wrap_i64 (by omega) (by omega)
    have hlen2 : ((x ++ x.take (3 : Int).toNat ++ x).length : Int) = m + u + m := by simp; omega
    rw [hlen] at h15
    rw [hlen2] at h16
    refine ⟨w16, f3.run rfl ?_, grown_trans G2 G16 (by simp)⟩
    rcases hcut with ⟨hk, rfl⟩ | ⟨hk, rfl⟩
    · simp (disch := omega) [f3, h1, lt_f, lt_t, h2, h3, h4, h5, e1, e2, s1, h6, h7, h8, h9, h10, mn, e3, h11, h12, bool_not, h13, h14, h15, h16, e4]
    · have s0 := s0 (by
        have := bounds_hi (P := Try.prog) n c .i64 1000 (by omega) (by omega)
        rw [this]; rfl)
      simp at s0 h4 h7 h9 e1 e2 s1 mn e3 h12 h15 h16 e4
      simp (disch := omega) [f3, h1, lt_f, lt_t, s0, h2, h3, h4, h5, e1, e2, s1, h6, h7, h8, h9, h10, mn, e3, h11, h12, bool_not, h13, h14, h15, h16, e4]
  · have hr00 : r = 0 := by omega
    subst hr00
    have hm13 : Rd w13 (some ⟨w1.heap.size, 0, none⟩) (bv (List.replicate Q 0)) := by
      have := (Rd.owned o2).grown G13
      have h' := this.take Q
      rw [← bv_take, List.take_replicate] at h'
      rwa [Nat.min_eq_left (by omega)] at h'
    have s2 := sl22 (some ⟨w1.heap.size, 0, none⟩) N N none (some (.int .i64 268435456)) none 0 Q N (by
      have := bounds_hi (P := Try.prog) N N .i64 268435456 (by omega) (by omega)
      rw [this, show (268435456 : Int).toNat = Q by omega])
    obtain ⟨M', B15, w15, h15, m15, g15, k15⟩ := load_ok (w := w13) (base := w2.heap.size) (c := N) (List.length_replicate ..) hm13 (by simp) (by omega) G13.size
    have G15 : w2.grownBy w15 none := grown_trans G13 g15 (by simp)
    have m16 := m15.grew (grew_new (S := fun _ => False) (World.grownBy_alloc w15 (.cells #[.int .u8 1] 5) none)) (fun _ _ h => h)
    have G16 : w2.grownBy (w15.alloc (.cells #[.int .u8 1] 5)) none := grown_trans G15 (World.grownBy_alloc w15 _ none) (by simp)
    obtain ⟨w17, h17, m17, g17⟩ := append_full m16 (some ⟨w15.heap.size, 0, none⟩) 1 1 (by simp; omega) (by simp; omega)
    have G17 := grown_fp G16 m16 g17
    obtain ⟨B18, w18, h18, m18, g18, k18⟩ := append_ok m17 (A := none) (n := 0) (c := 0) (x := []) rfl (fun _ _ => rfl) (fun _ => rfl) (by simp; omega) (by omega) (by omega) (by omega) G17.size
    have G18 := grown_fp G17 m17 g18
    obtain ⟨w19, h19, m19, g19⟩ := size_ok m18
    have G19 := grown_fp G18 m18 g19
    have hQi : (Q : Int) = 268435456 := by omega
    refine ⟨w19, f3.run rfl ?_, grown_trans G2 G19 (by simp)⟩
    simp only [List.append_nil, List.length_replicate, hQi] at h18 h19
    rcases hcut with ⟨hk, rfl⟩ | ⟨hk, rfl⟩
    · simp (disch := omega) [f3, h1, lt_f, lt_t, h2, h3, h4, h5, e1, e2, s1, h6, h7, h8, h9, h10, mn, e3, h11, h12, bool_not, h13, h14, s2, h15, bs22_1, h17, h18, h19]
    · have s0 := s0 (by
        have := bounds_hi (P := Try.prog) n c .i64 1000 (by omega) (by omega)
        rw [this]; rfl)
      simp at s0 h4 h7 h9 e1 e2 s1 mn e3 h12
      simp (disch := omega) [f3, h1, lt_f, lt_t, s0, h2, h3, h4, h5, e1, e2, s1, h6, h7, h8, h9, h10, mn, e3, h11, h12, bool_not, h13, h14, s2, h15, bs22_1, h17, h18, h19]

theorem full_walk (W : World) (o : Int) (ho : (Lit.int .i64 o).wf = true) (a : Option Addr) (len cap : Nat) (zs : List Int) (hw : IsRow .u8 W a len cap zs) (hy : len * 1 ≤ 140737488351232) : Calls Try.prog 3 #[.int .i64 o, .slice a len cap] W fun e w' => e = .returned (.bool true) ∧ Below W.heap.size W w' := by
  obtain ⟨x0, x1⟩ := wf_i64 ho
  obtain ⟨l, hl, hr, hnil, hc⟩ := hw.bytes
  obtain ⟨w', h, g⟩ := full_ok o x0 x1 hl hc hr hnil (by omega)
  exact (calls_of_run (by kernel_rfl) mu_ok h).mono fun e v ⟨h1, h2⟩ => ⟨h1, h2 ▸ below_of_grown g⟩
end Go.Sh.Ytokpgallfmpmkaa
