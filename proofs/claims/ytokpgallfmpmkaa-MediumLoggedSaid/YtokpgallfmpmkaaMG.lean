/- MediumLogged: the law's function answers true. Conditions: its arguments are a list of bytes and a list of asks. -/
import Derived.Test.YtokpgallfmpmkaaMD
import Derived.Test.YtokpgallfmpmkaaShRows
namespace Go.Sh.Ytokpgallfmpmkaa
open Go Go.Proofs Go.RowKit
set_option linter.unusedVariables false
set_option maxRecDepth 100000
set_option linter.unusedSimpArgs false
/-- asks, as cells -/
def ac (q : List (Int × Int × Bool)) : List Value := q.flatMap fun x => [.int .i64 x.1, .int .i64 x.2.1, .bool x.2.2]
theorem ac_get {q : List (Int × Int × Bool)} {i : Nat} (h : i < q.length) : (ac q)[i * 3]? = some (.int .i64 (q[i]).1) ∧ (ac q)[i * 3 + 1]? = some (.int .i64 (q[i]).2.1) ∧ (ac q)[i * 3 + 2]? = some (.bool (q[i]).2.2) := by
  induction q generalizing i with
  | nil => simp at h
  | cons p r ih =>
    cases i with
    | zero => exact ⟨rfl, rfl, rfl⟩
    | succ i =>
      have e : (i + 1) * 3 = i * 3 + 1 + 1 + 1 := by omega
      rw [e]
      exact ih (i := i) (by simpa using h)
theorem im_size (x : Value) (w : World) : imethod Try.prog (.iface 82 x) "Size" w = some (94, x) := id (by kernel_rfl)
theorem im_read (x : Value) (w : World) : imethod Try.prog (.iface 82 x) "Read" w = some (93, x) := id (by kernel_rfl)

/-- what the loop keeps -/
structure Keep (W w : World) (M P : Nat) (B V : Value) (l : List UInt8) (h : Nat) (L : Value) (g : List (Int × Int)) : Prop where
  med : Med w W.heap.size M 0 B l false 0 0 L g
  row : w.ownsRow W.heap.size 40 2 V g.length (sc g)
  dis : ∀ k, V.ownBlock = some k → ¬ fp M B L k
  pc : Blk w P 84 [.pointer (some ⟨M, 0, none⟩), .int .i64 h, .int .i64 ((l.length - h : Nat) : Int)]
  hP : W.heap.size ≤ P
  gr : W.grownBy w none
section
variable {W w : World} {M P : Nat} {B V : Value} {l : List UInt8} {h : Nat} {L : Value} {g : List (Int × Int)}
theorem Keep.step (k : Keep W w M P B V l h L g) {w' : World} (m : Med w' W.heap.size M 0 B l false 0 0 L g) (hg : Grew (fp M B L) w w') : Keep W w' M P B V l h L g :=
  ⟨m, own_grew k.row hg k.dis, k.dis, k.pc.grew hg (k.med.neP k.pc), k.hP, grown_fp k.gr k.med hg⟩
/-- one more, in both -/
theorem Keep.more (k : Keep W w M P B V l h L g) {w1 : World} {L' : Value} {x y : Int} (m : Med w1 W.heap.size M 0 B l false 0 0 L' (g ++ [(x, y)])) (hg : Grew (fp M B L) w w1) (hk : ∀ j, fp M B L' j → fp M B L j ∨ w.heap.size ≤ j) (hn : g.length < 8000000000000) :
    ∃ V' w2, erun Try.prog (Builtin.append_ #[41, 41] 41 #[V, .slice (some ⟨w1.heap.size, 0, none⟩) 1 1]) (w1.alloc (.cells #[.int .i64 x, .int .i64 y] 40)) = some (V', w2) ∧ Keep W w2 M P B V' l h L' (g ++ [(x, y)]) := by
  obtain ⟨W2, hW2⟩ : ∃ W2, W2 = w1.alloc (.cells #[.int .i64 x, .int .i64 y] 40) := ⟨_, rfl⟩
  have ga : w1.grownBy W2 none := hW2 ▸ World.grownBy_alloc w1 _ none
  have hsz : W2.heap.size = w1.heap.size + 1 := by rw [hW2]; simp
  have r1 : Rd W2 (some ⟨w1.heap.size, 0, none⟩) (sc [(x, y)]) := hW2 ▸ lit_rd (cs := sc [(x, y)])
  have G1 := grown_fp k.gr k.med hg
  obtain ⟨V', w3, h3, o3, g3, k3⟩ := e_append2 (P := Try.prog) (ty := 41) Try.underlying41 inf40 zero40 size40 bytes40 rfl (by decide) (own_new (own_grew k.row hg k.dis) ga) (A := some ⟨w1.heap.size, 0, none⟩) (m := 1) (c := 1) (news := sc [(x, y)]) (by simp [sc_length]) r1 (fun h => by cases h) (sc_one _) (by simp [maxLen]; omega) (by omega) (Nat.le_trans G1.size ga.size)
  rw [← sc_append] at o3
  have dis' : ∀ j, V.ownBlock = some j → ¬ fp M B L' j := fun j hj hf => by
    rcases hk j hf with h | h
    · exact k.dis j hj h
    · have := (k.row.lt j hj).2; omega
  have m2 := m.grew (grew_new (S := fun _ => False) ga) (fun _ _ h => h)
  have m3 := m2.grew (grew_of (S := fun j => V.ownBlock = some j) g3 fun j hj => .inl hj) (fun j hf hj => dis' j hj hf)
  have p2 := ((k.pc.grew hg (k.med.neP k.pc)).grown ga (by simp)).grown g3 (own_blk_ne (own_new (own_grew k.row hg k.dis) ga) ((k.pc.grew hg (k.med.neP k.pc)).grown ga (by simp)) (by decide))
  refine ⟨V', w3, hW2 ▸ h3, m3, by simpa using o3, fun j hj hf => ?_, p2, k.hP, ?_⟩
  · rcases k3 j hj with h | h
    · exact dis' j h hf
    · have := (m.fpge j hf).2; omega
  · refine grown_trans (grown_trans G1 ga (by simp)) g3 fun j hj => ?_
    exact (k.row.lt j hj).1
/-- what one ask does, whomever it goes to -/
theorem Keep.ask (k : Keep W w M P B V l h L g) (hh : h ≤ l.length) (hl : l.length ≤ 268435456) (hg : g.length ≤ 8000000000000) (x y : Int) (pc : Bool) :
    ∃ v L' e w1 g', (if pc then C 93 #[.pointer (some ⟨P, 0, none⟩), .int .i64 x, .int .i64 y] w else C 16 #[.pointer (some ⟨M, 0, none⟩), .int .i64 x, .int .i64 y] w) = some (.tuple #[v, .int .i64 e], w1) ∧
      Med w1 W.heap.size M 0 B l false 0 0 L' g' ∧ Grew (fp M B L) w w1 ∧ (∀ j, fp M B L' j → fp M B L j ∨ w.heap.size ≤ j) ∧
      ((0 ≤ x ∧ 0 ≤ y ∧ x ≤ (if pc then l.length - h else l.length : Nat) ∧ y ≤ (if pc then l.length - h else l.length : Nat) - x ∧ e = 0 ∧ g' = g ++ [((if pc then (h : Int) else 0) + x, y)]) ∨
       (¬ (0 ≤ x ∧ 0 ≤ y ∧ x ≤ (if pc then l.length - h else l.length : Nat) ∧ y ≤ (if pc then l.length - h else l.length : Nat) - x) ∧ e = 151 ∧ g' = g ∧ L' = L)) := by
  cases pc with
  | false =>
    by_cases hin : 0 ≤ x ∧ 0 ≤ y ∧ x ≤ l.length ∧ y ≤ l.length - x
    · obtain ⟨x, rfl⟩ := Int.eq_ofNat_of_zero_le hin.1
      obtain ⟨y, rfl⟩ := Int.eq_ofNat_of_zero_le hin.2.1
      obtain ⟨v, L', w1, h1, m1, g1, k1, _⟩ := read_in k.med x y (by omega) hl hg k.gr.size
      exact ⟨v, L', 0, w1, _, h1, m1, g1, k1, .inl ⟨hin.1, hin.2.1, hin.2.2.1, hin.2.2.2, rfl, by simp⟩⟩
    · obtain ⟨w1, h1, m1, g1⟩ := read_out k.med x y hin hl
      exact ⟨_, L, 151, w1, g, h1, m1, g1, fun _ h => .inl h, .inr ⟨hin, rfl, rfl, rfl⟩⟩
  | true =>
    by_cases hin : 0 ≤ x ∧ 0 ≤ y ∧ x ≤ (l.length - h : Nat) ∧ y ≤ (l.length - h : Nat) - x
    · obtain ⟨x, rfl⟩ := Int.eq_ofNat_of_zero_le hin.1
      obtain ⟨y, rfl⟩ := Int.eq_ofNat_of_zero_le hin.2.1
      obtain ⟨v, L', w1, h1, m1, g1, k1, _⟩ := pread_in k.med k.pc x y (by omega) (by omega) hl hg k.gr.size
      exact ⟨v, L', 0, w1, _, h1, m1, g1, k1, .inl ⟨hin.1, hin.2.1, hin.2.2.1, hin.2.2.2, rfl, by simp⟩⟩
    · obtain ⟨w1, h1, m1, g1⟩ := pread_out k.med k.pc x y hin (by omega)
      exact ⟨_, L, 151, w1, g, h1, m1, g1, fun _ h => .inl h, .inr ⟨hin, rfl, rfl, rfl⟩⟩
/-- what is asked besides changes nothing -/
theorem Keep.rest (k : Keep W w M P B V l h L g) (hl : l.length ≤ 268435456) : ∃ (n1 : Int) (b2 : Bool) (n3 : Int) (v4 : Value) (w1 w2 w4 : World), C 11 #[.pointer (some ⟨M, 0, none⟩)] w = some (.int .i64 n1, w1) ∧ C 12 #[.pointer (some ⟨M, 0, none⟩)] w1 = some (.bool b2, w2) ∧
    C 94 #[.pointer (some ⟨P, 0, none⟩)] w2 = some (.int .i64 n3, w2) ∧ C 17 #[.pointer (some ⟨M, 0, none⟩)] w2 = some (v4, w4) ∧ Keep W w4 M P B V l h L g := by
  obtain ⟨w1, h1, m1, g1⟩ := size_ok k.med
  have k1 := k.step m1 g1
  obtain ⟨w2, h2, m2, g2⟩ := dead_ok k1.med
  have k2 := k1.step m2 g2
  have h3 := psize_ok k2.pc
  obtain ⟨v4, w4, h4, m4, g4, _⟩ := bytes_ok k2.med hl
  exact ⟨_, _, _, v4, w1, w2, w4, h1, h2, h3, h4, k2.step m4 g4⟩
end
/-- the loop -/
theorem logged_l0 {W : World} {M P : Nat} {B : Value} {l : List UInt8} {h : Nat} (hh : h ≤ l.length) (hl : l.length ≤ 268435456) (A0 : Option Addr) (c0 : Nat) {A : Option Addr} {c : Nat} {q : List (Int × Int × Bool)} (hr : Rd W A (ac q)) (hq : q.length ≤ 6000000000000) (hwf : ∀ x ∈ q, (Lit.int .i64 x.1).wf = true ∧ (Lit.int .i64 x.2.1).wf = true) :
    ∀ (d : Nat) (vs : List Value) (w : World), (∃ (i : Nat) (L V : Value) (g : List (Int × Int)), vs = [.slice A0 l.length c0, .slice A q.length c, .pointer (some ⟨M, 0, none⟩), .int .i64 h, .iface 82 (.pointer (some ⟨P, 0, none⟩)), V, .int .i64 i] ∧ i + d = q.length ∧ g.length ≤ i ∧ Keep W w M P B V l h L g) →
    ∃ r, iter (f4.l0 C) vs w = some r ∧ ∃ L V g w', r = .exit 0 [.pointer (some ⟨M, 0, none⟩), V] w' ∧ g.length ≤ q.length ∧ Keep W w' M P B V l h L g := by
  refine iter_down _ _ ?_
  rintro d vs w ⟨i, L, V, g, rfl, hi, hgi, k⟩
  cases d with
  | zero =>
    obtain rfl : i = q.length := by omega
    exact .inr ⟨_, by simp [f4.l0], ⟨L, V, g, w, rfl, hgi, k⟩, by simp⟩
  | succ d =>
    have hlt : i < q.length := by omega
    obtain ⟨c1, c2, c3⟩ := ac_get hlt
    obtain ⟨w1x, w2x⟩ := hwf _ (List.getElem_mem hlt)
    obtain ⟨⟨x, y, pc⟩, hx⟩ : ∃ p, p = q[i] := ⟨_, rfl⟩
    rw [← hx] at c1 c2 c3 w1x w2x
    simp only at c1 c2 c3 w1x w2x
    obtain ⟨x0, x1⟩ := wf_i64 w1x
    obtain ⟨y0, y1⟩ := wf_i64 w2x
    have e1 : IntKind.i64.wrap ((i : Int) + 1) = ((i + 1 : Nat) : Int) := (wrap_i64 (by omega) (by omega)).trans (by omega)
    have e2 : IntKind.i64.wrap ((l.length : Int) - h) = ((l.length - h : Nat) : Int) := (wrap_i64 (by omega) (by omega)).trans (by omega)
    cases A with
    | none => have h0 : ac q = [] := hr; rw [h0] at c1; simp at c1
    | some a =>
      have r2 := hr.grown k.gr
      have i1 := ix34 a q.length c .i64 i (by omega) (by omega)
      simp only [Int.toNat_natCast] at i1
      have q1 : w.cell? (a.add (i * 3)) = some (.int .i64 x) := r2 _ _ c1
      have q2 : w.cell? ((a.add (i * 3)).add 1) = some (.int .i64 y) := by rw [Addr.add_add]; exact r2 _ _ c2
      have q3 : w.cell? ((a.add (i * 3)).add 2) = some (.bool pc) := by rw [Addr.add_add]; exact r2 _ _ c3
      obtain ⟨v, L', e, w1, g', h1, m1, g1, k1, hin⟩ := k.ask hh hl (by omega) x y pc
      obtain ⟨s, hs⟩ : ∃ s : Nat, s = (if pc then l.length - h else l.length) := ⟨_, rfl⟩
      have hsl : s ≤ 268435456 := by rw [hs]; split <;> omega
      rw [← hs] at hin
      rcases hin with ⟨a1, a2, a3, a4, rfl, rfl⟩ | ⟨hno, rfl, rfl, rfl⟩
      · obtain ⟨V', w3, h3, k3⟩ := k.more m1 g1 k1 (by omega)
        obtain ⟨n1, b2, n3, v4, w4, w5, w6, t1, t2, t3, t4, k6⟩ := k3.rest hl
        have e3 : IntKind.i64.wrap ((s : Int) - x) = s - x := wrap_i64 (by omega) (by omega)
        refine .inl ⟨d, _, w6, by omega, ?_, ⟨i + 1, L', V', _, rfl, by omega, by simp; omega, k6⟩⟩
        cases pc with
        | false =>
          simp at h1 hs
          subst hs
          have e4 : IntKind.i64.wrap (0 + x) = 0 + x := wrap_i64 (by omega) (by omega)
          simp at h3 e4
          simp (disch := omega) [f4.l0, lt_t, le_t, i1, q1, q2, q3, e1, h1, e3, e4, build40, bs41_1, h3, t1, t2, t3, t4, im_size]
        | true =>
          simp at h1 hs
          have e4 : IntKind.i64.wrap (h + x) = h + x := wrap_i64 (by omega) (by omega)
          simp at h3
          rw [← hs] at e2
          simp (disch := omega) [f4.l0, lt_t, le_t, i1, q1, q2, q3, e1, e2, im_read, h1, e3, e4, build40, bs41_1, h3, t1, t2, t3, t4, im_size]
      · have k1' := k.step m1 g1
        obtain ⟨n1, b2, n3, v4, w4, w5, w6, t1, t2, t3, t4, k6⟩ := k1'.rest hl
        refine .inl ⟨d, _, w6, by omega, ?_, ⟨i + 1, L', V, _, rfl, by omega, by omega, k6⟩⟩
        have cases4 : x < 0 ∨ (0 ≤ x ∧ y < 0) ∨ (0 ≤ x ∧ 0 ≤ y ∧ (s : Int) < x) ∨ (0 ≤ x ∧ 0 ≤ y ∧ x ≤ s ∧ (s : Int) - x < y) := by omega
        have e3 : 0 ≤ x → IntKind.i64.wrap ((s : Int) - x) = s - x := fun _ => wrap_i64 (by omega) (by omega)
        cases pc with
        | false =>
          simp at h1 hs
          subst hs
          rcases cases4 with b1 | ⟨b1, b2⟩ | ⟨b1, b2, b3⟩ | ⟨b1, b2, b3, b4⟩ <;>
            simp (disch := omega) [f4.l0, lt_t, le_t, le_f, i1, q1, q2, q3, e1, h1, e3, t1, t2, t3, t4, im_size]
        | true =>
          simp at h1 hs
          rw [← hs] at e2
          rcases cases4 with b1 | ⟨b1, b2⟩ | ⟨b1, b2, b3⟩ | ⟨b1, b2, b3, b4⟩ <;>
            simp (disch := omega) [f4.l0, lt_t, le_t, le_f, i1, q1, q2, q3, e1, e2, im_read, h1, e3, t1, t2, t3, t4, im_size]

theorem logged_ok {W : World} {A0 : Option Addr} {n c0 : Nat} {l : List UInt8} (hl : l.length = n) (hr0 : Rd W A0 (bv l)) (hnil : A0 = none → c0 = 0) (hn : n ≤ 140737488351232)
    {A : Option Addr} {c : Nat} {q : List (Int × Int × Bool)} (hr : Rd W A (ac q)) (hq : q.length ≤ 6000000000000) (hwf : ∀ x ∈ q, (Lit.int .i64 x.1).wf = true ∧ (Lit.int .i64 x.2.1).wf = true) :
    ∃ w', C 4 #[.slice A0 n c0, .slice A q.length c] W = some (.bool true, w') ∧ W.grownBy w' none := by
  obtain ⟨w1, h1, g1⟩ := shown_ok W
  by_cases hbig : 268435456 < n
  · have h2 := load_full A0 n c0 hbig w1
    refine ⟨w1, f4.run rfl ?_, g1⟩
    simp (disch := omega) [f4, h1, h2, lt_t]
  · obtain ⟨M, B, w2, h2, m2, g2, k2⟩ := load_ok (w := w1) (base := W.heap.size) (c := c0) hl (hr0.grown g1) hnil (by omega) g1.size
    have G2 : W.grownBy w2 none := grown_trans g1 g2 (by simp)
    obtain ⟨h, hh⟩ : ∃ h : Nat, h = n / 2 := ⟨_, rfl⟩
    have eq2 : (n : Int).tdiv 2 = h := by rw [Int.tdiv_eq_ediv_of_nonneg (by omega)]; omega
    have e2 : IntKind.i64.wrap ((n : Int) - h) = ((n - h : Nat) : Int) := (wrap_i64 (by omega) (by omega)).trans (by omega)
    have e2' : IntKind.i64.wrap (h : Int) = h := wrap_i64 (by omega) (by omega)
    obtain ⟨P, w3, h3, m3, g3, b3, p3⟩ := piece_ok m2 h (n - h) (by omega) (by omega)
    have k3 : Keep W w3 M P B (.slice none 0 0) l h (.slice none 0 0) [] := ⟨m3, World.ownsRow_nil _ _ _ _, (fun k hk => by cases hk), (by rw [hl]; exact b3), Nat.le_trans G2.size p3, grown_fp G2 m2 g3⟩
    subst hl
    obtain ⟨r, h4, L, V, g, w4, rfl, hg, k4⟩ := logged_l0 (by omega) (by omega) A0 c0 (c := c) hr hq hwf q.length _ w3 ⟨0, _, _, [], rfl, by omega, by simp, k3⟩
    obtain ⟨v5, w5, h5, m5, g5, O5⟩ := log_ok k4.med (by omega)
    have k5 := k4.step m5 g5
    obtain ⟨A5, c5, rfl, _, r5, _, _⟩ := O5.out
    obtain ⟨AV, cV, rfl, _, _⟩ := own_form k5.row
    obtain ⟨w6, h6, g6⟩ := same_ok (c := c5) (c' := cV) r5 (Rd.owned k5.row) (by omega)
    have m6 := k5.med.grew (grew_new (S := fun _ => False) g6) (fun _ _ h => h)
    have G6 := grown_trans k5.gr g6 (by simp)
    obtain ⟨w7, h7, m7, g7⟩ := forget_ok m6
    have G7 := grown_fp G6 m6 g7
    obtain ⟨v8, w8, h8, m8, g8, O8⟩ := log_ok m7 (by simp)
    have G8 := grown_fp G7 m7 g8
    obtain ⟨A8, c8, rfl, _, _, _, _⟩ := O8.out
    refine ⟨w8, f4.run rfl ?_, G8⟩
    simp at h4
    simp (disch := omega) [f4, h1, h2, lt_f, bin_quo, eq2, e2, e2', bool_not, build40, h3, h4, h5, h6, h7, h8]

theorem logged_walk (W : World) (a0 : Option Addr) (len0 cap0 : Nat) (z0 : List Int) (w0 : IsRow .u8 W a0 len0 cap0 z0) (y0 : len0 * 1 ≤ 140737488351232)
    {H : Type} {enc : TypeId × Value → H} (a1 : Option Addr) (len1 cap1 : Nat) (z1 : Dat enc Try.prog W 34 [.slice a1 len1 cap1]) (y1 : len1 * 24 ≤ 140737488351232) :
    Calls Try.prog 4 #[.slice a0 len0 cap0, .slice a1 len1 cap1] W fun e w' => e = .returned (.bool true) ∧ Below W.heap.size W w' := by
  obtain ⟨l, hl, hr, hnil, hc⟩ := w0.bytes
  obtain ⟨A, len, cap, he, _, _, _, rows, h1, h2, h3⟩ := dat_slice Try.underlying34 z1
  simp only [List.cons.injEq, Value.slice.injEq, and_true] at he
  obtain ⟨rfl, rfl, rfl⟩ := he
  obtain ⟨q, rfl, hq, hw⟩ := choose_rows (fun x : Int × Int × Bool => [Value.int .i64 x.1, .int .i64 x.2.1, .bool x.2.2]) (fun x => (Lit.int .i64 x.1).wf = true ∧ (Lit.int .i64 x.2.1).wf = true) (rows := rows) (by
    intro r hr
    obtain ⟨hl, hd⟩ := h2 r hr
    obtain ⟨_, hs⟩ := dat_struct Try.underlying43 hd
    have hl3 : r.length = 3 := hl.trans (by kernel_rfl)
    match r, hl3 with
    | [r0, r1, r2], _ =>
      obtain ⟨x, e0, w0⟩ := dat_int Try.underlying3 (hs 0 _ rfl)
      obtain ⟨y, e1, w1⟩ := dat_int Try.underlying3 (hs 1 _ rfl)
      obtain ⟨b, e2⟩ := dat_bool Try.underlying4 (hs 2 _ rfl)
      have c1 : Try.prog.cellsOf 3 = 1 := by kernel_rfl
      have c2 : Try.prog.cellsOf 4 = 1 := by kernel_rfl
      simp [c1, c2] at e0 e1 e2
      subst e0; subst e1; subst e2
      exact ⟨(x, y, b), rfl, w0, w1⟩)
  rw [← List.flatMap_def] at h3
  have hlen : q.length = len1 := hq.trans h1
  subst hlen
  obtain ⟨w', h, g⟩ := logged_ok (c := cap1) hl hr hnil (by omega) h3 (by omega) hw
  exact (calls_of_run (by kernel_rfl) mu_ok h).mono fun e v ⟨h1, h2⟩ => ⟨h1, h2 ▸ below_of_grown g⟩
end Go.Sh.Ytokpgallfmpmkaa
