/- ArenaPlays, fifth part: all arenas tell what they must. Conditions: those of each statement. -/
import Derived.Test.YtocijepcfannnaaAP4
namespace Go.Sh.Ytocijepcfannnaa
open Go Go.Proofs Go.RowKit
set_option linter.unusedVariables false
set_option linter.unusedSimpArgs false
theorem same_ok {W w : World} {Wb L : Nat} {N : Int} (h : AlE W w Wb L N) (hL : L * 8 ≤ 140737488355328) :
    ∃ w', C 20 #[.pointer (some ⟨Wb, 0, none⟩)] w = some (.bool true, w') ∧ AlE W w' Wb L N := by
  obtain ⟨VA, VR, VM, VB, VS, ar, mk, bs, ss, n, h, G, hne, la, lb, ls, lm, n0, nN⟩ := h
  have key := iter_down (f := f20.l0 C) (fun d vs w1 => ∃ i : Nat, vs = [.pointer (some ⟨Wb, 0, none⟩), .int .i64 i] ∧ i + d = ar.length ∧ w.grownBy w1 none)
    (fun r => ∃ w1, r = .exit 0 [] w1 ∧ w.grownBy w1 none) (by
      rintro d vs w1 ⟨i, rfl, hi, Gi⟩
      have hi1 := h.new Gi
      cases d with
      | zero =>
        obtain rfl : i = ar.length := by omega
        obtain ⟨AA, cA, hVA, _⟩ := own_form hi1.hd.oa
        rw [List.length_map] at hVA
        subst hVA
        exact .inr ⟨_, by simp [f20.l0, addL, hi1.hd.blk.cell_eq 0 rfl], ⟨w1, rfl, Gi⟩, by simp⟩
      | succ d =>
        have hk : i < ar.length := by omega
        obtain ⟨x, hx⟩ : ∃ x, x = ar[i] := ⟨_, rfl⟩
        have hkx : ar[i]? = some x := by rw [hx]; exact List.getElem?_eq_getElem hk
        obtain ⟨u, hu⟩ : ∃ u, u = w1.drew := ⟨_, rfl⟩
        have gu : w1.grownBy u none := hu ▸ grown_drew w1 none
        have hu1 := hi1.new gu
        obtain ⟨aA, cA, hVA, cellA⟩ := hu1.arena hkx
        obtain ⟨aR, cR, hVR, cellR⟩ := hu1.ref hkx
        subst hVA
        subst hVR
        have xo := hu1.ars.ok x (List.mem_of_getElem? hkx)
        have xo1 := hi1.ars.ok x (List.mem_of_getElem? hkx)
        have iA := ix48 aA ar.length cA .i64 i (by omega) (by omega)
        have iR := ix49 aR ar.length cR .i64 i (by omega) (by omega)
        simp only [Int.toNat_natCast, Nat.mul_one] at iA iR
        have a1 := given_ok xo.ar
        have a2 := mark_ok xo.ar
        have a3 := peak_ok xo.ar
        have cA1 : w1.cell? (aA.add i) = some x.pa := by rw [hu] at cellA; exact cellA
        have cR1 : w1.cell? (aR.add i) = some x.pr := by rw [hu] at cellR; exact cellR
        have e1 : IntKind.i64.wrap ((i : Int) + 1) = ((i + 1 : Nat) : Int) := (wrap_i64 (by omega) (by omega)).trans (by omega)
        refine .inl ⟨d, _, u, by omega, ?_, ⟨i + 1, rfl, by omega, grown_trans Gi gu (by simp)⟩⟩
        simp (disch := omega) [f20.l0, addL, lt_t, ← hu, hi1.hd.blk.cell_eq 0 rfl, hi1.hd.blk.cell_eq 1 rfl, hu1.hd.blk.cell_eq 0 rfl, hu1.hd.blk.cell_eq 1 rfl, iA, cA1, cellA, An.pa, a1, iR, cR1, cellR, An.pr, xo.rf.c1, xo1.rf.c1, xo.rf.c2, xo1.rf.c2, wantedV, pickV, a2, a3, e1]) ar.length _ w ⟨0, rfl, by omega, grown_refl _ _⟩
  obtain ⟨r, h1, w1, rfl, Gi⟩ := key
  refine ⟨w1, f20.run rfl ?_, VA, VR, VM, VB, VS, ar, mk, bs, ss, n, h.new Gi, grown_trans G Gi (by simp), hne, la, lb, ls, lm, n0, nN⟩
  simp at h1
  simp [f20, h1]
end Go.Sh.Ytocijepcfannnaa
