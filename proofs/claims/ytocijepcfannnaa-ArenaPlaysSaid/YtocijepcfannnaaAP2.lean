/- ArenaPlays, second part: the head grows. Conditions: those of each statement. -/
import Derived.Test.YtocijepcfannnaaAP1
namespace Go.Sh.Ytocijepcfannnaa
open Go Go.Proofs Go.RowKit
set_option linter.unusedVariables false
set_option linter.unusedSimpArgs false
section
variable {w w' : World} {base Wb : Nat} {VA VR VM VB VS : Value} {la lr lm lb ls : List Value} {n : Int}
theorem Hd.push_a (h : Hd w base Wb VA VR VM VB VS la lr lm lb ls n) {x : Value} (hx : x.oneCell' = true) (hn : (la.length + 1) * 8 ≤ 140737488355328) (hb : base ≤ w.heap.size) :
    ∃ V' w1 w2, erun Try.prog (Builtin.append_ #[48, 48] 48 #[VA, .slice (some ⟨w.heap.size, 0, none⟩) 1 1]) (w.alloc (.cells #[x] 34)) = some (V', w1) ∧ erun Try.prog (Instr.storeAt 48 (.pointer (some ⟨Wb, 0, none⟩)) V') w1 = some ((), w2) ∧
      Hd w2 base Wb V' VR VM VB VS (la ++ [x]) lr lm lb ls n ∧ Grew (fun k => k = Wb ∨ VA.ownBlock = some k) w w2 ∧ (∀ k, V'.ownBlock = some k → VA.ownBlock = some k ∨ w.heap.size ≤ k) := by
  obtain ⟨V', w1, h1, o1, g1, k1⟩ := own_push (P := Try.prog) (ty := 48) Try.underlying48 inf34 zero34 size34 bytes34 rfl h.oa hx (by simp [maxLen]; omega) hn hb
  have b1 := h.blk.grown g1 (own_blk_ne h.oa h.blk (by decide))
  have s1 : erun Try.prog (Instr.storeAt 48 (.pointer (some ⟨Wb, 0, none⟩)) V') w1 = some ((), w1.setCell ⟨Wb, 0, none⟩ V') := by
    obtain ⟨A2, c2, rfl, _⟩ := own_form o1
    exact st48 rfl rfl (b1.cell_eq 0 rfl) (b1.frozen 0)
  refine ⟨V', w1, _, h1, s1, ⟨b1.store2 0 _ rfl, h.hW, by rw [List.length_append]; exact o1.kept (grown_set Wb 0 V') (.inr (own_blk_ne o1 b1 (by decide))), (own_beside h.orr g1 fun k h1 h2 => own_own_ne h.orr h.oa (by decide) h1 h2).kept (grown_set Wb 0 V') (.inr (own_blk_ne h.orr h.blk (by decide))), (own_beside h.om g1 fun k h1 h2 => own_own_ne h.om h.oa (by decide) h1 h2).kept (grown_set Wb 0 V') (.inr (own_blk_ne h.om h.blk (by decide))), (own_beside h.ob g1 fun k h1 h2 => own_own_ne h.ob h.oa (by decide) h1 h2).kept (grown_set Wb 0 V') (.inr (own_blk_ne h.ob h.blk (by decide))), (own_beside h.os g1 fun k h1 h2 => own_own_ne h.os h.oa (by decide) h1 h2).kept (grown_set Wb 0 V') (.inr (own_blk_ne h.os h.blk (by decide)))⟩, ?_, k1⟩
  exact (grew_of g1 fun k hk => .inl (.inr hk)).step (grew_set _ 0 _ (.inl rfl))
theorem Hd.push_r (h : Hd w base Wb VA VR VM VB VS la lr lm lb ls n) {x : Value} (hx : x.oneCell' = true) (hn : (lr.length + 1) * 8 ≤ 140737488355328) (hb : base ≤ w.heap.size) :
    ∃ V' w1 w2, erun Try.prog (Builtin.append_ #[49, 49] 49 #[VR, .slice (some ⟨w.heap.size, 0, none⟩) 1 1]) (w.alloc (.cells #[x] 68)) = some (V', w1) ∧ erun Try.prog (Instr.storeAt 49 (.pointer (some ⟨Wb, 1, none⟩)) V') w1 = some ((), w2) ∧
      Hd w2 base Wb VA V' VM VB VS la (lr ++ [x]) lm lb ls n ∧ Grew (fun k => k = Wb ∨ VR.ownBlock = some k) w w2 ∧ (∀ k, V'.ownBlock = some k → VR.ownBlock = some k ∨ w.heap.size ≤ k) := by
  obtain ⟨V', w1, h1, o1, g1, k1⟩ := own_push (P := Try.prog) (ty := 49) Try.underlying49 inf68 zero68 size68 bytes68 rfl h.orr hx (by simp [maxLen]; omega) hn hb
  have b1 := h.blk.grown g1 (own_blk_ne h.orr h.blk (by decide))
  have s1 : erun Try.prog (Instr.storeAt 49 (.pointer (some ⟨Wb, 1, none⟩)) V') w1 = some ((), w1.setCell ⟨Wb, 1, none⟩ V') := by
    obtain ⟨A2, c2, rfl, _⟩ := own_form o1
    exact st49 rfl rfl (b1.cell_eq 1 rfl) (b1.frozen 1)
  refine ⟨V', w1, _, h1, s1, ⟨b1.store2 1 _ rfl, h.hW, (own_beside h.oa g1 fun k h1 h2 => own_own_ne h.oa h.orr (by decide) h1 h2).kept (grown_set Wb 1 V') (.inr (own_blk_ne h.oa h.blk (by decide))), by rw [List.length_append]; exact o1.kept (grown_set Wb 1 V') (.inr (own_blk_ne o1 b1 (by decide))), (own_beside h.om g1 fun k h1 h2 => own_own_ne h.om h.orr (by decide) h1 h2).kept (grown_set Wb 1 V') (.inr (own_blk_ne h.om h.blk (by decide))), (own_beside h.ob g1 fun k h1 h2 => own_own_ne h.ob h.orr (by decide) h1 h2).kept (grown_set Wb 1 V') (.inr (own_blk_ne h.ob h.blk (by decide))), (own_beside h.os g1 fun k h1 h2 => own_own_ne h.os h.orr (by decide) h1 h2).kept (grown_set Wb 1 V') (.inr (own_blk_ne h.os h.blk (by decide)))⟩, ?_, k1⟩
  exact (grew_of g1 fun k hk => .inl (.inr hk)).step (grew_set _ 1 _ (.inl rfl))
theorem Hd.push_m (h : Hd w base Wb VA VR VM VB VS la lr lm lb ls n) {x : Value} (hx : x.oneCell' = true) (hn : (lm.length + 1) * 24 ≤ 140737488355328) (hb : base ≤ w.heap.size) :
    ∃ V' w1 w2, erun Try.prog (Builtin.append_ #[50, 50] 50 #[VM, .slice (some ⟨w.heap.size, 0, none⟩) 1 1]) (w.alloc (.cells #[x] 24)) = some (V', w1) ∧ erun Try.prog (Instr.storeAt 50 (.pointer (some ⟨Wb, 2, none⟩)) V') w1 = some ((), w2) ∧
      Hd w2 base Wb VA VR V' VB VS la lr (lm ++ [x]) lb ls n ∧ Grew (fun k => k = Wb ∨ VM.ownBlock = some k) w w2 ∧ (∀ k, V'.ownBlock = some k → VM.ownBlock = some k ∨ w.heap.size ≤ k) := by
  obtain ⟨V', w1, h1, o1, g1, k1⟩ := own_push (P := Try.prog) (ty := 50) Try.underlying50 inf24 zero24 size24 bytes24 rfl h.om hx (by simp [maxLen]; omega) hn hb
  have b1 := h.blk.grown g1 (own_blk_ne h.om h.blk (by decide))
  have s1 : erun Try.prog (Instr.storeAt 50 (.pointer (some ⟨Wb, 2, none⟩)) V') w1 = some ((), w1.setCell ⟨Wb, 2, none⟩ V') := by
    obtain ⟨A2, c2, rfl, _⟩ := own_form o1
    exact st50 rfl rfl (b1.cell_eq 2 rfl) (b1.frozen 2)
  refine ⟨V', w1, _, h1, s1, ⟨b1.store2 2 _ rfl, h.hW, (own_beside h.oa g1 fun k h1 h2 => own_own_ne h.oa h.om (by decide) h1 h2).kept (grown_set Wb 2 V') (.inr (own_blk_ne h.oa h.blk (by decide))), (own_beside h.orr g1 fun k h1 h2 => own_own_ne h.orr h.om (by decide) h1 h2).kept (grown_set Wb 2 V') (.inr (own_blk_ne h.orr h.blk (by decide))), by rw [List.length_append]; exact o1.kept (grown_set Wb 2 V') (.inr (own_blk_ne o1 b1 (by decide))), (own_beside h.ob g1 fun k h1 h2 => own_own_ne h.ob h.om (by decide) h1 h2).kept (grown_set Wb 2 V') (.inr (own_blk_ne h.ob h.blk (by decide))), (own_beside h.os g1 fun k h1 h2 => own_own_ne h.os h.om (by decide) h1 h2).kept (grown_set Wb 2 V') (.inr (own_blk_ne h.os h.blk (by decide)))⟩, ?_, k1⟩
  exact (grew_of g1 fun k hk => .inl (.inr hk)).step (grew_set _ 2 _ (.inl rfl))
theorem Hd.push_b (h : Hd w base Wb VA VR VM VB VS la lr lm lb ls n) {x : Value} (hx : x.oneCell' = true) (hn : (lb.length + 1) * 24 ≤ 140737488355328) (hb : base ≤ w.heap.size) :
    ∃ V' w1 w2, erun Try.prog (Builtin.append_ #[51, 51] 51 #[VB, .slice (some ⟨w.heap.size, 0, none⟩) 1 1]) (w.alloc (.cells #[x] 23)) = some (V', w1) ∧ erun Try.prog (Instr.storeAt 51 (.pointer (some ⟨Wb, 3, none⟩)) V') w1 = some ((), w2) ∧
      Hd w2 base Wb VA VR VM V' VS la lr lm (lb ++ [x]) ls n ∧ Grew (fun k => k = Wb ∨ VB.ownBlock = some k) w w2 ∧ (∀ k, V'.ownBlock = some k → VB.ownBlock = some k ∨ w.heap.size ≤ k) := by
  obtain ⟨V', w1, h1, o1, g1, k1⟩ := own_push (P := Try.prog) (ty := 51) Try.underlying51 inf23 zero23 size23 bytes23 rfl h.ob hx (by simp [maxLen]; omega) hn hb
  have b1 := h.blk.grown g1 (own_blk_ne h.ob h.blk (by decide))
  have s1 : erun Try.prog (Instr.storeAt 51 (.pointer (some ⟨Wb, 3, none⟩)) V') w1 = some ((), w1.setCell ⟨Wb, 3, none⟩ V') := by
    obtain ⟨A2, c2, rfl, _⟩ := own_form o1
    exact st51 rfl rfl (b1.cell_eq 3 rfl) (b1.frozen 3)
  refine ⟨V', w1, _, h1, s1, ⟨b1.store2 3 _ rfl, h.hW, (own_beside h.oa g1 fun k h1 h2 => own_own_ne h.oa h.ob (by decide) h1 h2).kept (grown_set Wb 3 V') (.inr (own_blk_ne h.oa h.blk (by decide))), (own_beside h.orr g1 fun k h1 h2 => own_own_ne h.orr h.ob (by decide) h1 h2).kept (grown_set Wb 3 V') (.inr (own_blk_ne h.orr h.blk (by decide))), (own_beside h.om g1 fun k h1 h2 => own_own_ne h.om h.ob (by decide) h1 h2).kept (grown_set Wb 3 V') (.inr (own_blk_ne h.om h.blk (by decide))), by rw [List.length_append]; exact o1.kept (grown_set Wb 3 V') (.inr (own_blk_ne o1 b1 (by decide))), (own_beside h.os g1 fun k h1 h2 => own_own_ne h.os h.ob (by decide) h1 h2).kept (grown_set Wb 3 V') (.inr (own_blk_ne h.os h.blk (by decide)))⟩, ?_, k1⟩
  exact (grew_of g1 fun k hk => .inl (.inr hk)).step (grew_set _ 3 _ (.inl rfl))
theorem Hd.push_s (h : Hd w base Wb VA VR VM VB VS la lr lm lb ls n) {x : Value} (hx : x.oneCell' = true) (hn : (ls.length + 1) * 24 ≤ 140737488355328) (hb : base ≤ w.heap.size) :
    ∃ V' w1 w2, erun Try.prog (Builtin.append_ #[52, 52] 52 #[VS, .slice (some ⟨w.heap.size, 0, none⟩) 1 1]) (w.alloc (.cells #[x] 37)) = some (V', w1) ∧ erun Try.prog (Instr.storeAt 52 (.pointer (some ⟨Wb, 4, none⟩)) V') w1 = some ((), w2) ∧
      Hd w2 base Wb VA VR VM VB V' la lr lm lb (ls ++ [x]) n ∧ Grew (fun k => k = Wb ∨ VS.ownBlock = some k) w w2 ∧ (∀ k, V'.ownBlock = some k → VS.ownBlock = some k ∨ w.heap.size ≤ k) := by
  obtain ⟨V', w1, h1, o1, g1, k1⟩ := own_push (P := Try.prog) (ty := 52) Try.underlying52 inf37 zero37 size37 bytes37 rfl h.os hx (by simp [maxLen]; omega) hn hb
  have b1 := h.blk.grown g1 (own_blk_ne h.os h.blk (by decide))
  have s1 : erun Try.prog (Instr.storeAt 52 (.pointer (some ⟨Wb, 4, none⟩)) V') w1 = some ((), w1.setCell ⟨Wb, 4, none⟩ V') := by
    obtain ⟨A2, c2, rfl, _⟩ := own_form o1
    exact st52 rfl rfl (b1.cell_eq 4 rfl) (b1.frozen 4)
  refine ⟨V', w1, _, h1, s1, ⟨b1.store2 4 _ rfl, h.hW, (own_beside h.oa g1 fun k h1 h2 => own_own_ne h.oa h.os (by decide) h1 h2).kept (grown_set Wb 4 V') (.inr (own_blk_ne h.oa h.blk (by decide))), (own_beside h.orr g1 fun k h1 h2 => own_own_ne h.orr h.os (by decide) h1 h2).kept (grown_set Wb 4 V') (.inr (own_blk_ne h.orr h.blk (by decide))), (own_beside h.om g1 fun k h1 h2 => own_own_ne h.om h.os (by decide) h1 h2).kept (grown_set Wb 4 V') (.inr (own_blk_ne h.om h.blk (by decide))), (own_beside h.ob g1 fun k h1 h2 => own_own_ne h.ob h.os (by decide) h1 h2).kept (grown_set Wb 4 V') (.inr (own_blk_ne h.ob h.blk (by decide))), by rw [List.length_append]; exact o1.kept (grown_set Wb 4 V') (.inr (own_blk_ne o1 b1 (by decide)))⟩, ?_, k1⟩
  exact (grew_of g1 fun k hk => .inl (.inr hk)).step (grew_set _ 4 _ (.inl rfl))
end
end Go.Sh.Ytocijepcfannnaa
