/- The layer 'Sh': one operation more of a region that draws, in whatever order. No condition. -/
import Derived.Test.YtacfghffojijaaaDoorShFlat
namespace Go.Sh
open Go
set_option linter.unusedVariables false
set_option linter.unusedSimpArgs false
section
variable {P : Program} {call : CallF} {all : List Oper} {L : List Ent} {a0 : Act} {w0 : World}
theorem order_step (hF : Flat P all) {nt : Nat} (hreg : regionOk nt all = true) (hnt : nt ≤ a0.tmps.size) {a' : Act} {w' : World} (hL : LexRun P call all all a0 w0 L a' w')
    (hchk : ∀ i m, (i, m) ∈ loose P all → ∃ x y, L[i]? = some x ∧ L[m]? = some y ∧ x.chk y.before ∧ x.chk y.after)
    (listed : Array Bool) (b : Act) (W : World) (hs : listed.size = all.length) (hcl : Closed all (fun j => listed.getD j false = true))
    (h1 : SlotsAt all L a0 (fun j => listed.getD j false = true) b) (h2 : WorldOf P all L w0 (fun j => listed.getD j false = true) W) (i : Nat) (hi : i ∈ Region.ready .any all.toArray listed) :
    ∃ o x W', all[i]? = some o ∧ L[i]? = some x ∧ Region.wanted o (yielded all.toArray b.tmps) = x.g ∧ (x.g = true → Exec3 P call o b W x.v W') ∧ (x.g = false → x.v = undef ∧ W' = W) ∧ (quietOp P o.op = true → W' = W) ∧
      Closed all (fun j => (listed.setIfInBounds i true).getD j false = true) ∧ SlotsAt all L a0 (fun j => (listed.setIfInBounds i true).getD j false = true) (b.put o.dst x.v) ∧ WorldOf P all L w0 (fun j => (listed.setIfInBounds i true).getD j false = true) W' := by
  obtain ⟨hlen, _⟩ := lex_split _ _ _ _ _ _ hL
  have hin : ∀ (listed : Array Bool) j, listed.size = all.length → listed.getD j false = true → j < all.length := by
    intro listed j hs h
    rcases Nat.lt_or_ge j listed.size with h' | h'
    · omega
    · simp [Array.getElem?_eq_none h'] at h
  have hgd : ∀ (listed : Array Bool) j, listed.size = all.length → j < all.length → listed.getD j true = listed.getD j false := by
    intro listed j hs hj
    simp [show j < listed.size by omega]
  obtain ⟨hun, o, ho', hdep'⟩ := mem_ready.mp hi
  have ho : all[i]? = some o := by simpa using ho'
  have hil : i < all.length := (List.getElem?_eq_some_iff.mp ho).1
  have hdep : Deps all (fun j => listed.getD j false = true) i := fun q hq e he hb => by
    rw [ho] at hq; cases hq
    exact hdep' e (by simpa using he) hb
  have hunF : listed.getD i false = false := by rw [← hgd listed i hs hil]; exact hun
  have hx : L[i]? = some (L[i]'(by omega)) := List.getElem?_eq_getElem (by omega)
  obtain ⟨bi, vi, l1, l2, l3⟩ := lex_at hF hreg hnt hL i (by omega)
  rw [List.drop_eq_getElem_cons hil, List.drop_eq_getElem_cons (by omega : i < L.length)] at l1
  have hoe : all[i] = o := Option.some.inj ((List.getElem?_eq_getElem hil).symm.trans ho)
  rw [hoe] at l1
  obtain ⟨e1, e2, e3, _⟩ := l1
  generalize L[i]'(by omega) = x at hx e1 e2 e3
  subst e1 e2
  have ancIn := anc_in hF.back hcl
  have ancLt : ∀ k j, k < all.length → ((ancs all).getD k 0).testBit j = true → j < k := fun k j hk hb =>
    (anc_in hF.back (S := fun _ => True) (fun _ _ _ _ _ _ _ => trivial) k hk (fun _ _ _ _ _ => trivial) j hb).2
  have notAnc : ∀ m, listed.getD m false = true → ((ancs all).getD m 0).testBit i = false := by
    intro m hm
    cases hb : ((ancs all).getD m 0).testBit i with
    | false => rfl
    | true =>
      have hml := hin listed m hs hm
      have := (ancIn m hml (fun q hq e he hb => hcl m q hm hq e he hb) i hb).1
      rw [hunF] at this
      cases this
  have iAnc : ∀ m, ((ancs all).getD i 0).testBit m = true → listed.getD m false = true := fun m hm => (ancIn i hil hdep m hm).1
  -- the slots that it looks at are as in the text's order
  have same : ∀ t ∈ looks all o, b.tmps[t]? = x.act.tmps[t]? := by
    intro t ht
    by_cases hw : ∃ (j : Nat) (q : Oper), all[j]? = some q ∧ q.dst = some t
    · obtain ⟨j, q, hq, hqt⟩ := hw
      have hjl : j < all.length := (List.getElem?_eq_some_iff.mp hq).1
      have sole : ∀ (k : Nat) (z : Oper), all[k]? = some z → k ≠ j → z.dst ≠ some t := fun k z hz hk => hF.one k j z q t hz hq (Ne.symm hk) hqt
      have none_of : ∀ (T : Nat → Prop) (c : Act), SlotsAt all L a0 T c → ¬ T j → c.tmps[t]? = a0.tmps[t]? := fun T c hc hj => hc.old t fun k z hk hz => by
        by_cases hkj : k = j
        · subst hkj; exact absurd hk hj
        · exact sole k z hz hkj
      have some_of : ∀ (T : Nat → Prop) (c : Act), SlotsAt all L a0 T c → T j → c.tmps[t]? = some (L[j]'(by omega)).v := fun T c hc hj =>
        hc.done j q _ t hj hq (List.getElem?_eq_getElem (by omega)) hqt
      by_cases hji : j = i
      · subst hji
        rw [none_of _ _ h1 (by simp [hunF]), none_of _ _ l2 (by omega)]
      · rcases hF.look i j o q t ho hq hji hqt ht with ha | ha
        · rw [some_of _ _ h1 (iAnc j ha), some_of _ _ l2 (ancLt i j hil ha)]
        · have hij := ancLt j i hjl ha
          rw [none_of _ _ h1 (fun hj => by rw [notAnc j hj] at ha; cases ha), none_of _ _ l2 (by omega)]
    · have no : ∀ (T : Nat → Prop) (c : Act), SlotsAt all L a0 T c → c.tmps[t]? = a0.tmps[t]? := fun T c hc => hc.old t fun k z _ hz hzt => hw ⟨k, z, hz, hzt⟩
      rw [no _ _ h1, no _ _ l2]
  have hex : execOp b.eval o = execOp x.act.eval o := by
    refine execOp_congr o (fun cs bb => hF.sel i o cs bb ho) fun y hy => ?_
    cases y with
    | tmp t =>
      have : t ∈ looks all o := List.mem_append_left _ (List.mem_filterMap.mpr ⟨.tmp t, by simpa using hy, rfl⟩)
      simp only [Act.eval, Array.getD_eq_getD_getElem?, same t this]
    | _ => rfl
  have hwant : Region.wanted o (yielded all.toArray b.tmps) = x.g := by
    rw [← e3.want]
    unfold Region.wanted
    cases hg : o.guard with
    | none => rfl
    | some jw =>
      obtain ⟨j, want⟩ := jw
      obtain ⟨_, d, hd⟩ := (regionOk_spec hreg ho).2 j want hg
      simp only [yielded_of hd]
      have : d ∈ looks all o := List.mem_append_right _ (by simp [hg, hd.1])
      rw [same d this]
  have conv : ∀ {W v W'}, Exec3 P call o x.act W v W' → Exec3 P call o b W v W' := by
    intro W v W' h
    unfold Exec3 at *
    rw [hex]
    exact h
  have hT : (fun j => (listed.setIfInBounds i true).getD j false = true) = (fun j => listed.getD j false = true ∨ j = i) := by
    funext j
    refine propext ⟨fun h => ?_, fun h => ?_⟩
    · by_cases hji : j = i
      · exact .inr hji
      · rw [getD_set_ne false (Ne.symm hji)] at h; exact .inl h
    · rcases h with h | rfl
      · exact getD_set_true h
      · simp [show j < listed.size by omega]
  have hcl' : Closed all (fun j => (listed.setIfInBounds i true).getD j false = true) := by
    rw [hT]
    intro k q hk hq e he hb
    rcases hk with hk | rfl
    · exact .inl (hcl k q hk hq e he hb)
    · exact .inl (hdep q hq e he hb)
  have hslots : SlotsAt all L a0 (fun j => (listed.setIfInBounds i true).getD j false = true) (b.put o.dst x.v) := by
    rw [hT]
    exact h1.put ho hx (fun j q d hq hj hd => hF.one i j o q d ho hq hj hd) hnt (regionOk_spec hreg ho).1
  by_cases he : Eff P all i
  · -- it may change the world: all such ahead of it are done, none behind it
    have hW : W = x.before := by
      refine h2.same l3 fun m hm => ⟨fun h => ?_, fun h => ?_⟩
      · have hmi : m ≠ i := fun h' => by subst h'; rw [hunF] at h; cases h
        rcases hF.chain m i hm he hmi with ha | ha
        · rw [notAnc m h] at ha; cases ha
        · exact ancLt i m hil ha
      · have hmi : m ≠ i := by omega
        have hm' := hm
        obtain ⟨q, hq, _⟩ := hm
        have hml : m < all.length := (List.getElem?_eq_some_iff.mp hq).1
        rcases hF.chain m i hm' he hmi with ha | ha
        · have := ancLt m i hml ha; omega
        · exact iAnc m ha
    subst hW
    have hlt : ∀ m, listed.getD m false = true → Eff P all m → m < i := by
      intro m h hm
      have hmi : m ≠ i := fun h' => by subst h'; rw [hunF] at h; cases h
      rcases hF.chain m i hm he hmi with ha | ha
      · rw [notAnc m h] at ha; cases ha
      · exact ancLt i m hil ha
    have hnext : WorldOf P all L w0 (fun j => (listed.setIfInBounds i true).getD j false = true) x.after := by rw [hT]; exact WorldOf.eff he hlt hx
    refine ⟨o, x, x.after, ho, hx, hwant, fun hg => conv (e3.exec hg), fun hg => e3.none hg, fun hq => e3.quiet hq, hcl', hslots, hnext⟩
  · have hq : quietOp P o.op = true := by
      cases hq : quietOp P o.op with
      | true => rfl
      | false => exact absurd ⟨o, ho, hq⟩ he
    have hnext : WorldOf P all L w0 (fun j => (listed.setIfInBounds i true).getD j false = true) W := by rw [hT]; exact h2.quiet he
    refine ⟨o, x, W, ho, hx, hwant, fun hg => ?_, fun hg => ⟨(e3.none hg).1, rfl⟩, fun _ => rfl, hcl', hslots, hnext⟩
    · refine conv ?_
      cases hp : pureOp P o.op with
      | true => exact e3.pure hg hp W
      | false =>
        -- it reads
        have ck : ∀ m, Eff P all m → ((ancs all).getD i 0).testBit m = false → ((ancs all).getD m 0).testBit i = false → ∃ y, L[m]? = some y ∧ x.chk y.before ∧ x.chk y.after := by
          intro m ⟨q, hq1, hq2⟩ b1 b2
          obtain ⟨x', y, c1, c2, c3, c4⟩ := hchk i m (loose_mem ho hq1 hq hp hq2 b1 b2)
          rw [hx] at c1; cases c1
          exact ⟨y, c2, c3, c4⟩
        by_cases hbig : ∃ m, listed.getD m false = true ∧ Eff P all m ∧ i < m
        · -- one behind it is done already: the world is what the last of them left
          obtain ⟨m, m1, m2, m3⟩ := hbig
          rcases h2 with ⟨M, y, y1, y2, y3, y4, rfl⟩ | ⟨y1, _⟩
          · have hMi : i < M := Nat.lt_of_lt_of_le m3 (y3 m m1 m2)
            have hMl := hin listed M hs y1
            obtain ⟨y', c1, _, c3⟩ := ck M y2 (by
              cases hb : ((ancs all).getD i 0).testBit M with
              | false => rfl
              | true => have := ancLt i M hil hb; omega) (notAnc M y1)
            rw [y4] at c1; cases c1
            exact e3.chk hg hq _ c3
          · exact absurd m2 (y1 m m1)
        · have hsmall : ∀ m, listed.getD m false = true → Eff P all m → m < i := by
            intro m h hm
            rcases Nat.lt_trichotomy m i with h' | h' | h'
            · exact h'
            · subst h'; rw [hunF] at h; cases h
            · exact absurd ⟨m, h, hm, h'⟩ hbig
          by_cases hall : ∀ m, m < i → Eff P all m → listed.getD m false = true
          · have hW : W = x.before := h2.same l3 fun m hm => ⟨fun h => hsmall m h hm, fun h => hall m h hm⟩
            subst hW
            have := e3.exec hg
            rw [e3.quiet hq] at this
            exact this
          · -- one ahead of it is not done yet: the least of them has still the world of now ahead of it
            have hex2 : ∃ m, m < i ∧ Eff P all m ∧ listed.getD m false = false := by
              refine Classical.byContradiction fun hn => hall fun m hm he => ?_
              cases hl : listed.getD m false with
              | true => rfl
              | false => exact absurd ⟨m, hm, he, hl⟩ hn
            have least : ∃ m, (m < i ∧ Eff P all m ∧ listed.getD m false = false) ∧ ∀ k, k < m → ¬ (k < i ∧ Eff P all k ∧ listed.getD k false = false) := by
              obtain ⟨m, hm⟩ := hex2
              induction m using Nat.strongRecOn with
              | _ m ihm =>
                by_cases hk : ∃ k, k < m ∧ (k < i ∧ Eff P all k ∧ listed.getD k false = false)
                · obtain ⟨k, k1, k2⟩ := hk
                  exact ihm k k1 k2
                · exact ⟨m, hm, fun k k1 k2 => hk ⟨k, k1, k2⟩⟩
            obtain ⟨m, ⟨m1, m2, m3⟩, m4⟩ := least
            have hml : m < all.length := by omega
            obtain ⟨y, c1, c2, _⟩ := ck m m2 (by
              cases hb : ((ancs all).getD i 0).testBit m with
              | false => rfl
              | true => have := iAnc m hb; rw [m3] at this; cases this) (by
              cases hb : ((ancs all).getD m 0).testBit i with
              | false => rfl
              | true => have := ancLt m i hml hb; omega)
            obtain ⟨bm, vm, n1, _, n3⟩ := lex_at hF hreg hnt hL m (by omega)
            rw [List.drop_eq_getElem_cons hml, List.drop_eq_getElem_cons (by omega : m < L.length)] at n1
            obtain ⟨_, n2, _, _⟩ := n1
            have hym : L[m]'(by omega) = y := Option.some.inj ((List.getElem?_eq_getElem (by omega)).symm.trans c1)
            rw [hym] at n2
            have hW : W = y.before := by
              rw [n2]
              refine h2.same n3 fun k hk => ⟨fun h => ?_, fun h => ?_⟩
              · have hkm : k ≠ m := fun h' => by subst h'; rw [m3] at h; cases h
                rcases hF.chain k m hk m2 hkm with ha | ha
                · have hkl := hin listed k hs h
                  have := (ancIn k hkl (fun q hq e he hb => hcl k q h hq e he hb) m ha).1
                  rw [m3] at this
                  cases this
                · exact ancLt m k hml ha
              · cases hl : listed.getD k false with
                | true => rfl
                | false => exact absurd ⟨by omega, hk, hl⟩ (m4 k h)
            rw [hW]
            exact e3.chk hg hq _ c2
end
end Go.Sh
