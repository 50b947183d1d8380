/- The library's lock in this dump: its numbers, and what Lock and Unlock answer where nobody else is. No condition. -/
import Derived.Test.YtokpgallfmpmkaaProg
import Derived.Test.YtokpgallfmpmkaaMF
import Derived.KernelRfl
import Derived.Conc.MuLone
namespace Go.Sh.Ytokpgallfmpmkaa
open Go Go.Proofs
set_option maxRecDepth 100000
abbrev muLink : Go.Conc.Locks.MuLink := { lock := 27, unlock := 28, ilock := 58, iunlock := 59, lockSlow := 65, unlockSlow := 68, disable := 61, enable := 63, acquire := 64, relMerge := 66, cas32 := 62, add32 := 67, tMutex := 78, tIMutex := 76, tPMutex := 102, tPIMutex := 105, tPI32 := 107, tUP := 109, tNoCopy := 73, tU32 := 74 }
theorem muLib : Go.Conc.Locks.MuLib Try.prog muLink := ⟨Try.func27, Try.func28, Try.func58, Try.func59, Try.func61, Try.func63, Try.func64, Try.func66, Try.func62, Try.func67, Try.underlying76, Try.runUnderlying76, Try.sizeOf76, Try.isAgg76, Try.zeroValue76, Try.underlying78, Try.runUnderlying78, Try.sizeOf78, Try.isAgg78, Try.zeroValue78, Try.underlying102, Try.runUnderlying102, Try.sizeOf102, Try.isAgg102, Try.zeroValue102, Try.underlying105, Try.runUnderlying105, Try.sizeOf105, Try.isAgg105, Try.zeroValue105, Try.underlying107, Try.runUnderlying107, Try.sizeOf107, Try.isAgg107, Try.zeroValue107, Try.underlying109, Try.runUnderlying109, Try.sizeOf109, Try.isAgg109, Try.zeroValue109, Try.underlying73, Try.runUnderlying73, Try.sizeOf73, Try.isAgg73, Try.zeroValue73, Try.underlying21, Try.runUnderlying21, Try.sizeOf21, Try.isAgg21, Try.zeroValue21, (by kernel_rfl)⟩
/-- Lock, where the lock is free; Unlock, deferred, where it is held -/
def muCall : CallF := fun f args w => match args.toList with
  | [.pointer (some a)] => bif Nat.beq f 27 then (match w.cell? a with
    | some (.int .i32 x) => bif (decide (x = 0)) && !(w.frozen? a) then some (.tuple #[], w.setCell a (.int .i32 1)) else none
    | _ => none) else none
  | _ => none
def muDfr : CallF := fun f args w => match args.toList with
  | [.pointer (some a)] => bif Nat.beq f 28 then (match w.cell? a with
    | some (.int .i32 x) => bif (decide (x = 1)) && !(w.frozen? a) then some (.tuple #[], w.setCell a (.int .i32 0)) else none
    | _ => none) else none
  | _ => none
def mu : Prim := ⟨muCall, muDfr⟩
theorem mu_lock {w : World} {a : Addr} (h : w.cell? a = some (.int .i32 0)) (hf : w.frozen? a = false) : mu.call 27 #[.pointer (some a)] w = some (.tuple #[], w.setCell a (.int .i32 1)) := by simp [mu, muCall, h, hf]
theorem mu_unlock {w : World} {a : Addr} (h : w.cell? a = some (.int .i32 1)) (hf : w.frozen? a = false) : mu.dfr 28 #[.pointer (some a)] w = some (.tuple #[], w.setCell a (.int .i32 0)) := by simp [mu, muDfr, h, hf]
theorem muCall_some {f : FuncId} {args : Array Value} {w : World} {r : Value × World} (h : muCall f args w = some r) : ∃ a, f = 27 ∧ args = #[.pointer (some a)] ∧ w.cell? a = some (.int .i32 0) ∧ w.frozen? a = false ∧ r = (.tuple #[], w.setCell a (.int .i32 1)) := by
  unfold muCall at h
  split at h
  · rename_i a ha
    cases hb : Nat.beq f 27 with
    | false => rw [hb] at h; cases h
    | true =>
      rw [hb] at h
      simp only [cond_true] at h
      split at h
      · rename_i x hx
        cases hd : (decide (x = 0) && !(w.frozen? a)) with
        | false => rw [hd] at h; cases h
        | true =>
          rw [hd] at h
          simp only [Bool.and_eq_true, decide_eq_true_eq, Bool.not_eq_true'] at hd
          obtain ⟨rfl, hz⟩ := hd
          refine ⟨a, Nat.eq_of_beq_eq_true hb, by rw [← Array.toArray_toList (xs := args), ha], hx, hz, (Option.some.inj h).symm⟩
      · cases h
  · cases h
theorem muDfr_some {f : FuncId} {args : Array Value} {w : World} {r : Value × World} (h : muDfr f args w = some r) : ∃ a, f = 28 ∧ args = #[.pointer (some a)] ∧ w.cell? a = some (.int .i32 1) ∧ w.frozen? a = false ∧ r = (.tuple #[], w.setCell a (.int .i32 0)) := by
  unfold muDfr at h
  split at h
  · rename_i a ha
    cases hb : Nat.beq f 28 with
    | false => rw [hb] at h; cases h
    | true =>
      rw [hb] at h
      simp only [cond_true] at h
      split at h
      · rename_i x hx
        cases hd : (decide (x = 1) && !(w.frozen? a)) with
        | false => rw [hd] at h; cases h
        | true =>
          rw [hd] at h
          simp only [Bool.and_eq_true, decide_eq_true_eq, Bool.not_eq_true'] at hd
          obtain ⟨rfl, hz⟩ := hd
          refine ⟨a, Nat.eq_of_beq_eq_true hb, by rw [← Array.toArray_toList (xs := args), ha], hx, hz, (Option.some.inj h).symm⟩
      · cases h
  · cases h
theorem mu_ok : PrimOk Try.prog mu := by
  have h27 : ∀ args w, (callFunc 27 args).run Try.prog w = .ok (.enter 27 args) w := fun args w => Go.MuLone.run_callFunc_enter (P := Try.prog) muLib.f_lock (by kernel_rfl) rfl args w
  have h28 : ∀ args w, (callFunc 28 args).run Try.prog w = .ok (.enter 28 args) w := fun args w => Go.MuLone.run_callFunc_enter (P := Try.prog) muLib.f_unlock (by kernel_rfl) rfl args w
  refine ⟨⟨fun f args w r h => ?_, fun f args w r h => ?_⟩, ⟨fun f args w r h => ?_, fun f args w r h => ?_⟩⟩
  · obtain ⟨a, rfl, rfl, _, _, rfl⟩ := muCall_some h
    exact h27 _ _
  · obtain ⟨a, rfl, rfl, hc, hz, rfl⟩ := muCall_some h
    exact Go.MuLone.lock_free muLib a w hc hz
  · obtain ⟨a, rfl, rfl, _, _, rfl⟩ := muDfr_some h
    simp [invoke, h28]
  · obtain ⟨a, rfl, rfl, hc, hz, rfl⟩ := muDfr_some h
    refine (Go.MuLone.unlock_deferred muLib a .returning w hc hz).mono ?_
    rintro e u w' ⟨rfl, rfl, rfl⟩
    exact ⟨rfl, rfl, rfl⟩
end Go.Sh.Ytokpgallfmpmkaa
