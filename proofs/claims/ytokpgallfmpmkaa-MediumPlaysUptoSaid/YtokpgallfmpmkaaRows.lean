/-
  No cell of these rows narrows 'for every input' (looked for: loops, veiled, ifaces, maps, wideKeys, modest, calm, conditions, laid).
  DERIVED. THE GIVEN ROWS OF THIS SEAT. 4 by the template 'for every input the law returns true; each argument reads behind the call as it read before'; 0 by the template 'total and deterministic' (their statements: YtokpgallfmpmkaaTotals.lean).
  GIVEN WITH THE SEED: the statements are not yours to turn. If you find one false, say at which input.
  Laid BY PROGRAM, IN A SANDBOX (cutbox-rows.mjs): the forced cells as the released guide's own fill.sh prints them over the translation ac6b24bf7bfedbf2… (all of the seat's roots in one cut). By AI agents, Wed Nov 11 2026. No macro, syntax, notation, axiom, sorry.
-/
import Derived.Test.YtokpgallfmpmkaaChecked
import GoSem.Claim
import GoSem.ClaimJoined
import GoSem.ClaimMapViews
import Derived.JoinedTies
import Derived.KernelRfl
namespace Go.Proofs.Ytokpgallfmpmkaa
/- THE CELL 'sum', in the pinned program and in every row, IS THE sha256 OF THE DUMP (.gsa) THAT YtokpgallfmpmkaaProg.lean LOADS. Nothing in Lean hashes anything: it is a label: what it is worth is what the hold of that sum in a sandbox is worth. -/
noncomputable def Try.pinned : Pinned := { name := "ytokpgallfmpmkaa", sum := "ac6b24bf7bfedbf2e1840b07c6138356c17e44da5cb72a89f66a7d73051fb036", checked := Try.checked }
namespace Rows
def none {H : Type} : Left H := { results := [], args := [] }

/-- 'dailieslaw15.MediumFull': WHATEVER THE INPUT: true; the input reads as it did. -/
def mediumFullSpec : ChangeSpec := { name := "mediumFull", fn := fun _ => fun
  | [d1, d2] => { results := [.lit (.bool true)], args := [d1, d2] }
  | _ => none }
def mediumFullRow : OpenClaim := { program := "ytokpgallfmpmkaa", sum := "ac6b24bf7bfedbf2e1840b07c6138356c17e44da5cb72a89f66a7d73051fb036", func := "dailies/dailieslaw15.MediumFull", spec := "mediumFull", inPlace := ["(*internal/sync.Mutex).Lock", "internal/race.Disable", "sync/atomic.CompareAndSwapInt32", "internal/race.Enable", "internal/race.Acquire", "(*internal/sync.Mutex).lockSlow", "internal/sync.runtime_canSpin", "internal/sync.runtime_doSpin", "internal/sync.throw", "internal/sync.runtime_nanotime", "internal/sync.runtime_SemacquireMutex", "sync/atomic.AddInt32", "(*internal/sync.Mutex).Unlock", "internal/race.ReleaseMerge", "(*internal/sync.Mutex).unlockSlow", "internal/sync.fatal", "internal/sync.runtime_Semrelease"], apart := false }
def MediumFullSaid : Prop := mediumFullRow.holds Try.pinned (OpenSpec.ofChange mediumFullSpec)

/-- ITS FALSE NEIGHBOUR: 'it returns false'. Refute it at one input. -/
def mediumFullWrong : ChangeSpec := { name := "mediumFull", fn := fun _ => fun
  | [d1, d2] => { results := [.lit (.bool false)], args := [d1, d2] }
  | _ => none }
def MediumFullWrongFalsely : Prop := mediumFullRow.holds Try.pinned (OpenSpec.ofChange mediumFullWrong)

/-- 'dailieslaw15.MediumLogged': WHATEVER THE INPUT: true; the input reads as it did. -/
def mediumLoggedSpec : ChangeSpec := { name := "mediumLogged", fn := fun _ => fun
  | [d1, d2] => { results := [.lit (.bool true)], args := [d1, d2] }
  | _ => none }
def mediumLoggedRow : OpenClaim := { program := "ytokpgallfmpmkaa", sum := "ac6b24bf7bfedbf2e1840b07c6138356c17e44da5cb72a89f66a7d73051fb036", func := "dailies/dailieslaw15.MediumLogged", spec := "mediumLogged", inPlace := ["(*internal/sync.Mutex).Lock", "internal/race.Disable", "sync/atomic.CompareAndSwapInt32", "internal/race.Enable", "internal/race.Acquire", "(*internal/sync.Mutex).lockSlow", "internal/sync.runtime_canSpin", "internal/sync.runtime_doSpin", "internal/sync.throw", "internal/sync.runtime_nanotime", "internal/sync.runtime_SemacquireMutex", "sync/atomic.AddInt32", "(*internal/sync.Mutex).Unlock", "internal/race.ReleaseMerge", "(*internal/sync.Mutex).unlockSlow", "internal/sync.fatal", "internal/sync.runtime_Semrelease"], unfollowed := true, recurses := true, apart := false }
def MediumLoggedSaid : Prop := mediumLoggedRow.holds Try.pinned (OpenSpec.ofChange mediumLoggedSpec)

/-- ITS FALSE NEIGHBOUR: 'it returns false'. Refute it at one input. -/
def mediumLoggedWrong : ChangeSpec := { name := "mediumLogged", fn := fun _ => fun
  | [d1, d2] => { results := [.lit (.bool false)], args := [d1, d2] }
  | _ => none }
def MediumLoggedWrongFalsely : Prop := mediumLoggedRow.holds Try.pinned (OpenSpec.ofChange mediumLoggedWrong)

/-- 'dailieslaw15.MediumLasts': WHATEVER THE INPUT: true; the input reads as it did. -/
def mediumLastsSpec : ChangeSpec := { name := "mediumLasts", fn := fun _ => fun
  | [d1, d2, d3] => { results := [.lit (.bool true)], args := [d1, d2, d3] }
  | _ => none }
def mediumLastsRow : OpenClaim := { program := "ytokpgallfmpmkaa", sum := "ac6b24bf7bfedbf2e1840b07c6138356c17e44da5cb72a89f66a7d73051fb036", func := "dailies/dailieslaw15.MediumLasts", spec := "mediumLasts", inPlace := ["(*internal/sync.Mutex).Lock", "internal/race.Disable", "sync/atomic.CompareAndSwapInt32", "internal/race.Enable", "internal/race.Acquire", "(*internal/sync.Mutex).lockSlow", "internal/sync.runtime_canSpin", "internal/sync.runtime_doSpin", "internal/sync.throw", "internal/sync.runtime_nanotime", "internal/sync.runtime_SemacquireMutex", "sync/atomic.AddInt32", "(*internal/sync.Mutex).Unlock", "internal/race.ReleaseMerge", "(*internal/sync.Mutex).unlockSlow", "internal/sync.fatal", "internal/sync.runtime_Semrelease"], unfollowed := true, recurses := true, apart := false }
def MediumLastsSaid : Prop := mediumLastsRow.holds Try.pinned (OpenSpec.ofChange mediumLastsSpec)

/-- ITS FALSE NEIGHBOUR: 'it returns false'. Refute it at one input. -/
def mediumLastsWrong : ChangeSpec := { name := "mediumLasts", fn := fun _ => fun
  | [d1, d2, d3] => { results := [.lit (.bool false)], args := [d1, d2, d3] }
  | _ => none }
def MediumLastsWrongFalsely : Prop := mediumLastsRow.holds Try.pinned (OpenSpec.ofChange mediumLastsWrong)

/-- 'dailieslaw15.MediumPlays': WHATEVER THE INPUT: true; the input reads as it did. -/
def mediumPlaysSpec : ChangeSpec := { name := "mediumPlays", fn := fun _ => fun
  | [d] => { results := [.lit (.bool true)], args := [d] }
  | _ => none }
def mediumPlaysRow : OpenClaim := { program := "ytokpgallfmpmkaa", sum := "ac6b24bf7bfedbf2e1840b07c6138356c17e44da5cb72a89f66a7d73051fb036", func := "dailies/dailieslaw15.MediumPlays", spec := "mediumPlays", inPlace := ["(*internal/sync.Mutex).Lock", "internal/race.Disable", "sync/atomic.CompareAndSwapInt32", "internal/race.Enable", "internal/race.Acquire", "(*internal/sync.Mutex).lockSlow", "internal/sync.runtime_canSpin", "internal/sync.runtime_doSpin", "internal/sync.throw", "internal/sync.runtime_nanotime", "internal/sync.runtime_SemacquireMutex", "sync/atomic.AddInt32", "(*internal/sync.Mutex).Unlock", "internal/race.ReleaseMerge", "(*internal/sync.Mutex).unlockSlow", "internal/sync.fatal", "internal/sync.runtime_Semrelease"], unfollowed := true, recurses := true, apart := false }
def MediumPlaysSaid : Prop := mediumPlaysRow.holds Try.pinned (OpenSpec.ofChange mediumPlaysSpec)

/-- ITS FALSE NEIGHBOUR: 'it returns false'. Refute it at one input. -/
def mediumPlaysWrong : ChangeSpec := { name := "mediumPlays", fn := fun _ => fun
  | [d] => { results := [.lit (.bool false)], args := [d] }
  | _ => none }
def MediumPlaysWrongFalsely : Prop := mediumPlaysRow.holds Try.pinned (OpenSpec.ofChange mediumPlaysWrong)

/- THE SECOND FORM. 'bulk': how many values and letters a reading holds, each counted each time it is reached (what is shared counts as often as it is met; a slice's spare places count too). A statement '..UptoSaid' is the law's where the arguments, and the package variables that the reading takes, are together of bulk at most 1048576: NARROWER than '..Said'. Prove '..Said' where nothing that the law and all that it calls make is longer than what came in: it says more and counts as full. Else prove '..UptoSaid'. A law counts once. -/
mutual
def uptoBulk {H : Type} : DataW H → Nat
  | .lit (.string bytes) => bytes.length + 1
  | .lit _ => 1
  | .nil => 1
  | .ptr d => uptoBulk d + 1
  | .slice elems spare => uptoBulkAll elems + uptoBulkAll spare + 1
  | .agg parts => uptoBulkAll parts + 1
  | .iface _ d => uptoBulk d + 1
  | .map entries => uptoBulkEntries entries + 1
  | .held _ => 1
def uptoBulkAll {H : Type} : List (DataW H) → Nat
  | [] => 0
  | d :: r => uptoBulk d + uptoBulkAll r
def uptoBulkEntries {H : Type} : List (Lit × DataW H) → Nat
  | [] => 0
  | x :: r => uptoBulkEntry x + uptoBulkEntries r
def uptoBulkEntry {H : Type} : Lit × DataW H → Nat
  | (.string bytes, d) => bytes.length + uptoBulk d + 1
  | (_, d) => uptoBulk d + 1
 end
def uptoSmall : (H : Type) → List (DataW H) → Bool := fun _ ds => decide (uptoBulkAll ds ≤ 1048576)
def OpenSpec.upto (s : _root_.Go.ChangeSpec) : _root_.Go.OpenSpec := { _root_.Go.OpenSpec.ofChange s with cond := some uptoSmall }

/-- 'dailieslaw15.MediumFull', WHERE WHAT IT READS IS OF BULK AT MOST 1048576: true; the input reads as it did. -/
def mediumFullUptoRow : OpenClaim := { program := "ytokpgallfmpmkaa", sum := "ac6b24bf7bfedbf2e1840b07c6138356c17e44da5cb72a89f66a7d73051fb036", func := "dailies/dailieslaw15.MediumFull", spec := "mediumFull", inPlace := ["(*internal/sync.Mutex).Lock", "internal/race.Disable", "sync/atomic.CompareAndSwapInt32", "internal/race.Enable", "internal/race.Acquire", "(*internal/sync.Mutex).lockSlow", "internal/sync.runtime_canSpin", "internal/sync.runtime_doSpin", "internal/sync.throw", "internal/sync.runtime_nanotime", "internal/sync.runtime_SemacquireMutex", "sync/atomic.AddInt32", "(*internal/sync.Mutex).Unlock", "internal/race.ReleaseMerge", "(*internal/sync.Mutex).unlockSlow", "internal/sync.fatal", "internal/sync.runtime_Semrelease"], apart := false, narrowed := true }
def MediumFullUptoSaid : Prop := mediumFullUptoRow.holds Try.pinned (OpenSpec.upto mediumFullSpec)

/-- 'dailieslaw15.MediumLogged', WHERE WHAT IT READS IS OF BULK AT MOST 1048576: true; the input reads as it did. -/
def mediumLoggedUptoRow : OpenClaim := { program := "ytokpgallfmpmkaa", sum := "ac6b24bf7bfedbf2e1840b07c6138356c17e44da5cb72a89f66a7d73051fb036", func := "dailies/dailieslaw15.MediumLogged", spec := "mediumLogged", inPlace := ["(*internal/sync.Mutex).Lock", "internal/race.Disable", "sync/atomic.CompareAndSwapInt32", "internal/race.Enable", "internal/race.Acquire", "(*internal/sync.Mutex).lockSlow", "internal/sync.runtime_canSpin", "internal/sync.runtime_doSpin", "internal/sync.throw", "internal/sync.runtime_nanotime", "internal/sync.runtime_SemacquireMutex", "sync/atomic.AddInt32", "(*internal/sync.Mutex).Unlock", "internal/race.ReleaseMerge", "(*internal/sync.Mutex).unlockSlow", "internal/sync.fatal", "internal/sync.runtime_Semrelease"], unfollowed := true, recurses := true, apart := false, narrowed := true }
def MediumLoggedUptoSaid : Prop := mediumLoggedUptoRow.holds Try.pinned (OpenSpec.upto mediumLoggedSpec)

/-- 'dailieslaw15.MediumLasts', WHERE WHAT IT READS IS OF BULK AT MOST 1048576: true; the input reads as it did. -/
def mediumLastsUptoRow : OpenClaim := { program := "ytokpgallfmpmkaa", sum := "ac6b24bf7bfedbf2e1840b07c6138356c17e44da5cb72a89f66a7d73051fb036", func := "dailies/dailieslaw15.MediumLasts", spec := "mediumLasts", inPlace := ["(*internal/sync.Mutex).Lock", "internal/race.Disable", "sync/atomic.CompareAndSwapInt32", "internal/race.Enable", "internal/race.Acquire", "(*internal/sync.Mutex).lockSlow", "internal/sync.runtime_canSpin", "internal/sync.runtime_doSpin", "internal/sync.throw", "internal/sync.runtime_nanotime", "internal/sync.runtime_SemacquireMutex", "sync/atomic.AddInt32", "(*internal/sync.Mutex).Unlock", "internal/race.ReleaseMerge", "(*internal/sync.Mutex).unlockSlow", "internal/sync.fatal", "internal/sync.runtime_Semrelease"], unfollowed := true, recurses := true, apart := false, narrowed := true }
def MediumLastsUptoSaid : Prop := mediumLastsUptoRow.holds Try.pinned (OpenSpec.upto mediumLastsSpec)

/-- 'dailieslaw15.MediumPlays', WHERE WHAT IT READS IS OF BULK AT MOST 1048576: true; the input reads as it did. -/
def mediumPlaysUptoRow : OpenClaim := { program := "ytokpgallfmpmkaa", sum := "ac6b24bf7bfedbf2e1840b07c6138356c17e44da5cb72a89f66a7d73051fb036", func := "dailies/dailieslaw15.MediumPlays", spec := "mediumPlays", inPlace := ["(*internal/sync.Mutex).Lock", "internal/race.Disable", "sync/atomic.CompareAndSwapInt32", "internal/race.Enable", "internal/race.Acquire", "(*internal/sync.Mutex).lockSlow", "internal/sync.runtime_canSpin", "internal/sync.runtime_doSpin", "internal/sync.throw", "internal/sync.runtime_nanotime", "internal/sync.runtime_SemacquireMutex", "sync/atomic.AddInt32", "(*internal/sync.Mutex).Unlock", "internal/race.ReleaseMerge", "(*internal/sync.Mutex).unlockSlow", "internal/sync.fatal", "internal/sync.runtime_Semrelease"], unfollowed := true, recurses := true, apart := false, narrowed := true }
def MediumPlaysUptoSaid : Prop := mediumPlaysUptoRow.holds Try.pinned (OpenSpec.upto mediumPlaysSpec)

end Rows
end Go.Proofs.Ytokpgallfmpmkaa
