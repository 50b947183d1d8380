/-
  No cell of these rows narrows 'for every input' (looked for: loops, veiled, ifaces, maps, wideKeys, modest, calm, conditions, laid).
  DERIVED. THE GIVEN ROWS OF THIS SEAT. 6 by the template 'for every input the law returns true; each argument reads behind the call as it read before'; 0 by the template 'total and deterministic' (their statements: YtlijhbmildfffaaTotals.lean).
  GIVEN WITH THE SEED: the statements are not yours to turn. If you find one false, say at which input.
  Laid BY PROGRAM, IN A SANDBOX (cutbox-rows.mjs): the forced cells as the released guide's own fill.sh prints them over the translation 5232246064f45b0a… (all of the seat's roots in one cut). By AI agents, Wed Nov 11 2026. No macro, syntax, notation, axiom, sorry.
-/
import Derived.Test.YtlijhbmildfffaaChecked
import GoSem.Claim
import GoSem.ClaimJoined
import GoSem.ClaimMapViews
import Derived.JoinedTies
import Derived.KernelRfl
namespace Go.Proofs.Ytlijhbmildfffaa
/- THE CELL 'sum', in the pinned program and in every row, IS THE sha256 OF THE DUMP (.gsa) THAT YtlijhbmildfffaaProg.lean LOADS. Nothing in Lean hashes anything: it is a label: what it is worth is what the hold of that sum in a sandbox is worth. -/
noncomputable def Try.pinned : Pinned := { name := "ytlijhbmildfffaa", sum := "5232246064f45b0abc58d34aee5f1ec26c43180eba84e10e7f571b1b8ead4e6c", checked := Try.checked }
namespace Rows
def none {H : Type} : Left H := { results := [], args := [] }

/-- 'dailieslaw11.ArenaNames': WHATEVER THE INPUT: true; the input reads as it did. -/
def arenaNamesSpec : ChangeSpec := { name := "arenaNames", fn := fun _ => fun
  | [] => { results := [.lit (.bool true)], args := [] }
  | _ => none }
def arenaNamesRow : OpenClaim := { program := "ytlijhbmildfffaa", sum := "5232246064f45b0abc58d34aee5f1ec26c43180eba84e10e7f571b1b8ead4e6c", func := "dailies/dailieslaw11.ArenaNames", spec := "arenaNames", apart := false }
def ArenaNamesSaid : Prop := arenaNamesRow.holds Try.pinned (OpenSpec.ofChange arenaNamesSpec)

/-- ITS FALSE NEIGHBOUR: 'it returns false'. Refute it at one input. -/
def arenaNamesWrong : ChangeSpec := { name := "arenaNames", fn := fun _ => fun
  | [] => { results := [.lit (.bool false)], args := [] }
  | _ => none }
def ArenaNamesWrongFalsely : Prop := arenaNamesRow.holds Try.pinned (OpenSpec.ofChange arenaNamesWrong)

/-- 'dailieslaw12.PictureNames': WHATEVER THE INPUT: true; the input reads as it did. -/
def pictureNamesSpec : ChangeSpec := { name := "pictureNames", fn := fun _ => fun
  | [] => { results := [.lit (.bool true)], args := [] }
  | _ => none }
def pictureNamesRow : OpenClaim := { program := "ytlijhbmildfffaa", sum := "5232246064f45b0abc58d34aee5f1ec26c43180eba84e10e7f571b1b8ead4e6c", func := "dailies/dailieslaw12.PictureNames", spec := "pictureNames", apart := false }
def PictureNamesSaid : Prop := pictureNamesRow.holds Try.pinned (OpenSpec.ofChange pictureNamesSpec)

/-- ITS FALSE NEIGHBOUR: 'it returns false'. Refute it at one input. -/
def pictureNamesWrong : ChangeSpec := { name := "pictureNames", fn := fun _ => fun
  | [] => { results := [.lit (.bool false)], args := [] }
  | _ => none }
def PictureNamesWrongFalsely : Prop := pictureNamesRow.holds Try.pinned (OpenSpec.ofChange pictureNamesWrong)

/-- 'dailieslaw14.PoolNames': WHATEVER THE INPUT: true; the input reads as it did. -/
def poolNamesSpec : ChangeSpec := { name := "poolNames", fn := fun _ => fun
  | [] => { results := [.lit (.bool true)], args := [] }
  | _ => none }
def poolNamesRow : OpenClaim := { program := "ytlijhbmildfffaa", sum := "5232246064f45b0abc58d34aee5f1ec26c43180eba84e10e7f571b1b8ead4e6c", func := "dailies/dailieslaw14.PoolNames", spec := "poolNames", apart := false }
def PoolNamesSaid : Prop := poolNamesRow.holds Try.pinned (OpenSpec.ofChange poolNamesSpec)

/-- ITS FALSE NEIGHBOUR: 'it returns false'. Refute it at one input. -/
def poolNamesWrong : ChangeSpec := { name := "poolNames", fn := fun _ => fun
  | [] => { results := [.lit (.bool false)], args := [] }
  | _ => none }
def PoolNamesWrongFalsely : Prop := poolNamesRow.holds Try.pinned (OpenSpec.ofChange poolNamesWrong)

/-- 'dailieslaw17.SessionNames': WHATEVER THE INPUT: true; the input reads as it did. -/
def sessionNamesSpec : ChangeSpec := { name := "sessionNames", fn := fun _ => fun
  | [] => { results := [.lit (.bool true)], args := [] }
  | _ => none }
def sessionNamesRow : OpenClaim := { program := "ytlijhbmildfffaa", sum := "5232246064f45b0abc58d34aee5f1ec26c43180eba84e10e7f571b1b8ead4e6c", func := "dailies/dailieslaw17.SessionNames", spec := "sessionNames", apart := false }
def SessionNamesSaid : Prop := sessionNamesRow.holds Try.pinned (OpenSpec.ofChange sessionNamesSpec)

/-- ITS FALSE NEIGHBOUR: 'it returns false'. Refute it at one input. -/
def sessionNamesWrong : ChangeSpec := { name := "sessionNames", fn := fun _ => fun
  | [] => { results := [.lit (.bool false)], args := [] }
  | _ => none }
def SessionNamesWrongFalsely : Prop := sessionNamesRow.holds Try.pinned (OpenSpec.ofChange sessionNamesWrong)

/-- 'dailieslaw20.ConformNames': WHATEVER THE INPUT: true; the input reads as it did. -/
def conformNamesSpec : ChangeSpec := { name := "conformNames", fn := fun _ => fun
  | [] => { results := [.lit (.bool true)], args := [] }
  | _ => none }
def conformNamesRow : OpenClaim := { program := "ytlijhbmildfffaa", sum := "5232246064f45b0abc58d34aee5f1ec26c43180eba84e10e7f571b1b8ead4e6c", func := "dailies/dailieslaw20.ConformNames", spec := "conformNames", apart := false }
def ConformNamesSaid : Prop := conformNamesRow.holds Try.pinned (OpenSpec.ofChange conformNamesSpec)

/-- ITS FALSE NEIGHBOUR: 'it returns false'. Refute it at one input. -/
def conformNamesWrong : ChangeSpec := { name := "conformNames", fn := fun _ => fun
  | [] => { results := [.lit (.bool false)], args := [] }
  | _ => none }
def ConformNamesWrongFalsely : Prop := conformNamesRow.holds Try.pinned (OpenSpec.ofChange conformNamesWrong)

/-- 'dailieslaw15.MediumNames': WHATEVER THE INPUT: true; the input reads as it did. -/
def mediumNamesSpec : ChangeSpec := { name := "mediumNames", fn := fun _ => fun
  | [] => { results := [.lit (.bool true)], args := [] }
  | _ => none }
def mediumNamesRow : OpenClaim := { program := "ytlijhbmildfffaa", sum := "5232246064f45b0abc58d34aee5f1ec26c43180eba84e10e7f571b1b8ead4e6c", func := "dailies/dailieslaw15.MediumNames", spec := "mediumNames", apart := false }
def MediumNamesSaid : Prop := mediumNamesRow.holds Try.pinned (OpenSpec.ofChange mediumNamesSpec)

/-- ITS FALSE NEIGHBOUR: 'it returns false'. Refute it at one input. -/
def mediumNamesWrong : ChangeSpec := { name := "mediumNames", fn := fun _ => fun
  | [] => { results := [.lit (.bool false)], args := [] }
  | _ => none }
def MediumNamesWrongFalsely : Prop := mediumNamesRow.holds Try.pinned (OpenSpec.ofChange mediumNamesWrong)

/- THE SECOND FORM. 'bulk': how many values and letters a reading holds, each counted each time it is reached (what is shared counts as often as it is met; a slice's spare places count too). A statement '..UptoSaid' is the law's where the arguments, and the package variables that the reading takes, are together of bulk at most 1048576: NARROWER than '..Said'. Prove '..Said' where nothing that the law and all that it calls make is longer than what came in: it says more and counts as full. Else prove '..UptoSaid'. A law counts once. -/
mutual
def uptoBulk {H : Type} : DataW H → Nat
  | .lit (.string bytes) => bytes.length + 1
  | .lit _ => 1
  | .nil => 1
  | .ptr d => uptoBulk d + 1
  | .slice elems spare => uptoBulkAll elems + uptoBulkAll spare + 1
  | .agg parts => uptoBulkAll parts + 1
  | .iface _ d => uptoBulk d + 1
  | .map entries => uptoBulkEntries entries + 1
  | .held _ => 1
def uptoBulkAll {H : Type} : List (DataW H) → Nat
  | [] => 0
  | d :: r => uptoBulk d + uptoBulkAll r
def uptoBulkEntries {H : Type} : List (Lit × DataW H) → Nat
  | [] => 0
  | x :: r => uptoBulkEntry x + uptoBulkEntries r
def uptoBulkEntry {H : Type} : Lit × DataW H → Nat
  | (.string bytes, d) => bytes.length + uptoBulk d + 1
  | (_, d) => uptoBulk d + 1
 end
def uptoSmall : (H : Type) → List (DataW H) → Bool := fun _ ds => decide (uptoBulkAll ds ≤ 1048576)
def OpenSpec.upto (s : _root_.Go.ChangeSpec) : _root_.Go.OpenSpec := { _root_.Go.OpenSpec.ofChange s with cond := some uptoSmall }

/-- 'dailieslaw11.ArenaNames', WHERE WHAT IT READS IS OF BULK AT MOST 1048576: true; the input reads as it did. -/
def arenaNamesUptoRow : OpenClaim := { program := "ytlijhbmildfffaa", sum := "5232246064f45b0abc58d34aee5f1ec26c43180eba84e10e7f571b1b8ead4e6c", func := "dailies/dailieslaw11.ArenaNames", spec := "arenaNames", apart := false, narrowed := true }
def ArenaNamesUptoSaid : Prop := arenaNamesUptoRow.holds Try.pinned (OpenSpec.upto arenaNamesSpec)

/-- 'dailieslaw12.PictureNames', WHERE WHAT IT READS IS OF BULK AT MOST 1048576: true; the input reads as it did. -/
def pictureNamesUptoRow : OpenClaim := { program := "ytlijhbmildfffaa", sum := "5232246064f45b0abc58d34aee5f1ec26c43180eba84e10e7f571b1b8ead4e6c", func := "dailies/dailieslaw12.PictureNames", spec := "pictureNames", apart := false, narrowed := true }
def PictureNamesUptoSaid : Prop := pictureNamesUptoRow.holds Try.pinned (OpenSpec.upto pictureNamesSpec)

/-- 'dailieslaw14.PoolNames', WHERE WHAT IT READS IS OF BULK AT MOST 1048576: true; the input reads as it did. -/
def poolNamesUptoRow : OpenClaim := { program := "ytlijhbmildfffaa", sum := "5232246064f45b0abc58d34aee5f1ec26c43180eba84e10e7f571b1b8ead4e6c", func := "dailies/dailieslaw14.PoolNames", spec := "poolNames", apart := false, narrowed := true }
def PoolNamesUptoSaid : Prop := poolNamesUptoRow.holds Try.pinned (OpenSpec.upto poolNamesSpec)

/-- 'dailieslaw17.SessionNames', WHERE WHAT IT READS IS OF BULK AT MOST 1048576: true; the input reads as it did. -/
def sessionNamesUptoRow : OpenClaim := { program := "ytlijhbmildfffaa", sum := "5232246064f45b0abc58d34aee5f1ec26c43180eba84e10e7f571b1b8ead4e6c", func := "dailies/dailieslaw17.SessionNames", spec := "sessionNames", apart := false, narrowed := true }
def SessionNamesUptoSaid : Prop := sessionNamesUptoRow.holds Try.pinned (OpenSpec.upto sessionNamesSpec)

/-- 'dailieslaw20.ConformNames', WHERE WHAT IT READS IS OF BULK AT MOST 1048576: true; the input reads as it did. -/
def conformNamesUptoRow : OpenClaim := { program := "ytlijhbmildfffaa", sum := "5232246064f45b0abc58d34aee5f1ec26c43180eba84e10e7f571b1b8ead4e6c", func := "dailies/dailieslaw20.ConformNames", spec := "conformNames", apart := false, narrowed := true }
def ConformNamesUptoSaid : Prop := conformNamesUptoRow.holds Try.pinned (OpenSpec.upto conformNamesSpec)

/-- 'dailieslaw15.MediumNames', WHERE WHAT IT READS IS OF BULK AT MOST 1048576: true; the input reads as it did. -/
def mediumNamesUptoRow : OpenClaim := { program := "ytlijhbmildfffaa", sum := "5232246064f45b0abc58d34aee5f1ec26c43180eba84e10e7f571b1b8ead4e6c", func := "dailies/dailieslaw15.MediumNames", spec := "mediumNames", apart := false, narrowed := true }
def MediumNamesUptoSaid : Prop := mediumNamesUptoRow.holds Try.pinned (OpenSpec.upto mediumNamesSpec)

end Rows
end Go.Proofs.Ytlijhbmildfffaa
