/-
  No cell of these rows narrows 'for every input' (looked for: loops, veiled, ifaces, maps, wideKeys, modest, calm, conditions, laid).
  DERIVED. THE GIVEN ROWS OF THIS SEAT. 5 by the template 'for every input the law returns true; each argument reads behind the call as it read before'; 0 by the template 'total and deterministic' (their statements: YtocijepcfannnaaTotals.lean).
  GIVEN WITH THE SEED: the statements are not yours to turn. If you find one false, say at which input.
  Laid BY PROGRAM, IN A SANDBOX (cutbox-rows.mjs): the forced cells as the released guide's own fill.sh prints them over the translation 197cf26448edacbc… (all of the seat's roots in one cut). By AI agents, Wed Nov 11 2026. No macro, syntax, notation, axiom, sorry.
-/
import Derived.Test.YtocijepcfannnaaChecked
import GoSem.Claim
import GoSem.ClaimJoined
import GoSem.ClaimMapViews
import Derived.JoinedTies
import Derived.KernelRfl
namespace Go.Proofs.Ytocijepcfannnaa
/- THE CELL 'sum', in the pinned program and in every row, IS THE sha256 OF THE DUMP (.gsa) THAT YtocijepcfannnaaProg.lean LOADS. Nothing in Lean hashes anything: it is a label: what it is worth is what the hold of that sum in a sandbox is worth. -/
noncomputable def Try.pinned : Pinned := { name := "ytocijepcfannnaa", sum := "197cf26448edacbcd69e0e79082613f1fbef1b35b14f2afe01c705a7ef8aab09", checked := Try.checked }
namespace Rows
def none {H : Type} : Left H := { results := [], args := [] }

/-- 'dailieslaw13.ViewNames': WHATEVER THE INPUT: true; the input reads as it did. -/
def viewNamesSpec : ChangeSpec := { name := "viewNames", fn := fun _ => fun
  | [] => { results := [.lit (.bool true)], args := [] }
  | _ => none }
def viewNamesRow : OpenClaim := { program := "ytocijepcfannnaa", sum := "197cf26448edacbcd69e0e79082613f1fbef1b35b14f2afe01c705a7ef8aab09", func := "dailies/dailieslaw13.ViewNames", spec := "viewNames", unfollowed := true, recurses := true, apart := false }
def ViewNamesSaid : Prop := viewNamesRow.holds Try.pinned (OpenSpec.ofChange viewNamesSpec)

/-- ITS FALSE NEIGHBOUR: 'it returns false'. Refute it at one input. -/
def viewNamesWrong : ChangeSpec := { name := "viewNames", fn := fun _ => fun
  | [] => { results := [.lit (.bool false)], args := [] }
  | _ => none }
def ViewNamesWrongFalsely : Prop := viewNamesRow.holds Try.pinned (OpenSpec.ofChange viewNamesWrong)

/-- 'dailieslaw13.ViewOf': WHATEVER THE INPUT: true; the input reads as it did. -/
def viewOfSpec : ChangeSpec := { name := "viewOf", fn := fun _ => fun
  | [d1, d2, d3] => { results := [.lit (.bool true)], args := [d1, d2, d3] }
  | _ => none }
def viewOfRow : OpenClaim := { program := "ytocijepcfannnaa", sum := "197cf26448edacbcd69e0e79082613f1fbef1b35b14f2afe01c705a7ef8aab09", func := "dailies/dailieslaw13.ViewOf", spec := "viewOf", unfollowed := true, recurses := true, apart := false }
def ViewOfSaid : Prop := viewOfRow.holds Try.pinned (OpenSpec.ofChange viewOfSpec)

/-- ITS FALSE NEIGHBOUR: 'it returns false'. Refute it at one input. -/
def viewOfWrong : ChangeSpec := { name := "viewOf", fn := fun _ => fun
  | [d1, d2, d3] => { results := [.lit (.bool false)], args := [d1, d2, d3] }
  | _ => none }
def ViewOfWrongFalsely : Prop := viewOfRow.holds Try.pinned (OpenSpec.ofChange viewOfWrong)

/-- 'dailieslaw11.ArenaGreat': WHATEVER THE INPUT: true; the input reads as it did. -/
def arenaGreatSpec : ChangeSpec := { name := "arenaGreat", fn := fun _ => fun
  | [d1, d2] => { results := [.lit (.bool true)], args := [d1, d2] }
  | _ => none }
def arenaGreatRow : OpenClaim := { program := "ytocijepcfannnaa", sum := "197cf26448edacbcd69e0e79082613f1fbef1b35b14f2afe01c705a7ef8aab09", func := "dailies/dailieslaw11.ArenaGreat", spec := "arenaGreat", apart := false }
def ArenaGreatSaid : Prop := arenaGreatRow.holds Try.pinned (OpenSpec.ofChange arenaGreatSpec)

/-- ITS FALSE NEIGHBOUR: 'it returns false'. Refute it at one input. -/
def arenaGreatWrong : ChangeSpec := { name := "arenaGreat", fn := fun _ => fun
  | [d1, d2] => { results := [.lit (.bool false)], args := [d1, d2] }
  | _ => none }
def ArenaGreatWrongFalsely : Prop := arenaGreatRow.holds Try.pinned (OpenSpec.ofChange arenaGreatWrong)

/-- 'dailieslaw11.ArenaPlays': WHATEVER THE INPUT: true; the input reads as it did. -/
def arenaPlaysSpec : ChangeSpec := { name := "arenaPlays", fn := fun _ => fun
  | [d1, d2] => { results := [.lit (.bool true)], args := [d1, d2] }
  | _ => none }
def arenaPlaysRow : OpenClaim := { program := "ytocijepcfannnaa", sum := "197cf26448edacbcd69e0e79082613f1fbef1b35b14f2afe01c705a7ef8aab09", func := "dailies/dailieslaw11.ArenaPlays", spec := "arenaPlays", apart := false }
def ArenaPlaysSaid : Prop := arenaPlaysRow.holds Try.pinned (OpenSpec.ofChange arenaPlaysSpec)

/-- ITS FALSE NEIGHBOUR: 'it returns false'. Refute it at one input. -/
def arenaPlaysWrong : ChangeSpec := { name := "arenaPlays", fn := fun _ => fun
  | [d1, d2] => { results := [.lit (.bool false)], args := [d1, d2] }
  | _ => none }
def ArenaPlaysWrongFalsely : Prop := arenaPlaysRow.holds Try.pinned (OpenSpec.ofChange arenaPlaysWrong)

/-- 'dailieslaw11.ArenaMeter': WHATEVER THE INPUT: true; the input reads as it did. -/
def arenaMeterSpec : ChangeSpec := { name := "arenaMeter", fn := fun _ => fun
  | [d1, d2, d3] => { results := [.lit (.bool true)], args := [d1, d2, d3] }
  | _ => none }
def arenaMeterRow : OpenClaim := { program := "ytocijepcfannnaa", sum := "197cf26448edacbcd69e0e79082613f1fbef1b35b14f2afe01c705a7ef8aab09", func := "dailies/dailieslaw11.ArenaMeter", spec := "arenaMeter", apart := false }
def ArenaMeterSaid : Prop := arenaMeterRow.holds Try.pinned (OpenSpec.ofChange arenaMeterSpec)

/-- ITS FALSE NEIGHBOUR: 'it returns false'. Refute it at one input. -/
def arenaMeterWrong : ChangeSpec := { name := "arenaMeter", fn := fun _ => fun
  | [d1, d2, d3] => { results := [.lit (.bool false)], args := [d1, d2, d3] }
  | _ => none }
def ArenaMeterWrongFalsely : Prop := arenaMeterRow.holds Try.pinned (OpenSpec.ofChange arenaMeterWrong)

/- THE SECOND FORM. 'bulk': how many values and letters a reading holds, each counted each time it is reached (what is shared counts as often as it is met; a slice's spare places count too). A statement '..UptoSaid' is the law's where the arguments, and the package variables that the reading takes, are together of bulk at most 1048576: NARROWER than '..Said'. Prove '..Said' where nothing that the law and all that it calls make is longer than what came in: it says more and counts as full. Else prove '..UptoSaid'. A law counts once. -/
mutual
def uptoBulk {H : Type} : DataW H → Nat
  | .lit (.string bytes) => bytes.length + 1
  | .lit _ => 1
  | .nil => 1
  | .ptr d => uptoBulk d + 1
  | .slice elems spare => uptoBulkAll elems + uptoBulkAll spare + 1
  | .agg parts => uptoBulkAll parts + 1
  | .iface _ d => uptoBulk d + 1
  | .map entries => uptoBulkEntries entries + 1
  | .held _ => 1
def uptoBulkAll {H : Type} : List (DataW H) → Nat
  | [] => 0
  | d :: r => uptoBulk d + uptoBulkAll r
def uptoBulkEntries {H : Type} : List (Lit × DataW H) → Nat
  | [] => 0
  | x :: r => uptoBulkEntry x + uptoBulkEntries r
def uptoBulkEntry {H : Type} : Lit × DataW H → Nat
  | (.string bytes, d) => bytes.length + uptoBulk d + 1
  | (_, d) => uptoBulk d + 1
 end
def uptoSmall : (H : Type) → List (DataW H) → Bool := fun _ ds => decide (uptoBulkAll ds ≤ 1048576)
def OpenSpec.upto (s : _root_.Go.ChangeSpec) : _root_.Go.OpenSpec := { _root_.Go.OpenSpec.ofChange s with cond := some uptoSmall }

/-- 'dailieslaw13.ViewNames', WHERE WHAT IT READS IS OF BULK AT MOST 1048576: true; the input reads as it did. -/
def viewNamesUptoRow : OpenClaim := { program := "ytocijepcfannnaa", sum := "197cf26448edacbcd69e0e79082613f1fbef1b35b14f2afe01c705a7ef8aab09", func := "dailies/dailieslaw13.ViewNames", spec := "viewNames", unfollowed := true, recurses := true, apart := false, narrowed := true }
def ViewNamesUptoSaid : Prop := viewNamesUptoRow.holds Try.pinned (OpenSpec.upto viewNamesSpec)

/-- 'dailieslaw13.ViewOf', WHERE WHAT IT READS IS OF BULK AT MOST 1048576: true; the input reads as it did. -/
def viewOfUptoRow : OpenClaim := { program := "ytocijepcfannnaa", sum := "197cf26448edacbcd69e0e79082613f1fbef1b35b14f2afe01c705a7ef8aab09", func := "dailies/dailieslaw13.ViewOf", spec := "viewOf", unfollowed := true, recurses := true, apart := false, narrowed := true }
def ViewOfUptoSaid : Prop := viewOfUptoRow.holds Try.pinned (OpenSpec.upto viewOfSpec)

/-- 'dailieslaw11.ArenaGreat', WHERE WHAT IT READS IS OF BULK AT MOST 1048576: true; the input reads as it did. -/
def arenaGreatUptoRow : OpenClaim := { program := "ytocijepcfannnaa", sum := "197cf26448edacbcd69e0e79082613f1fbef1b35b14f2afe01c705a7ef8aab09", func := "dailies/dailieslaw11.ArenaGreat", spec := "arenaGreat", apart := false, narrowed := true }
def ArenaGreatUptoSaid : Prop := arenaGreatUptoRow.holds Try.pinned (OpenSpec.upto arenaGreatSpec)

/-- 'dailieslaw11.ArenaPlays', WHERE WHAT IT READS IS OF BULK AT MOST 1048576: true; the input reads as it did. -/
def arenaPlaysUptoRow : OpenClaim := { program := "ytocijepcfannnaa", sum := "197cf26448edacbcd69e0e79082613f1fbef1b35b14f2afe01c705a7ef8aab09", func := "dailies/dailieslaw11.ArenaPlays", spec := "arenaPlays", apart := false, narrowed := true }
def ArenaPlaysUptoSaid : Prop := arenaPlaysUptoRow.holds Try.pinned (OpenSpec.upto arenaPlaysSpec)

/-- 'dailieslaw11.ArenaMeter', WHERE WHAT IT READS IS OF BULK AT MOST 1048576: true; the input reads as it did. -/
def arenaMeterUptoRow : OpenClaim := { program := "ytocijepcfannnaa", sum := "197cf26448edacbcd69e0e79082613f1fbef1b35b14f2afe01c705a7ef8aab09", func := "dailies/dailieslaw11.ArenaMeter", spec := "arenaMeter", apart := false, narrowed := true }
def ArenaMeterUptoSaid : Prop := arenaMeterUptoRow.holds Try.pinned (OpenSpec.upto arenaMeterSpec)

end Rows
end Go.Proofs.Ytocijepcfannnaa
