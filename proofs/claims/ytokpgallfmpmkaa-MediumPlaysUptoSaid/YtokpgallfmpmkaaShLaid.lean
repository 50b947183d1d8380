/- The layer 'Sh': package-level variables that a row lists: the cells that a datum takes; what such a variable's cells hold. No condition but those that each statement names. -/
import Derived.Test.YtokpgallfmpmkaaShRows
import Derived.LaidLaws
import Derived.Lib.LaidTab
namespace Go.Sh
open Go Go.RowKit Go.ChangeShapes Go.WideShapes
set_option linter.unusedVariables false
mutual
def dcells : DataW Unit → List Value
  | .lit (.int k n) => [.int k n]
  | .lit (.bool b) => [.bool b]
  | .agg l => dcellsL l
  | _ => []
def dcellsL : List (DataW Unit) → List Value
  | [] => []
  | d :: r => dcells d ++ dcellsL r
end
/-- the settled world, with variables laid -/
def laidWorld (P : Program) (os : Os) (args : Array Value) (l : List (Nat × DataW Unit)) : World :=
  l.foldl (fun w x => { w with heap := w.heap.modify x.1 fun
      | .cells _ t frozen => .cells (dcells x.2).toArray t frozen
      | o => o }) (World.holding P os ⟨#[], args, []⟩)
end Go.Sh
