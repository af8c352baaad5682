import Derived.Test.YtdemfbfdhpccpaaDoorRows
import Derived.LaidMore
import Derived.MakeChecks
import Derived.Stop.Joined
import Derived.Carry
/- The variables that the cards of chapter 05 lay. -/
namespace Go.Proofs.YtdemfbfdhpccpaaDoor
open Go.ChangeShapes Go.WideShapes Go.RowKit
set_option linter.unusedSimpArgs false
set_option linter.unusedVariables false
abbrev laidTab : List (String × DataW Unit) := Rows.lexNamesRow.laid
set_option maxRecDepth 100000 in
theorem door_met (os : Os) (args : Array Value) : laidMetH Tryd.prog laidTab ((World.doorLaid Tryd.prog 400 os).forCall (fun _ _ => 0) ⟨#[], args, []⟩).memory :=
  laidMetH_of_parts3 (fuel := 8) (laidMet_of_run' 8 (by kernel_rfl) (by kernel_rfl)) (by kernel_rfl) (by kernel_rfl)
end Go.Proofs.YtdemfbfdhpccpaaDoor
