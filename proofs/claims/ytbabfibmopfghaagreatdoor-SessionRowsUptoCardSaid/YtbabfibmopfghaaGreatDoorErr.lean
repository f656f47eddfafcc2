/-
  HERE: an error of the project's own, as a value.
-/
import Derived.Test.YtbabfibmopfghaaGreatDoorRows
namespace Go.Proofs.YtbabfibmopfghaaGreatDoor
set_option linter.unusedSimpArgs false
set_option linter.unusedVariables false
/-- an error of the project's own: none, or its number. -/
def errVal (c : Int) : Value := if c = 0 then .nilIface else .iface 31 (.int .i64 c)
end Go.Proofs.YtbabfibmopfghaaGreatDoor
