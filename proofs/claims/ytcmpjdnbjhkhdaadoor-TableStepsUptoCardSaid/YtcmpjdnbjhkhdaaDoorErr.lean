/-
  HERE: an error of the project's own, as a value.
-/
import Derived.Test.YtcmpjdnbjhkhdaaDoorRows
namespace Go.Proofs.YtcmpjdnbjhkhdaaDoor
set_option linter.unusedSimpArgs false
set_option linter.unusedVariables false
/-- an error of the project's own: none, or its number. -/
def errVal (c : Int) : Value := if c = 0 then .nilIface else .iface 30 (.int .i64 c)
end Go.Proofs.YtcmpjdnbjhkhdaaDoor
