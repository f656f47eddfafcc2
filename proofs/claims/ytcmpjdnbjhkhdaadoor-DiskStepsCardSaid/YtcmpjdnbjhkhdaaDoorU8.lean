/-
  PROVED HERE: what the table of types says of a byte.
-/
import Derived.Test.YtcmpjdnbjhkhdaaDoorBytes
import Derived.Test.YtcmpjdnbjhkhdaaDoorRows
namespace Go.Proofs.YtcmpjdnbjhkhdaaDoor
set_option linter.unusedSimpArgs false
set_option linter.unusedVariables false
open Go.RowKit
theorem infoU8 : (Tryd.prog.info? 5).map (fun i => (i.zero, i.size, i.bytes)) = some (some (.int .u8 0), 1, 1) := by kernel_rfl
end Go.Proofs.YtcmpjdnbjhkhdaaDoor
