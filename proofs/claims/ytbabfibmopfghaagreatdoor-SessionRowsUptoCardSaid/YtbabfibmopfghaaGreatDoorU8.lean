/-
  PROVED HERE: what the table of types says of a byte.
-/
import Derived.Test.YtbabfibmopfghaaGreatDoorBytes
import Derived.Test.YtbabfibmopfghaaGreatDoorRows
namespace Go.Proofs.YtbabfibmopfghaaGreatDoor
set_option linter.unusedSimpArgs false
set_option linter.unusedVariables false
open Go.RowKit
theorem infoU8 : (Tryz.prog.info? 5).map (fun i => (i.zero, i.size, i.bytes)) = some (some (.int .u8 0), 1, 1) := by kernel_rfl
end Go.Proofs.YtbabfibmopfghaaGreatDoor
