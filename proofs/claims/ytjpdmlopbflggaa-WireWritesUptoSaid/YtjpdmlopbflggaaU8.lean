/-
  PROVED HERE: what the table of types says of a byte.
-/
import Derived.Test.YtjpdmlopbflggaaBytes
import Derived.Test.YtjpdmlopbflggaaRows
namespace Go.Proofs.Ytjpdmlopbflggaa
open Go.RowKit
theorem infoU8 : (Try.prog.info? 5).map (fun i => (i.zero, i.size, i.bytes)) = some (some (.int .u8 0), 1, 1) := by kernel_rfl
end Go.Proofs.Ytjpdmlopbflggaa
