/-
  PROVED HERE: two endings with equal numbers, equal truths. No program of its own.
-/
import Derived.Test.YtbabfibmopfghaaGreatDoorRows
import Derived.Test.YtbabfibmopfghaaGreatDoorOrdPlain
import Derived.Deep.QuietTactic
import Derived.BigQuiet
import Derived.WalkLawsBesides
namespace Go.Proofs.YtbabfibmopfghaaGreatDoor
set_option linter.unusedSimpArgs false
set_option linter.unusedVariables false
open Go.RowKit

theorem ret_int {k : IntKind} {a b : Int} (h : a = b) : Ending.returned (.int k a) = .returned (.int k b) := by rw [h]
theorem ret_bool {a b : Bool} (h : a = b) : Ending.returned (.bool a) = .returned (.bool b) := by rw [h]
end Go.Proofs.YtbabfibmopfghaaGreatDoor
