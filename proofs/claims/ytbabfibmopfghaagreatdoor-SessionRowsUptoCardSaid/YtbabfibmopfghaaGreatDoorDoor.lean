/-
  PROVED HERE: what a row that lists the library's own variable gives a walk; a world that meets the list.
-/
import Derived.Test.YtbabfibmopfghaaGreatDoorTold
import Derived.ChangeSame
import Derived.ChangeVars
import Derived.JoinedOf
import Derived.RowKit
import Derived.LaidLaws
import Derived.LaidHandle
import Derived.Stop.Joined
namespace Go.Proofs.YtbabfibmopfghaaGreatDoor
set_option linter.unusedSimpArgs false
set_option linter.unusedVariables false
open Go.ChangeShapes Go.WideShapes Go.RowKit

theorem ownKnobDoor : ownKnob Tryz.prog.godebug = none := by kernel_rfl
theorem laidOutDoor : laidOutB Tryz.prog = true := by kernel_rfl
theorem etDoor : Tryz.prog.globalNamed "errors.errorType" = some 0 := by kernel_rfl
theorem rtDoor : (Tryz.prog.cutTypes.find? (·.1 == "internal/reflectlite.rtype")).map (·.2) = some 295 := by kernel_rfl
theorem oneDoor : ((List.range 454).filter fun t => Tryz.prog.rowNamed t [101, 114, 114, 111, 114]) = [26] := by kernel_rfl
theorem sizeDoor : Tryz.prog.types.size = 454 := by kernel_rfl
abbrev laidList {H : Type} : List (String × DataW H) := [("errors.errorType", Rows.laid_errors_errorType)]
/-- what the condition gives a walk: the variable's one cell. -/
theorem laid_of {W : World} (h : laidMetH Tryz.prog laidList W) : Laid W := by
  have h' : laidMet Tryz.prog [] W ∧ handlesMet Tryz.prog laidList W := h
  obtain ⟨name, u, ty, e1, e2, e3, e4, e5⟩ := h'.2 _ (List.mem_singleton.2 rfl)
  have en : name = [101, 114, 114, 111, 114] := (Option.some.inj e1).symm
  subst en
  obtain rfl := Option.some.inj (rtDoor.symm.trans e2)
  have hm : ty ∈ (List.range 454).filter fun t => Tryz.prog.rowNamed t [101, 114, 114, 111, 114] := List.mem_filter.2 ⟨List.mem_range.2 (by rw [← sizeDoor]; exact e3), e4⟩
  rw [oneDoor] at hm
  obtain rfl := List.mem_singleton.1 hm
  have hh : typeHandle Tryz.prog 26 = .pointer (some ⟨10, 26, none⟩) := by kernel_rfl
  rw [hh] at e5
  have := World.var?_cell etDoor e5 0
  unfold Laid
  simpa using this

/-- a world that meets the condition: the settled one, the variable's cell laid. -/
noncomputable def laidWorld (os : Os) : World :=
  let w0 := World.holding Tryz.prog os ⟨#[], #[], []⟩
  { w0 with heap := w0.heap.modify 0 fun
      | .cells _ t frozen => .cells #[.iface 295 (.agg #[.pointer (some ⟨10, 26, none⟩)])] t frozen
      | o => o }
theorem laidWorld_met (os : Os) (args : Array Value) : laidMetH Tryz.prog laidList ((laidWorld os).forCall (fun _ _ => 0) ⟨#[], args, []⟩).memory :=
  laidMetH_of_parts (laidMet_nil _ _) (by kernel_rfl)
end Go.Proofs.YtbabfibmopfghaaGreatDoor
