/-
  PROVED HERE: what a row that lists the library's tables, its two errors and its variable of a type gives a walk; a world that meets the list.
-/
import Derived.Test.YtcmpjdnbjhkhdaaDoorTabErr
import Derived.Test.YtcmpjdnbjhkhdaaDoorDoor
namespace Go.Proofs.YtcmpjdnbjhkhdaaDoor
set_option linter.unusedSimpArgs false
set_option linter.unusedVariables false
open Go.ChangeShapes Go.WideShapes Go.RowKit

abbrev allList : List (String × DataW Unit) := Rows.valueReadsRow.laid
theorem all_of {W : World} (h : laidMetH Tryd.prog allList W) : (ErrVars W ∧ PowTab W) ∧ Laid W := by
  have h' : laidMet Tryd.prog errList W ∧ handlesMet Tryd.prog (laidList : List (String × DataW Unit)) W := h
  refine ⟨errs_of ((Go.MakeChecks.laidMetH_plain Tryd.prog errList W (by kernel_rfl)).symm ▸ h'.1), laid_of ⟨laidMet_nil _ _, h'.2⟩⟩
noncomputable def allWorld (os : Os) : World := (laidWorld os).layVars Tryd.prog errList
theorem allWorld_data (os : Os) : laidMet Tryd.prog errList (allWorld os) := by
  have e1 : (errList.filter fun x => (errList.map (·.1)).contains x.1) = errList := List.filter_eq_self.2 fun x hx => List.contains_iff_mem.2 (List.mem_map.2 ⟨x, hx, rfl⟩)
  have e2 : (errList.filter fun x => !(errList.map (·.1)).contains x.1) = [] := List.filter_eq_nil_iff.2 fun x hx => by rw [List.contains_iff_mem.2 (List.mem_map.2 ⟨x, hx, rfl⟩)]; simp
  exact laidMet_layVars (w0 := laidWorld os) (errList.map (·.1)) [] (by rw [e1]; rfl) (by rw [e1]; kernel_rfl) (by rw [e1]; kernel_rfl) (by rw [e2]; exact LaidIn.none)
theorem allWorld_met (os : Os) (args : Array Value) : laidMetH Tryd.prog allList ((allWorld os).forCall (fun _ _ => 0) ⟨#[], args, []⟩).memory :=
  laidMetH_of_parts (l := allList) ((allWorld_data os).of_heap (by simp [World.memory, World.forCall, Input.heap])) (by kernel_rfl)
end Go.Proofs.YtcmpjdnbjhkhdaaDoor
