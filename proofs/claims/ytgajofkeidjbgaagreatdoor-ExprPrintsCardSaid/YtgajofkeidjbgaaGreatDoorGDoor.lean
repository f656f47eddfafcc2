/-
  PROVED HERE: what a row that lists the library's own variable gives a walk; a world that meets the list.
  PROVED HERE: what a row that lists the library's tables, its two errors and its variable of a type gives a walk; a world that meets the list.
-/
import Derived.Test.YtgajofkeidjbgaaGreatDoorGErr
import Derived.ChangeSame
import Derived.ChangeVars
import Derived.JoinedOf
import Derived.RowKit
import Derived.LaidLaws
import Derived.LaidHandle
import Derived.Stop.Joined
import Derived.Test.YtgajofkeidjbgaaGreatDoorTabErr
namespace Go.Proofs.YtgajofkeidjbgaaGreatDoor
set_option linter.unusedSimpArgs false
set_option linter.unusedVariables false
open Go.ChangeShapes Go.WideShapes Go.RowKit

theorem ownKnobDoor : ownKnob Tryz.prog.godebug = none := by kernel_rfl
theorem laidOutDoor : laidOutB Tryz.prog = true := by kernel_rfl
theorem etDoor : Tryz.prog.globalNamed "errors.errorType" = some 0 := by kernel_rfl
theorem rtDoor : (Tryz.prog.cutTypes.find? (·.1 == "internal/reflectlite.rtype")).map (·.2) = some 146 := by kernel_rfl
theorem oneDoor : ((List.range 286).filter fun t => Tryz.prog.rowNamed t [101, 114, 114, 111, 114]) = [23] := by kernel_rfl
theorem sizeDoor : Tryz.prog.types.size = 286 := by kernel_rfl
abbrev laidList {H : Type} : List (String × DataW H) := [("errors.errorType", Rows.laid_errors_errorType)]
/-- what the condition gives a walk: the variable's one cell. -/
theorem laid_of {W : World} (h : laidMetH Tryz.prog laidList W) : Laid W := by
  have h' : laidMet Tryz.prog [] W ∧ handlesMet Tryz.prog laidList W := h
  obtain ⟨name, u, ty, e1, e2, e3, e4, e5⟩ := h'.2 _ (List.mem_singleton.2 rfl)
  have en : name = [101, 114, 114, 111, 114] := (Option.some.inj e1).symm
  subst en
  obtain rfl := Option.some.inj (rtDoor.symm.trans e2)
  have hm : ty ∈ (List.range 286).filter fun t => Tryz.prog.rowNamed t [101, 114, 114, 111, 114] := List.mem_filter.2 ⟨List.mem_range.2 (by rw [← sizeDoor]; exact e3), e4⟩
  rw [oneDoor] at hm
  obtain rfl := List.mem_singleton.1 hm
  have hh : typeHandle Tryz.prog 23 = .pointer (some ⟨10, 23, none⟩) := by kernel_rfl
  rw [hh] at e5
  have := World.var?_cell etDoor e5 0
  unfold Laid
  simpa using this

/-- a world that meets the condition: the settled one, the variable's cell laid. -/
noncomputable def laidWorld (os : Os) : World :=
  let w0 := World.holding Tryz.prog os ⟨#[], #[], []⟩
  { w0 with heap := w0.heap.modify 0 fun
      | .cells _ t frozen => .cells #[.iface 146 (.agg #[.pointer (some ⟨10, 23, none⟩)])] t frozen
      | o => o }
theorem laidWorld_met (os : Os) (args : Array Value) : laidMetH Tryz.prog laidList ((laidWorld os).forCall (fun _ _ => 0) ⟨#[], args, []⟩).memory :=
  laidMetH_of_parts (laidMet_nil _ _) (by kernel_rfl)
end Go.Proofs.YtgajofkeidjbgaaGreatDoor
namespace Go.Proofs.YtgajofkeidjbgaaGreatDoor
set_option linter.unusedSimpArgs false
set_option linter.unusedVariables false
open Go.ChangeShapes Go.WideShapes Go.RowKit

abbrev allList : List (String × DataW Unit) := [("math/bits.deBruijn32tab", Rows.laid_math_bits_deBruijn32tab), ("math/bits.deBruijn64tab", Rows.laid_math_bits_deBruijn64tab), ("internal/strconv.uint64pow10", Rows.laid_internal_strconv_uint64pow10), ("errors.errorType", Rows.laid_errors_errorType), ("strconv.ErrRange", Rows.laid_strconv_ErrRange), ("strconv.ErrSyntax", Rows.laid_strconv_ErrSyntax)]
theorem all_of {W : World} (h : laidMetH Tryz.prog allList W) : (ErrVars W ∧ PowTab W) ∧ Laid W := by
  have h' : laidMet Tryz.prog errList W ∧ handlesMet Tryz.prog (laidList : List (String × DataW Unit)) W := h
  refine ⟨errs_of ((Go.MakeChecks.laidMetH_plain Tryz.prog errList W (by kernel_rfl)).symm ▸ h'.1), laid_of ⟨laidMet_nil _ _, h'.2⟩⟩
noncomputable def allWorld (os : Os) : World := (laidWorld os).layVars Tryz.prog errList
theorem allWorld_data (os : Os) : laidMet Tryz.prog errList (allWorld os) := by
  have e1 : (errList.filter fun x => (errList.map (·.1)).contains x.1) = errList := List.filter_eq_self.2 fun x hx => List.contains_iff_mem.2 (List.mem_map.2 ⟨x, hx, rfl⟩)
  have e2 : (errList.filter fun x => !(errList.map (·.1)).contains x.1) = [] := List.filter_eq_nil_iff.2 fun x hx => by rw [List.contains_iff_mem.2 (List.mem_map.2 ⟨x, hx, rfl⟩)]; simp
  exact laidMet_layVars (w0 := laidWorld os) (errList.map (·.1)) [] (by rw [e1]; rfl) (by rw [e1]; kernel_rfl) (by rw [e1]; kernel_rfl) (by rw [e2]; exact LaidIn.none)
theorem allWorld_met (os : Os) (args : Array Value) : laidMetH Tryz.prog allList ((allWorld os).forCall (fun _ _ => 0) ⟨#[], args, []⟩).memory :=
  laidMetH_of_parts (l := allList) ((allWorld_data os).of_heap (by simp [World.memory, World.forCall, Input.heap])) (by kernel_rfl)
end Go.Proofs.YtgajofkeidjbgaaGreatDoor
