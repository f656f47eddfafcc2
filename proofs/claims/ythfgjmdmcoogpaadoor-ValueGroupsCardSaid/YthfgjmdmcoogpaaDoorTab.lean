/-
  PROVED HERE: what a row that lists the library's tables gives a walk; a world that meets the list.
-/
import Derived.Test.YthfgjmdmcoogpaaDoorShow
import Derived.ChangeSame
import Derived.ChangeVars
import Derived.JoinedOf
import Derived.RowKit
import Derived.LaidLaws
import Derived.LaidHandle
import Derived.Stop.Joined
import Derived.Stop.LaidErr
import Derived.MakeChecks
import Derived.Lay
namespace Go.Proofs.YthfgjmdmcoogpaaDoor
set_option linter.unusedSimpArgs false
set_option linter.unusedVariables false
open Go.ChangeShapes Go.WideShapes Go.RowKit

theorem ownKnobTab : ownKnob Tryd.prog.godebug = none := by kernel_rfl
theorem laidOutTab : laidOutB Tryd.prog = true := by kernel_rfl
abbrev tabList : List (String × DataW Unit) := Rows.valueShowsRow.laid
theorem tab_data : (Rows.laid_internal_strconv_uint64pow10 : DataW Unit) = Lib.tabData .u64 Lib.pow10Tab := by kernel_rfl
theorem pow_of {W : World} (h : laidMetH Tryd.prog tabList W) : PowTab W := by
  have h1 : laidMet Tryd.prog tabList W := (Go.MakeChecks.laidMetH_plain _ _ _ (by kernel_rfl)) ▸ h
  have h2 : laidMet Tryd.prog [(_, Rows.laid_internal_strconv_uint64pow10)] W := laidMet.tail (laidMet.tail h1)
  rw [tab_data] at h2
  exact Lib.tabIs_of_head (g := 1) (t := 227) (e := 111) (n := 20) (by kernel_rfl) (by kernel_rfl) (by kernel_rfl) (by kernel_rfl) (by kernel_rfl) (by kernel_rfl) h2
noncomputable def tabWorld (os : Os) : World := World.laidAll Tryd.prog os tabList
theorem tabWorld_met (os : Os) (args : Array Value) : laidMetH Tryd.prog tabList ((tabWorld os).forCall (fun _ _ => 0) ⟨#[], args, []⟩).memory := by
  rw [Go.MakeChecks.laidMetH_plain _ _ _ (by kernel_rfl)]
  exact laidMet_laidAll args (by kernel_rfl) (by kernel_rfl)
end Go.Proofs.YthfgjmdmcoogpaaDoor
