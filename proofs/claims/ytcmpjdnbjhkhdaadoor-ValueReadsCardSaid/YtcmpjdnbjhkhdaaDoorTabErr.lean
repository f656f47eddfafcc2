/-
  PROVED HERE: what a row that lists the library's tables and its two errors gives a walk; a world that meets the list.
-/
import Derived.Test.YtcmpjdnbjhkhdaaDoorUnquote
import Derived.ChangeSame
import Derived.ChangeVars
import Derived.JoinedOf
import Derived.RowKit
import Derived.RowKitTokens
import Derived.LaidLaws
import Derived.LaidHandle
import Derived.Stop.Joined
import Derived.Stop.LaidErr
import Derived.Stop.ErrReads
import Derived.MakeChecks
import Derived.Lay
namespace Go.Proofs.YtcmpjdnbjhkhdaaDoor
set_option linter.unusedSimpArgs false
set_option linter.unusedVariables false
open Go.ChangeShapes Go.WideShapes Go.RowKit

theorem ownKnobErr : ownKnob Tryd.prog.godebug = none := by kernel_rfl
theorem laidOutErr : laidOutB Tryd.prog = true := by kernel_rfl
abbrev errList : List (String × DataW Unit) := Rows.valueBackRow.laid
theorem tabE_data : (Rows.laid_internal_strconv_uint64pow10 : DataW Unit) = Lib.tabData .u64 Lib.pow10Tab := by kernel_rfl
theorem star_err : "*" ++ "errors.errorString" = "*errors.errorString" := by decide
theorem row_err (u : TypeId) (h : Tryd.prog.typeName? 3 u = some "*errors.errorString") : u = 262 :=
  typeName_ptr_named (nm := "errors.errorString") (by rw [star_err]; kernel_rfl) (by kernel_rfl) (by decide) u (by rw [star_err]; exact h)
theorem tabs_met {W : World} {rest : List (String × DataW Unit)} (h : laidMet Tryd.prog ((("internal/strconv.uint64pow10"), Rows.laid_internal_strconv_uint64pow10) :: rest) W) : PowTab W := by
  rw [tabE_data] at h
  exact Lib.tabIs_of_head (g := 3) (t := 246) (e := 174) (n := 20) (by kernel_rfl) (by kernel_rfl) (by kernel_rfl) (by kernel_rfl) (by kernel_rfl) (by kernel_rfl) h
theorem rng_met {W : World} {rest : List (String × DataW Unit)} (h : laidMet Tryd.prog (("strconv.ErrRange", Rows.laid_strconv_ErrRange) :: rest) W) : ∃ t p, W.cell? ⟨2, 0, none⟩ = some (.iface t p) := by
  have hg : Tryd.prog.globalNamed "strconv.ErrRange" = some 2 := by kernel_rfl
  obtain ⟨a, s, hv, -, -, -⟩ := laid_sentinel (ti := 27) (tp := 262) (te := 264) (ts := 9) h hg (by kernel_rfl) Tryd.underlying27 row_err Tryd.underlying262 Tryd.underlying264 rfl rfl Tryd.underlying9 (by kernel_rfl) (by kernel_rfl)
  exact ⟨_, _, by simpa using World.var?_cell hg hv 0⟩
theorem syn_met {W : World} {rest : List (String × DataW Unit)} (h : laidMet Tryd.prog (("strconv.ErrSyntax", Rows.laid_strconv_ErrSyntax) :: rest) W) : ∃ t p, W.cell? ⟨1, 0, none⟩ = some (.iface t p) := by
  have hg : Tryd.prog.globalNamed "strconv.ErrSyntax" = some 1 := by kernel_rfl
  obtain ⟨a, s, hv, -, -, -⟩ := laid_sentinel (ti := 27) (tp := 262) (te := 264) (ts := 9) h hg (by kernel_rfl) Tryd.underlying27 row_err Tryd.underlying262 Tryd.underlying264 rfl rfl Tryd.underlying9 (by kernel_rfl) (by kernel_rfl)
  exact ⟨_, _, by simpa using World.var?_cell hg hv 0⟩
theorem errs_of {W : World} (h : laidMetH Tryd.prog errList W) : ErrVars W ∧ PowTab W := by
  have h1 : laidMet Tryd.prog errList W := (Go.MakeChecks.laidMetH_plain _ _ _ (by kernel_rfl)) ▸ h
  have h2 := laidMet.tail (laidMet.tail h1)
  have h3 := laidMet.tail h2
  exact ⟨⟨syn_met (laidMet.tail h3), rng_met h3⟩, tabs_met h2⟩
noncomputable def errWorld (os : Os) : World := World.laidAll Tryd.prog os errList
theorem errWorld_met (os : Os) (args : Array Value) : laidMetH Tryd.prog errList ((errWorld os).forCall (fun _ _ => 0) ⟨#[], args, []⟩).memory := by
  rw [Go.MakeChecks.laidMetH_plain _ _ _ (by kernel_rfl)]
  exact laidMet_laidAll args (by kernel_rfl) (by kernel_rfl)
end Go.Proofs.YtcmpjdnbjhkhdaaDoor
