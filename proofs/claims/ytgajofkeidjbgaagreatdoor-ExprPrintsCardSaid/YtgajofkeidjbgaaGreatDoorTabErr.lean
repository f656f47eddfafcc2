/-
  PROVED HERE: what a row that lists the library's tables and its two errors gives a walk; a world that meets the list.
-/
import Derived.Test.YtgajofkeidjbgaaGreatDoorUnquote
import Derived.ChangeSame
import Derived.ChangeVars
import Derived.JoinedOf
import Derived.RowKit
import Derived.RowKitTokens
import Derived.LaidLaws
import Derived.LaidHandle
import Derived.Stop.Joined
import Derived.Stop.LaidErr
import Derived.Stop.ErrReads
import Derived.MakeChecks
import Derived.Lay
namespace Go.Proofs.YtgajofkeidjbgaaGreatDoor
set_option linter.unusedSimpArgs false
set_option linter.unusedVariables false
open Go.ChangeShapes Go.WideShapes Go.RowKit

theorem ownKnobErr : ownKnob Tryz.prog.godebug = none := by kernel_rfl
theorem laidOutErr : laidOutB Tryz.prog = true := by kernel_rfl
abbrev errList : List (String × DataW Unit) := [("math/bits.deBruijn32tab", Rows.laid_math_bits_deBruijn32tab), ("math/bits.deBruijn64tab", Rows.laid_math_bits_deBruijn64tab), ("internal/strconv.uint64pow10", Rows.laid_internal_strconv_uint64pow10), ("strconv.ErrRange", Rows.laid_strconv_ErrRange), ("strconv.ErrSyntax", Rows.laid_strconv_ErrSyntax)]
theorem tabE_data : (Rows.laid_internal_strconv_uint64pow10 : DataW Unit) = Lib.tabData .u64 Lib.pow10Tab := by kernel_rfl
theorem star_err : "*" ++ "errors.errorString" = "*errors.errorString" := by decide
theorem row_err (u : TypeId) (h : Tryz.prog.typeName? 3 u = some "*errors.errorString") : u = 245 :=
  typeName_ptr_named (nm := "errors.errorString") (by rw [star_err]; kernel_rfl) (by kernel_rfl) (by decide) u (by rw [star_err]; exact h)
theorem tabs_met {W : World} {rest : List (String × DataW Unit)} (h : laidMet Tryz.prog ((("internal/strconv.uint64pow10"), Rows.laid_internal_strconv_uint64pow10) :: rest) W) : PowTab W := by
  rw [tabE_data] at h
  exact Lib.tabIs_of_head (g := 6) (t := 250) (e := 226) (n := 20) (by kernel_rfl) (by kernel_rfl) (by kernel_rfl) (by kernel_rfl) (by kernel_rfl) (by kernel_rfl) h
theorem rng_met {W : World} {rest : List (String × DataW Unit)} (h : laidMet Tryz.prog (("strconv.ErrRange", Rows.laid_strconv_ErrRange) :: rest) W) : ∃ t p, W.cell? ⟨5, 0, none⟩ = some (.iface t p) := by
  have hg : Tryz.prog.globalNamed "strconv.ErrRange" = some 5 := by kernel_rfl
  obtain ⟨a, s, hv, -, -, -⟩ := laid_sentinel (ti := 23) (tp := 245) (te := 247) (ts := 9) h hg (by kernel_rfl) Tryz.underlying23 row_err Tryz.underlying245 Tryz.underlying247 rfl rfl Tryz.underlying9 (by kernel_rfl) (by kernel_rfl)
  exact ⟨_, _, by simpa using World.var?_cell hg hv 0⟩
theorem syn_met {W : World} {rest : List (String × DataW Unit)} (h : laidMet Tryz.prog (("strconv.ErrSyntax", Rows.laid_strconv_ErrSyntax) :: rest) W) : ∃ t p, W.cell? ⟨4, 0, none⟩ = some (.iface t p) := by
  have hg : Tryz.prog.globalNamed "strconv.ErrSyntax" = some 4 := by kernel_rfl
  obtain ⟨a, s, hv, -, -, -⟩ := laid_sentinel (ti := 23) (tp := 245) (te := 247) (ts := 9) h hg (by kernel_rfl) Tryz.underlying23 row_err Tryz.underlying245 Tryz.underlying247 rfl rfl Tryz.underlying9 (by kernel_rfl) (by kernel_rfl)
  exact ⟨_, _, by simpa using World.var?_cell hg hv 0⟩
theorem errs_of {W : World} (h : laidMetH Tryz.prog errList W) : ErrVars W ∧ PowTab W := by
  have h1 : laidMet Tryz.prog errList W := (Go.MakeChecks.laidMetH_plain _ _ _ (by kernel_rfl)) ▸ h
  have h2 := laidMet.tail (laidMet.tail h1)
  have h3 := laidMet.tail h2
  exact ⟨⟨syn_met (laidMet.tail h3), rng_met h3⟩, tabs_met h2⟩
noncomputable def errWorld (os : Os) : World := World.laidAll Tryz.prog os errList
theorem errWorld_met (os : Os) (args : Array Value) : laidMetH Tryz.prog errList ((errWorld os).forCall (fun _ _ => 0) ⟨#[], args, []⟩).memory := by
  rw [Go.MakeChecks.laidMetH_plain _ _ _ (by kernel_rfl)]
  exact laidMet_laidAll args (by kernel_rfl) (by kernel_rfl)
end Go.Proofs.YtgajofkeidjbgaaGreatDoor
