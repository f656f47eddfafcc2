/-
  PROVED HERE: what a row of the expressions' laws lists (tables, errors, the variable of a type, the table of spaces) gives a walk; a world that meets the list.
-/
import Derived.Test.YtgajofkeidjbgaaGreatDoorGDoor
import Derived.Test.YtgajofkeidjbgaaGreatDoorExprLex2
namespace Go.Proofs.YtgajofkeidjbgaaGreatDoor
set_option linter.unusedSimpArgs false
set_option linter.unusedVariables false
open Go.ChangeShapes Go.WideShapes Go.RowKit

abbrev exErr : List (String × DataW Unit) := [("math/bits.deBruijn32tab", Rows.laid_math_bits_deBruijn32tab), ("math/bits.deBruijn64tab", Rows.laid_math_bits_deBruijn64tab), ("internal/strconv.uint64pow10", Rows.laid_internal_strconv_uint64pow10), ("strconv.ErrRange", Rows.laid_strconv_ErrRange), ("strconv.ErrSyntax", Rows.laid_strconv_ErrSyntax), ("unicode.White_Space", Rows.laid_unicode_White_Space), ("strings.asciiSpace", Rows.laid_strings_asciiSpace)]
abbrev exList : List (String × DataW Unit) := [("math/bits.deBruijn32tab", Rows.laid_math_bits_deBruijn32tab), ("math/bits.deBruijn64tab", Rows.laid_math_bits_deBruijn64tab), ("internal/strconv.uint64pow10", Rows.laid_internal_strconv_uint64pow10), ("errors.errorType", Rows.laid_errors_errorType), ("strconv.ErrRange", Rows.laid_strconv_ErrRange), ("strconv.ErrSyntax", Rows.laid_strconv_ErrSyntax), ("unicode.White_Space", Rows.laid_unicode_White_Space), ("strings.asciiSpace", Rows.laid_strings_asciiSpace)]
theorem space_data : (Rows.laid_strings_asciiSpace : DataW Unit) = Lib.tabData .u8 Lib.asciiSpaceTab := by kernel_rfl
theorem space_met {W : World} {rest : List (String × DataW Unit)} (h : laidMet Tryz.prog ((("strings.asciiSpace"), Rows.laid_strings_asciiSpace) :: rest) W) : SpaceTab W := by
  rw [space_data] at h
  exact Lib.tabIs_of_head (g := 1) (t := 179) (e := 5) (n := 256) (by kernel_rfl) (by kernel_rfl) (by kernel_rfl) (by kernel_rfl) (by kernel_rfl) (by kernel_rfl) h
theorem exErr_of {W : World} (h1 : laidMet Tryz.prog exErr W) : (ErrVars W ∧ PowTab W) ∧ SpaceTab W := by
  have h2 := laidMet.tail (laidMet.tail h1)
  have h3 := laidMet.tail h2
  exact ⟨⟨⟨syn_met (laidMet.tail h3), rng_met h3⟩, tabs_met h2⟩, space_met (laidMet.tail (laidMet.tail (laidMet.tail h3)))⟩
theorem ex_of {W : World} (h : laidMetH Tryz.prog exList W) : ((ErrVars W ∧ PowTab W) ∧ SpaceTab W) ∧ Laid W := by
  have h' : laidMet Tryz.prog exErr W ∧ handlesMet Tryz.prog (laidList : List (String × DataW Unit)) W := h
  exact ⟨exErr_of h'.1, laid_of ⟨laidMet_nil _ _, h'.2⟩⟩
noncomputable def exWorld (os : Os) : World := (laidWorld os).layVars Tryz.prog exErr
theorem exWorld_data (os : Os) : laidMet Tryz.prog exErr (exWorld os) := by
  have e1 : (exErr.filter fun x => (exErr.map (·.1)).contains x.1) = exErr := List.filter_eq_self.2 fun x hx => List.contains_iff_mem.2 (List.mem_map.2 ⟨x, hx, rfl⟩)
  have e2 : (exErr.filter fun x => !(exErr.map (·.1)).contains x.1) = [] := List.filter_eq_nil_iff.2 fun x hx => by rw [List.contains_iff_mem.2 (List.mem_map.2 ⟨x, hx, rfl⟩)]; simp
  exact laidMet_layVars (w0 := laidWorld os) (exErr.map (·.1)) [] (by rw [e1]; rfl) (by rw [e1]; kernel_rfl) (by rw [e1]; kernel_rfl) (by rw [e2]; exact LaidIn.none)
theorem exWorld_met (os : Os) (args : Array Value) : laidMetH Tryz.prog exList ((exWorld os).forCall (fun _ _ => 0) ⟨#[], args, []⟩).memory :=
  laidMetH_of_parts (l := exList) ((exWorld_data os).of_heap (by simp [World.memory, World.forCall, Input.heap])) (by kernel_rfl)
end Go.Proofs.YtgajofkeidjbgaaGreatDoor
