/-
  PROVED HERE: rows of a bulk are no more than that. No program of its own.
-/
import Derived.Test.YthfgjmdmcoogpaaDoorUpto
namespace Go.Proofs.YthfgjmdmcoogpaaDoor
set_option linter.unusedSimpArgs false
set_option linter.unusedVariables false
open Go Go.RowKit

theorem rows_bulk_len (l : List Row) : l.length ≤ (l.map Row.bulk).sum := by
  induction l with
  | nil => simp
  | cons x l ih =>
    simp only [List.length_cons, List.map_cons, List.sum_cons]
    have : 1 ≤ Row.bulk x := by unfold Row.bulk; omega
    omega
end Go.Proofs.YthfgjmdmcoogpaaDoor
