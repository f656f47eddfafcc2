/-
  PROVED HERE: the comparison of values by == in a walk.
-/
import Derived.Test.YtbabfibmopfghaaGreatDoorRet
namespace Go.Proofs.YtbabfibmopfghaaGreatDoor
set_option linter.unusedSimpArgs false
set_option linter.unusedVariables false
open Go.RowKit

theorem run_eql_val (w : World) (x y : Val) : (binOp .eql 62 x.v y.v).run Tryz.prog w = .ok (.bool (eqV x y)) w := by
  obtain ⟨k, n, t⟩ := x
  obtain ⟨k', n', t'⟩ := y
  unfold eqV valEq str
  go_simp
  by_cases h1 : k = k' <;> by_cases h2 : n = n' <;> by_cases h3 : t.toList = t'.toList <;> simp [h1, h2, h3]
theorem run_neq_val (w : World) (x y : Val) : (binOp .neq 62 x.v y.v).run Tryz.prog w = .ok (.bool (!eqV x y)) w := by
  obtain ⟨k, n, t⟩ := x
  obtain ⟨k', n', t'⟩ := y
  unfold eqV valEq str
  go_simp
  by_cases h1 : k = k' <;> by_cases h2 : n = n' <;> by_cases h3 : t.toList = t'.toList <;> simp [h1, h2, h3]
theorem run_eql_val' (w : World) (k n k' n' : Int) (t t' : ByteArray) : (binOp .eql 62 (.agg #[.int .i64 k, .int .i64 n, .string t]) (.agg #[.int .i64 k', .int .i64 n', .string t'])).run Tryz.prog w = .ok (.bool (eqV ⟨k, n, t⟩ ⟨k', n', t'⟩)) w := run_eql_val w ⟨k, n, t⟩ ⟨k', n', t'⟩
theorem run_neq_val' (w : World) (k n k' n' : Int) (t t' : ByteArray) : (binOp .neq 62 (.agg #[.int .i64 k, .int .i64 n, .string t]) (.agg #[.int .i64 k', .int .i64 n', .string t'])).run Tryz.prog w = .ok (.bool (!eqV ⟨k, n, t⟩ ⟨k', n', t'⟩)) w := run_neq_val w ⟨k, n, t⟩ ⟨k', n', t'⟩
end Go.Proofs.YtbabfibmopfghaaGreatDoor
