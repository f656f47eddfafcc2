/-
  PROVED HERE: what the model tells of the type of windows. No program of its own.
-/
import Derived.Test.YthfgjmdmcoogpaaWinPlain
import Derived.Test.YthfgjmdmcoogpaaLexS
import Derived.Test.YthfgjmdmcoogpaaRet
namespace Go.Proofs.Ythfgjmdmcoogpaa
set_option linter.unusedSimpArgs false
set_option linter.unusedVariables false
open Go.RowKit

theorem infoWin : (Try.prog.info? 24).map (fun i => (i.zero, i.size, i.bytes)) = some (some (.agg #[.int .i64 0, .int .i64 0]), 2, 16) := by kernel_rfl
theorem infoWn : ElemInfo Try.prog 24 2 16 := ElemInfo.of infoWin rfl (by decide)
theorem win_one (x : Win) : ∀ u ∈ [Value.int .i64 x.1, .int .i64 x.2], u.oneCell' = true := by
  intro u hu
  simp only [List.mem_cons, List.not_mem_nil, or_false] at hu
  rcases hu with rfl | rfl <;> rfl
theorem wrap64_r {n : Int} (h : -9223372036854775808 ≤ n ∧ n ≤ 9223372036854775807) : wrap64 n = n := by unfold wrap64; omega
theorem owned_new3 (w : World) (o1 : Obj) (x y : Int) (e : TypeId) : ((w.alloc o1).alloc (.cells #[.int .i64 x, .int .i64 y] e (0, 0))).ownsRow w.heap.size e 2 (.slice (some ⟨w.heap.size + 1, 0, none⟩) 1 1) [(x, y)].length (winCells [(x, y)]) := by
  have h := obj_new (w.alloc o1) (.cells #[.int .i64 x, .int .i64 y] e (0, 0))
  rw [World.size_alloc] at h
  exact ⟨rfl, .inr ⟨w.heap.size + 1, 1, _, rfl, Nat.le_succ _, h, Nat.le_refl _, by unfold maxLen; omega, rfl, rfl⟩⟩
end Go.Proofs.Ythfgjmdmcoogpaa
