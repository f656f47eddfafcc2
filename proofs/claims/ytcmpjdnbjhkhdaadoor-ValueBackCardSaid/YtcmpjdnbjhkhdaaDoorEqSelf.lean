/-
  PROVED HERE: values that are alike by == are the same, in plain Lean. No program of its own.
-/
import Derived.Test.YtcmpjdnbjhkhdaaDoorOrdPlain
import Derived.Lib.SlicesS
namespace Go.Proofs.YtcmpjdnbjhkhdaaDoor
set_option linter.unusedSimpArgs false
set_option linter.unusedVariables false
open Go Go.RowKit

theorem eqv_refl (x : Val) : eqV x x = true := by simp [eqV, valEq]
theorem eqv_same {x y : Val} (h : eqV x y = true) : x = y := by
  obtain ⟨k, n, t⟩ := x
  obtain ⟨k', n', t'⟩ := y
  unfold eqV valEq str at h
  simp only [Bool.and_eq_true, beq_iff_eq, decide_eq_true_eq] at h
  have ht : t = t' := (Lib.bytes_beq_iff t t').1 (by rw [h.2.2]; exact beq_self_eq_true _)
  rw [h.1, h.2.1, ht]
end Go.Proofs.YtcmpjdnbjhkhdaaDoor
