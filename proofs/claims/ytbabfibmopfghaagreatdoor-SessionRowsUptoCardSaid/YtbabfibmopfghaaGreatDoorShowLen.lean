/-
  PROVED HERE: how long a value's text is at most.
-/
import Derived.Test.YtbabfibmopfghaaGreatDoorShow
namespace Go.Proofs.YtbabfibmopfghaaGreatDoor
set_option linter.unusedSimpArgs false
set_option linter.unusedVariables false
open Go.RowKit

theorem showV_len (x : Val) (hn : -9223372036854775808 ≤ x.n ∧ x.n ≤ 9223372036854775807) : (showV x).length ≤ 200 := by
  unfold showV
  split
  · rename_i hv
    split
    · unfold Lib.itoa
      split
      · have := dec_len 19 x.n.natAbs (by omega)
        simp only [List.length_cons]; omega
      · have := dec_len 19 x.n.toNat (by omega)
        omega
    · split
      · split <;> simp
      · split
        · rename_i h1 h2 h3
          unfold validV at hv
          simp [h3] at hv
          have := flat_len x.t.data.toList
          have hz : x.t.data.toList.length = x.t.size := rfl
          simp only [quoteL, List.length_cons, List.length_append, List.length_nil]
          omega
        · simp
  · simp
end Go.Proofs.YtbabfibmopfghaaGreatDoor
