/-
  PROVED HERE: a cut round a block that a loop is left from in more than one place. No program of its own.
-/
import Derived.Test.YtbabfibmopfghaaGreatDoorFrame
namespace Go.Proofs.YtbabfibmopfghaaGreatDoor
set_option linter.unusedSimpArgs false
set_option linter.unusedVariables false
open Go Go.RowKit

section
variable {P : Program} {Q : Exit → Act → World → Prop}
theorem inBlock_mono {id : Nat} {A B : Exit → Act → World → Prop} (h : ∀ e a w, A e a w → B e a w) : ∀ e a w, Exit.inBlock id A e a w → Exit.inBlock id B e a w := by
  intro e a w
  unfold Exit.inBlock
  cases e with
  | exit i =>
    simp only
    split
    · exact h _ _ _
    · exact h _ _ _
  | normal => exact h _ _ _
  | goto l => exact h _ _ _
  | ret => exact h _ _ _
  | panic ch => exact h _ _ _
  | outgrown => exact h _ _ _
theorem wp_block_frame' {s : Code} {id : Nat} {K : Act → World → Prop} {f : List Value} {w : World} (m : List Bool) (R R0 : (Nat → Value) → World → Prop) (hR : R = R0)
    (first : s.wp P (Exit.inBlock id (Exit.then (Meet m f R) Q)) ⟨f.toArray, []⟩ w) (rest : ∀ us wr, R0 us wr → K ⟨(frameOf us m 0 f).toArray, []⟩ wr) : s.wp P (Exit.inBlock id (Exit.then K Q)) ⟨f.toArray, []⟩ w := by
  subst hR
  refine wp_mono first ?_
  refine inBlock_mono ?_
  intro e a' w' hq
  cases e with
  | normal =>
    obtain ⟨l, rfl, h1, h2⟩ := hq
    have := rest (slots l) w' h2
    rwa [h1] at this
  | exit id => exact hq
  | goto l => exact hq
  | ret => exact hq
  | panic ch => exact hq
  | outgrown => exact hq
end
end Go.Proofs.YtbabfibmopfghaaGreatDoor
