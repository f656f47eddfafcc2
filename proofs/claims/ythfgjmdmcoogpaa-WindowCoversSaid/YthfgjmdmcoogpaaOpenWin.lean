/-
  PROVED HERE: windows that came in as an argument. No program of its own.
-/
import Derived.Test.YthfgjmdmcoogpaaOpenRow
import Derived.Lib.SmallJoins
namespace Go.Proofs.Ythfgjmdmcoogpaa
set_option linter.unusedSimpArgs false
set_option linter.unusedVariables false
open Go Go.RowKit Go.Deep Go.Joins

section
variable {H : Type} {enc : TypeId × Value → H} {w : World} {base b0 : Nat} {spare : Nat → Bool} {held : Bool} {r : Reach}
set_option maxRecDepth 100000 in
theorem windows_arg {v : Value} {d : DataW H} {p : List MemPlace} (hv : Value.okWide Try.prog w r b0 31 v) (h : DataW.Trod enc Try.prog w base spare held 31 v d p) :
    ∃ x : Int × Int × Int, v = .agg #[.int .i64 x.1, .int .i64 x.2.1, .int .i64 x.2.2] ∧ (-9223372036854775808 ≤ x.2.1 ∧ x.2.1 ≤ 9223372036854775807) := by
  obtain ⟨c0, c1, c2, y0, y1, y2, n, rfl, -, -, h0, h1, h2⟩ := open_agg3 Try.underlying31 (by kernel_rfl) (by kernel_rfl) hv h
  obtain ⟨k, q0, _, w0⟩ := DataW.trod_int Try.underlying3 h0
  obtain ⟨i, q1, _, w1⟩ := DataW.trod_int Try.underlying2 h1
  obtain ⟨s, q2, _, w2⟩ := DataW.trod_int Try.underlying2 h2
  simp only [List.cons.injEq, and_true] at q0 q1 q2
  subst q0 q1 q2
  refine ⟨(k, i, s), rfl, ?_⟩
  simpa [Lit.wf, IntKind.min, IntKind.max, IntKind.bits, IntKind.signed] using w1
end
end Go.Proofs.Ythfgjmdmcoogpaa
