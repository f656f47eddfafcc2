/-
  PROVED HERE: a value, a row, that came in as an argument. No program of its own.
-/
import Derived.Test.YtcmpjdnbjhkhdaaDoorOpenRow
import Derived.Lib.SmallJoins
namespace Go.Proofs.YtcmpjdnbjhkhdaaDoor
set_option linter.unusedSimpArgs false
set_option linter.unusedVariables false
open Go Go.RowKit Go.Deep Go.Joins

section
variable {H : Type} {enc : TypeId × Value → H} {w : World} {base b0 : Nat} {spare : Nat → Bool} {held : Bool} {r : Reach}
set_option maxRecDepth 100000 in
theorem val_arg {v : Value} {d : DataW H} {p : List MemPlace} (hv : Value.okWide Tryd.prog w r b0 25 v) (h : DataW.Trod enc Tryd.prog w base spare held 25 v d p) : ∃ x : Val, v = x.v ∧ ValOk x := by
  obtain ⟨c0, c1, c2, y0, y1, y2, n, rfl, -, -, h0, h1, h2⟩ := open_agg3 Tryd.underlying25 (by kernel_rfl) (by kernel_rfl) hv h
  obtain ⟨k, q0, _, w0⟩ := DataW.trod_int Tryd.underlying23 h0
  obtain ⟨i, q1, _, w1⟩ := DataW.trod_int Tryd.underlying2 h1
  obtain ⟨s, q2, _, w2⟩ := DataW.trod_string Tryd.underlying9 h2
  simp only [List.cons.injEq, and_true] at q0 q1 q2
  subst q0 q1 q2
  exact ⟨⟨k, i, s⟩, rfl, w0, w1, w2⟩
set_option maxRecDepth 100000 in
theorem row_arg {v : Value} {d : DataW H} {p : List MemPlace} (hv : Value.okWide Tryd.prog w r b0 79 v) (h : DataW.Trod enc Tryd.prog w base spare held 79 v d p) (hf : Fits Tryd.prog 79 d) :
    ∃ (x : Row) (u : Value), v = .agg #[.int .i64 x.time, u] ∧ IsVals w u x.vals ∧ RowGood x := by
  obtain ⟨c0, c1, y0, y1, n, rfl, rfl, -, h0, h1⟩ := open_agg2 Tryd.underlying79 (by kernel_rfl) (by kernel_rfl) hv h
  obtain ⟨k, q0, _, w0⟩ := DataW.trod_int Tryd.underlying2 h0
  have f1 : Fits Tryd.prog 77 y1.1 := hf.field (j := 1) Tryd.underlying79 rfl rfl
  obtain ⟨d1, p1⟩ := y1
  obtain ⟨u, l, q1, hl, hok, hb⟩ := vals_of h1 f1
  simp only [List.cons.injEq, and_true] at q0 q1
  subst q0 q1
  exact ⟨⟨k, l⟩, _, rfl, hl, w0, hok, hb⟩
end
end Go.Proofs.YtcmpjdnbjhkhdaaDoor
