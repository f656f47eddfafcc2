/-
  PROVED HERE: windows, lists of windows that came in as arguments. No program of its own.
-/
import Derived.Test.YthfgjmdmcoogpaaOpen
import Derived.Test.YthfgjmdmcoogpaaOpenVal
import Derived.Test.YthfgjmdmcoogpaaWinInfo
import Derived.Lib.SmallJoins
namespace Go.Proofs.Ythfgjmdmcoogpaa
set_option linter.unusedSimpArgs false
set_option linter.unusedVariables false
open Go Go.RowKit Go.Deep Go.Joins

section
variable {H : Type} {enc : TypeId × Value → H} {w : World} {base b0 : Nat} {spare : Nat → Bool} {held : Bool} {r : Reach}
set_option maxRecDepth 100000 in
theorem window_arg {v : Value} {d : DataW H} {p : List MemPlace} (hv : Value.okWide Try.prog w r b0 24 v) (h : DataW.Trod enc Try.prog w base spare held 24 v d p) :
    ∃ x : Win, v = .agg #[.int .i64 x.1, .int .i64 x.2] := by
  obtain ⟨c0, c1, y0, y1, n, rfl, -, -, h0, h1⟩ := open_agg2 Try.underlying24 (by kernel_rfl) (by kernel_rfl) hv h
  obtain ⟨k, q0, _, w0⟩ := DataW.trod_int Try.underlying2 h0
  obtain ⟨i, q1, _, w1⟩ := DataW.trod_int Try.underlying2 h1
  simp only [List.cons.injEq, and_true] at q0 q1
  subst q0 q1
  exact ⟨(k, i), rfl⟩
theorem wins_of {fuel : Nat} {cs : List Value} {d : DataW H} {pl : List MemPlace} (h : DataW.trod enc Try.prog w base spare held fuel 22 cs = some (d, pl)) (hf : Fits Try.prog 22 d) :
    ∃ v l, cs = [v] ∧ WinsIn All w v l ∧ (∀ x ∈ l, True) ∧ l.length * Try.prog.bytesOf 24 ≤ reachBytes := by
  refine open_list (At := WinAt) (Good := fun _ => True) (size := 2) Try.underlying22 (by kernel_rfl) (by decide) (fun n cs' d pl ht' hf _ => ?_) h hf
  obtain ⟨hl, hfs⟩ := open_struct Try.underlying24 ht' hf
  have hl' : cs'.length = 2 := hl.trans (by kernel_rfl)
  obtain ⟨n0, d0, p0, t0, _⟩ := hfs 0 _ rfl
  obtain ⟨n1, d1, p1, t1, _⟩ := hfs 1 _ rfl
  obtain ⟨a0, e0, s0⟩ := list_take (i := 0) hl' (by omega)
  obtain ⟨a1, e1, s1⟩ := list_take (i := 1) hl' (by omega)
  change DataW.trod enc Try.prog w base spare held n0 2 ((cs'.drop 0).take (Try.prog.cellsOf 2)) = _ at t0
  rw [cell_i64, s0] at t0
  change DataW.trod enc Try.prog w base spare held n1 2 ((cs'.drop 1).take (Try.prog.cellsOf 2)) = _ at t1
  rw [cell_i64, s1] at t1
  obtain ⟨k, q0, _, w0⟩ := DataW.trod_int Try.underlying2 t0
  obtain ⟨i, q1, _, w1⟩ := DataW.trod_int Try.underlying2 t1
  simp only [List.cons.injEq, and_true] at q0 q1
  subst q0 q1
  refine ⟨(k, i), trivial, fun b o hc => ⟨hc 0 _ e0, hc 1 _ e1⟩⟩
end
end Go.Proofs.Ythfgjmdmcoogpaa
