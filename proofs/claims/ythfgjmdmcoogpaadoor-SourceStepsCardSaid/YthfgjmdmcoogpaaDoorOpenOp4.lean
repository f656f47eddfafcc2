/-
  PROVED HERE: steps of a script that came in, opened by their cells. No program of its own.
-/
import Derived.Test.YthfgjmdmcoogpaaDoorOpenRow
import Derived.Test.YthfgjmdmcoogpaaDoorSrcLaw
namespace Go.Proofs.YthfgjmdmcoogpaaDoor
set_option linter.unusedSimpArgs false
set_option linter.unusedVariables false
open Go Go.RowKit Go.Deep

section
variable {H : Type} {enc : TypeId × Value → H} {w : World} {base : Nat} {spare : Nat → Bool} {held : Bool}
theorem cell_int4 : Tryd.prog.cellsOf 3 = 1 := by kernel_rfl
theorem op4_cells {n : Nat} {cs : List Value} {d : DataW H} {pl : List MemPlace} (h : DataW.trod enc Tryd.prog w base spare held n 42 cs = some (d, pl)) (hf : Fits Tryd.prog 42 d) :
    ∃ x : Op4, cs = [.int .i64 x.kind, .int .i64 x.a] ∧ (Lit.int .i64 x.a).wf = true := by
  obtain ⟨hl, hfs⟩ := open_struct Tryd.underlying42 h hf
  have hl' : cs.length = 2 := hl.trans (by kernel_rfl)
  obtain ⟨n0, d0, p0, t0, f0⟩ := hfs 0 _ rfl
  obtain ⟨n1, d1, p1, t1, f1⟩ := hfs 1 _ rfl
  obtain ⟨a0, e0, s0⟩ := list_take (i := 0) hl' (by omega)
  obtain ⟨a1, e1, s1⟩ := list_take (i := 1) hl' (by omega)
  change DataW.trod enc Tryd.prog w base spare held n0 3 ((cs.drop 0).take (Tryd.prog.cellsOf 3)) = _ at t0
  rw [cell_int4, s0] at t0
  change DataW.trod enc Tryd.prog w base spare held n1 3 ((cs.drop 1).take (Tryd.prog.cellsOf 3)) = _ at t1
  rw [cell_int4, s1] at t1
  obtain ⟨k, q0, _, w0⟩ := DataW.trod_int Tryd.underlying3 t0
  obtain ⟨m, q1, _, w1⟩ := DataW.trod_int Tryd.underlying3 t1
  simp only [List.cons.injEq, and_true] at q0 q1
  subst q0 q1
  exact ⟨⟨k, m⟩, list_two hl' e0 e1, w1⟩
theorem ops4_of {n : Nat} {cs : List Value} {d : DataW H} {pl : List MemPlace} (h : DataW.trod enc Tryd.prog w base spare held n 23 cs = some (d, pl)) (hf : Fits Tryd.prog 23 d) :
    ∃ v l, cs = [v] ∧ IsOps4 w v l ∧ (∀ x ∈ l, (Lit.int .i64 x.a).wf = true) ∧ l.length * Tryd.prog.bytesOf 42 ≤ reachBytes :=
  open_list (At := Op4At) (Good := fun x => (Lit.int .i64 x.a).wf = true) (size := 2) Tryd.underlying23 (by kernel_rfl) (by decide) (fun n cs' d pl ht hf _ => by
    obtain ⟨x, rfl, hx⟩ := op4_cells ht hf
    exact ⟨x, hx, fun b o hc => ⟨hc 0 _ rfl, hc 1 _ rfl⟩⟩) h hf
end
end Go.Proofs.YthfgjmdmcoogpaaDoor
