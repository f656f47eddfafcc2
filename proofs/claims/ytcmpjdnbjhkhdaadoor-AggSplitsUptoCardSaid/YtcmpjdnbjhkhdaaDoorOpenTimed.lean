/-
  PROVED HERE: values with times that came in, opened by their cells. No program of its own.
-/
import Derived.Test.YtcmpjdnbjhkhdaaDoorOpenVal
import Derived.Test.YtcmpjdnbjhkhdaaDoorAggTimed
import Derived.WideShapes
namespace Go.Proofs.YtcmpjdnbjhkhdaaDoor
set_option linter.unusedSimpArgs false
set_option linter.unusedVariables false
open Go Go.RowKit Go.Deep

section
variable {H : Type} {enc : TypeId × Value → H} {w : World} {base : Nat} {spare : Nat → Bool} {held : Bool}
theorem cell_val : Tryd.prog.cellsOf 25 = 3 := by kernel_rfl
theorem list_four {α : Type} {l : List α} (h : l.length = 4) {a : α} {r : List α} (h0 : l[0]? = some a) (h1 : (l.drop 1).take 3 = r) : l = a :: r := by
  match l, h with
  | [x, y, z, u], _ => simp at h0 h1; simp [h0, h1]
def TimedOk (x : TV) : Prop := (Lit.int .i64 x.time).wf = true ∧ ValOk x.val
theorem timed_cells {n : Nat} {cs : List Value} {d : DataW H} {pl : List MemPlace} (h : DataW.trod enc Tryd.prog w base spare held n 36 cs = some (d, pl)) (hf : Fits Tryd.prog 36 d) :
    ∃ x : TV, cs = x.cells ∧ TimedOk x := by
  obtain ⟨hl, hfs⟩ := open_struct Tryd.underlying36 h hf
  have hl' : cs.length = 4 := hl.trans (by kernel_rfl)
  obtain ⟨n0, d0, p0, t0, f0⟩ := hfs 0 _ rfl
  obtain ⟨n1, d1, p1, t1, f1⟩ := hfs 1 _ rfl
  obtain ⟨a0, e0, s0⟩ := list_take (i := 0) hl' (by omega)
  change DataW.trod enc Tryd.prog w base spare held n0 2 ((cs.drop 0).take (Tryd.prog.cellsOf 2)) = _ at t0
  rw [cell_i64, s0] at t0
  change DataW.trod enc Tryd.prog w base spare held n1 25 ((cs.drop 1).take (Tryd.prog.cellsOf 25)) = _ at t1
  rw [cell_val] at t1
  obtain ⟨k, q0, _, w0⟩ := DataW.trod_int Tryd.underlying2 t0
  obtain ⟨x, q1, hx⟩ := val_cells t1 f1
  simp only [List.cons.injEq, and_true] at q0
  subst q0
  exact ⟨⟨k, x⟩, list_four hl' e0 q1, w0, hx⟩
theorem timeds_of {n : Nat} {cs : List Value} {d : DataW H} {pl : List MemPlace} (h : DataW.trod enc Tryd.prog w base spare held n 22 cs = some (d, pl)) (hf : Fits Tryd.prog 22 d) :
    ∃ v l, cs = [v] ∧ IsTimeds w v l ∧ (∀ x ∈ l, TimedOk x) ∧ l.length * 40 ≤ reachBytes := by
  obtain ⟨v, l, h1, h2, h3, h4⟩ := open_list (At := TimedAt) (Good := TimedOk) (size := 4) Tryd.underlying22 (by kernel_rfl) (by decide) (fun n cs' d pl ht hf _ => by
    obtain ⟨x, rfl, hx⟩ := timed_cells ht hf
    exact ⟨x, hx, fun b o hc => ⟨hc 0 _ rfl, hc 1 _ rfl, hc 2 _ rfl, hc 3 _ rfl⟩⟩) h hf
  have hb : Tryd.prog.bytesOf 36 = 40 := by kernel_rfl
  rw [hb] at h4
  exact ⟨v, l, h1, h2, h3, h4⟩
set_option maxRecDepth 100000 in
theorem timed_arg {r : Reach} {b0 : Nat} {v : Value} {d : DataW H} {p : List MemPlace} (hv : Value.okWide Tryd.prog w r b0 36 v) (h : DataW.Trod enc Tryd.prog w base spare held 36 v d p) (hf : Fits Tryd.prog 36 d) : ∃ x : TV, v = x.v ∧ TimedOk x := by
  obtain ⟨cs, rfl, hsz⟩ := WideShapes.okWide_struct Tryd.underlying36 hv
  obtain ⟨fuel, ht⟩ := h
  obtain ⟨x, hx, hok⟩ := timed_cells ht hf
  have hl : cs.toList = x.cells := by simpa [Value.cells] using hx
  refine ⟨x, ?_, hok⟩
  have : cs = x.cells.toArray := by rw [← hl]
  rw [this]
  rfl
end
end Go.Proofs.YtcmpjdnbjhkhdaaDoor
