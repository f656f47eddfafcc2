/-
  PROVED HERE: values and rows that came in, opened by their cells.
-/
import Derived.Test.YtcmpjdnbjhkhdaaDoorRows
import Derived.Test.YtcmpjdnbjhkhdaaDoorOpen
namespace Go.Proofs.YtcmpjdnbjhkhdaaDoor
set_option linter.unusedSimpArgs false
set_option linter.unusedVariables false
open Go Go.RowKit Go.Deep

theorem list_one {α : Type} : ∀ {l : List α}, l.length = 1 → ∃ a, l = [a]
  | [a], _ => ⟨a, rfl⟩
theorem list_take {α : Type} {l : List α} {n i : Nat} (hl : l.length = n) (h : i < n) : ∃ a, l[i]? = some a ∧ (l.drop i).take 1 = [a] :=
  ⟨l[i]'(by omega), List.getElem?_eq_getElem (by omega), by rw [List.drop_eq_getElem_cons (by omega)]; rfl⟩
theorem list_three {α : Type} {l : List α} (h : l.length = 3) {a b c : α} (h0 : l[0]? = some a) (h1 : l[1]? = some b) (h2 : l[2]? = some c) : l = [a, b, c] := by
  match l, h with
  | [x, y, z], _ => simp at h0 h1 h2; simp [h0, h1, h2]

section
variable {H : Type} {enc : TypeId × Value → H} {w : World} {base : Nat} {spare : Nat → Bool} {held : Bool}
theorem cell_kind : Tryd.prog.cellsOf 23 = 1 := by kernel_rfl
theorem cell_i64 : Tryd.prog.cellsOf 2 = 1 := by kernel_rfl
theorem cell_str : Tryd.prog.cellsOf 9 = 1 := by kernel_rfl
theorem val_cells {n : Nat} {cs : List Value} {d : DataW H} {pl : List MemPlace} (h : DataW.trod enc Tryd.prog w base spare held n 25 cs = some (d, pl)) (hf : Fits Tryd.prog 25 d) : ∃ x : Val, cs = x.cells ∧ ValOk x := by
  obtain ⟨hl, hfs⟩ := open_struct Tryd.underlying25 h hf
  have hl' : cs.length = 3 := hl.trans (by kernel_rfl)
  obtain ⟨n0, d0, p0, t0, f0⟩ := hfs 0 _ rfl
  obtain ⟨n1, d1, p1, t1, f1⟩ := hfs 1 _ rfl
  obtain ⟨n2, d2, p2, t2, f2⟩ := hfs 2 _ rfl
  obtain ⟨a0, e0, s0⟩ := list_take (i := 0) hl' (by omega)
  obtain ⟨a1, e1, s1⟩ := list_take (i := 1) hl' (by omega)
  obtain ⟨a2, e2, s2⟩ := list_take (i := 2) hl' (by omega)
  change DataW.trod enc Tryd.prog w base spare held n0 23 ((cs.drop 0).take (Tryd.prog.cellsOf 23)) = _ at t0
  rw [cell_kind, s0] at t0
  change DataW.trod enc Tryd.prog w base spare held n1 2 ((cs.drop 1).take (Tryd.prog.cellsOf 2)) = _ at t1
  rw [cell_i64, s1] at t1
  change DataW.trod enc Tryd.prog w base spare held n2 9 ((cs.drop 2).take (Tryd.prog.cellsOf 9)) = _ at t2
  rw [cell_str, s2] at t2
  obtain ⟨k, q0, _, w0⟩ := DataW.trod_int Tryd.underlying23 t0
  obtain ⟨i, q1, _, w1⟩ := DataW.trod_int Tryd.underlying2 t1
  obtain ⟨s, q2, _, w2⟩ := DataW.trod_string Tryd.underlying9 t2
  simp only [List.cons.injEq, and_true] at q0 q1 q2
  subst q0 q1 q2
  exact ⟨⟨k, i, s⟩, list_three hl' e0 e1 e2, w0, w1, w2⟩
theorem vals_of {n : Nat} {cs : List Value} {d : DataW H} {pl : List MemPlace} (h : DataW.trod enc Tryd.prog w base spare held n 77 cs = some (d, pl)) (hf : Fits Tryd.prog 77 d) :
    ∃ v l, cs = [v] ∧ IsVals w v l ∧ (∀ x ∈ l, ValOk x) ∧ l.length * 32 ≤ reachBytes := by
  obtain ⟨v, l, h1, h2, h3, h4⟩ := open_list (At := ValAt) (Good := ValOk) (size := 3) Tryd.underlying77 (by kernel_rfl) (by decide) (fun n cs' d pl ht hf _ => by
    obtain ⟨x, rfl, hx⟩ := val_cells ht hf
    exact ⟨x, hx, fun b o hc => ⟨hc 0 _ rfl, hc 1 _ rfl, hc 2 _ rfl⟩⟩) h hf
  have hb : Tryd.prog.bytesOf 25 = 32 := by kernel_rfl
  rw [hb] at h4
  exact ⟨v, l, h1, h2, h3, h4⟩
def RowGood (x : Row) : Prop := (Lit.int .i64 x.time).wf = true ∧ (∀ y ∈ x.vals, ValOk y) ∧ x.vals.length * 32 ≤ reachBytes
theorem cell_vals : Tryd.prog.cellsOf 77 = 1 := by kernel_rfl
theorem list_two {α : Type} {l : List α} (h : l.length = 2) {a b : α} (h0 : l[0]? = some a) (h1 : l[1]? = some b) : l = [a, b] := by
  match l, h with
  | [x, y], _ => simp at h0 h1; simp [h0, h1]
theorem row_cells {n : Nat} {cs : List Value} {d : DataW H} {pl : List MemPlace} (h : DataW.trod enc Tryd.prog w base spare held n 79 cs = some (d, pl)) (hf : Fits Tryd.prog 79 d) :
    ∃ (x : Row) (v : Value), cs = [.int .i64 x.time, v] ∧ IsVals w v x.vals ∧ RowGood x := by
  obtain ⟨hl, hfs⟩ := open_struct Tryd.underlying79 h hf
  have hl' : cs.length = 2 := hl.trans (by kernel_rfl)
  obtain ⟨n0, d0, p0, t0, f0⟩ := hfs 0 _ rfl
  obtain ⟨n1, d1, p1, t1, f1⟩ := hfs 1 _ rfl
  obtain ⟨a0, e0, s0⟩ := list_take (i := 0) hl' (by omega)
  obtain ⟨a1, e1, s1⟩ := list_take (i := 1) hl' (by omega)
  change DataW.trod enc Tryd.prog w base spare held n0 2 ((cs.drop 0).take (Tryd.prog.cellsOf 2)) = _ at t0
  rw [cell_i64, s0] at t0
  change DataW.trod enc Tryd.prog w base spare held n1 77 ((cs.drop 1).take (Tryd.prog.cellsOf 77)) = _ at t1
  rw [cell_vals, s1] at t1
  obtain ⟨k, q0, _, w0⟩ := DataW.trod_int Tryd.underlying2 t0
  obtain ⟨v, l, q1, hv, hok, hb⟩ := vals_of t1 f1
  simp only [List.cons.injEq, and_true] at q0 q1
  subst q0 q1
  exact ⟨⟨k, l⟩, _, list_two hl' e0 e1, hv, w0, hok, hb⟩
end
end Go.Proofs.YtcmpjdnbjhkhdaaDoor
