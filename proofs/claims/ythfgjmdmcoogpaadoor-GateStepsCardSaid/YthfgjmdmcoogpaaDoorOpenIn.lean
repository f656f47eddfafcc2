/-
  PROVED HERE: values, rows, elements that came in, opened by their cells. No program of its own.
-/
import Derived.Test.YthfgjmdmcoogpaaDoorElem
import Derived.Test.YthfgjmdmcoogpaaDoorOpenVal
namespace Go.Proofs.YthfgjmdmcoogpaaDoor
open Go Go.RowKit Go.Deep

section
variable {H : Type} {enc : TypeId × Value → H} {w : World} {base : Nat} {spare : Nat → Bool} {held : Bool}
theorem list_five {α : Type} {l : List α} (h : l.length = 5) {a b c d e : α} (h0 : l[0]? = some a) (h12 : (l.drop 1).take 2 = [b, c]) (h3 : l[3]? = some d) (h4 : l[4]? = some e) : l = [a, b, c, d, e] := by
  match l, h with
  | [x, y, z, u, v], _ => simp at h0 h12 h3 h4; simp [h0, h12, h3, h4]
theorem list_six {α : Type} {l : List α} (h : l.length = 6) {a : α} {r : List α} (h0 : l[0]? = some a) (h1 : (l.drop 1).take 5 = r) : l = a :: r := by
  match l, h with
  | [x, y, z, u, v, q], _ => simp at h0 h1; simp [h0, h1]
theorem cell_int : Tryd.prog.cellsOf 3 = 1 := by kernel_rfl
theorem cell_row : Tryd.prog.cellsOf 37 = 2 := by kernel_rfl
theorem cell_elem : Tryd.prog.cellsOf 61 = 5 := by kernel_rfl
def ElemGood (e : Elem) : Prop := (Lit.int .i64 e.kind).wf = true ∧ RowGood e.row ∧ (Lit.int .i64 e.time).wf = true ∧ (Lit.int .i64 e.mark).wf = true
theorem elem_cells {n : Nat} {cs : List Value} {d : DataW H} {pl : List MemPlace} (h : DataW.trod enc Tryd.prog w base spare held n 61 cs = some (d, pl)) (hf : Fits Tryd.prog 61 d) :
    ∃ (x : Elem) (v : Value), cs = x.cells v ∧ IsVals w v x.row.vals ∧ ElemGood x := by
  obtain ⟨hl, hfs⟩ := open_struct Tryd.underlying61 h hf
  have hl' : cs.length = 5 := hl.trans (by kernel_rfl)
  obtain ⟨n0, d0, p0, t0, f0⟩ := hfs 0 _ rfl
  obtain ⟨n1, d1, p1, t1, f1⟩ := hfs 1 _ rfl
  obtain ⟨n2, d2, p2, t2, f2⟩ := hfs 2 _ rfl
  obtain ⟨n3, d3, p3, t3, f3⟩ := hfs 3 _ rfl
  obtain ⟨a0, e0, s0⟩ := list_take (i := 0) hl' (by omega)
  obtain ⟨a3, e3, s3⟩ := list_take (i := 3) hl' (by omega)
  obtain ⟨a4, e4, s4⟩ := list_take (i := 4) hl' (by omega)
  change DataW.trod enc Tryd.prog w base spare held n0 3 ((cs.drop 0).take (Tryd.prog.cellsOf 3)) = _ at t0
  rw [cell_int, s0] at t0
  change DataW.trod enc Tryd.prog w base spare held n1 37 ((cs.drop 1).take (Tryd.prog.cellsOf 37)) = _ at t1
  rw [cell_row] at t1
  change DataW.trod enc Tryd.prog w base spare held n2 2 ((cs.drop 3).take (Tryd.prog.cellsOf 2)) = _ at t2
  rw [cell_i64, s3] at t2
  change DataW.trod enc Tryd.prog w base spare held n3 3 ((cs.drop 4).take (Tryd.prog.cellsOf 3)) = _ at t3
  rw [cell_int, s4] at t3
  obtain ⟨k, q0, _, w0⟩ := DataW.trod_int Tryd.underlying3 t0
  obtain ⟨x, v, q1, hv, hg⟩ := row_cells t1 f1
  obtain ⟨t, q2, _, w2⟩ := DataW.trod_int Tryd.underlying2 t2
  obtain ⟨m, q3, _, w3⟩ := DataW.trod_int Tryd.underlying3 t3
  simp only [List.cons.injEq, and_true] at q0 q2 q3
  subst q0 q2 q3
  exact ⟨⟨k, x, t, m⟩, v, list_five hl' e0 q1 e3 e4, hv, w0, hg, w2, w3⟩
/-- an element that came in, and its channel. -/
structure In where
  chan : Int
  e : Elem
def InAt (w : World) (b o : Nat) (x : In) : Prop :=
  w.cell? ⟨b, o, none⟩ = some (.int .i64 x.chan) ∧ w.cell? ⟨b, o + 1, none⟩ = some (.int .i64 x.e.kind) ∧ w.cell? ⟨b, o + 2, none⟩ = some (.int .i64 x.e.row.time) ∧ (∃ v, w.cell? ⟨b, o + 3, none⟩ = some v ∧ IsVals w v x.e.row.vals) ∧
    w.cell? ⟨b, o + 4, none⟩ = some (.int .i64 x.e.time) ∧ w.cell? ⟨b, o + 5, none⟩ = some (.int .i64 x.e.mark)
theorem InAt.later {w w' : World} {b o : Nat} {x : In} (h : InAt w b o x) (k : Later w w') : InAt w' b o x :=
  ⟨k.cell h.1, k.cell h.2.1, k.cell h.2.2.1, (let ⟨v, h1, h2⟩ := h.2.2.2.1; ⟨v, k.cell h1, h2.later k⟩), k.cell h.2.2.2.2.1, k.cell h.2.2.2.2.2⟩
abbrev IsIns (w : World) (v : Value) (l : List In) : Prop := SliceOf All InAt 6 w v l
def InGood (x : In) : Prop := (Lit.int .i64 x.chan).wf = true ∧ ElemGood x.e
theorem in_cells {n : Nat} {cs : List Value} {d : DataW H} {pl : List MemPlace} (h : DataW.trod enc Tryd.prog w base spare held n 63 cs = some (d, pl)) (hf : Fits Tryd.prog 63 d) :
    ∃ (x : In) (v : Value), cs = .int .i64 x.chan :: x.e.cells v ∧ IsVals w v x.e.row.vals ∧ InGood x := by
  obtain ⟨hl, hfs⟩ := open_struct Tryd.underlying63 h hf
  have hl' : cs.length = 6 := hl.trans (by kernel_rfl)
  obtain ⟨n0, d0, p0, t0, f0⟩ := hfs 0 _ rfl
  obtain ⟨n1, d1, p1, t1, f1⟩ := hfs 1 _ rfl
  obtain ⟨a0, e0, s0⟩ := list_take (i := 0) hl' (by omega)
  change DataW.trod enc Tryd.prog w base spare held n0 3 ((cs.drop 0).take (Tryd.prog.cellsOf 3)) = _ at t0
  rw [cell_int, s0] at t0
  change DataW.trod enc Tryd.prog w base spare held n1 61 ((cs.drop 1).take (Tryd.prog.cellsOf 61)) = _ at t1
  rw [cell_elem] at t1
  obtain ⟨k, q0, _, w0⟩ := DataW.trod_int Tryd.underlying3 t0
  obtain ⟨x, v, q1, hv, hg⟩ := elem_cells t1 f1
  simp only [List.cons.injEq, and_true] at q0
  subst q0
  exact ⟨⟨k, x⟩, v, list_six hl' e0 q1, hv, w0, hg⟩
theorem ins_of {n : Nat} {cs : List Value} {d : DataW H} {pl : List MemPlace} (h : DataW.trod enc Tryd.prog w base spare held n 54 cs = some (d, pl)) (hf : Fits Tryd.prog 54 d) :
    ∃ v l, cs = [v] ∧ IsIns w v l ∧ (∀ x ∈ l, InGood x) ∧ l.length * Tryd.prog.bytesOf 63 ≤ reachBytes :=
  open_list (At := InAt) (Good := InGood) (size := 6) Tryd.underlying54 (by kernel_rfl) (by decide) (fun n cs' d pl ht hf _ => by
    obtain ⟨x, v, rfl, hv, hg⟩ := in_cells ht hf
    exact ⟨x, hg, fun b o hc => ⟨hc 0 _ rfl, hc 1 _ rfl, hc 2 _ rfl, ⟨v, hc 3 _ rfl, hv⟩, hc 4 _ rfl, hc 5 _ rfl⟩⟩) h hf
end
end Go.Proofs.YthfgjmdmcoogpaaDoor
