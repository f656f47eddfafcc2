/-
  PROVED HERE: steps of a disk's script that came in, opened by their cells. No program of its own.
-/
import Derived.Test.YtcmpjdnbjhkhdaaDoorOpenVal
import Derived.Test.YtcmpjdnbjhkhdaaDoorStepsKit
namespace Go.Proofs.YtcmpjdnbjhkhdaaDoor
set_option linter.unusedSimpArgs false
set_option linter.unusedVariables false
open Go Go.RowKit Go.Deep

section
variable {H : Type} {enc : TypeId × Value → H} {w : World} {base : Nat} {spare : Nat → Bool} {held : Bool}
theorem cell_int12 : Tryd.prog.cellsOf 3 = 1 := by kernel_rfl
theorem cell_bytes12 : Tryd.prog.cellsOf 45 = 1 := by kernel_rfl
theorem cell_u12 : Tryd.prog.cellsOf 5 = 1 := by kernel_rfl
theorem list_four4 {α : Type} {l : List α} (h : l.length = 4) {a b c d : α} (h0 : l[0]? = some a) (h1 : l[1]? = some b) (h2 : l[2]? = some c) (h3 : l[3]? = some d) : l = [a, b, c, d] := by
  match l, h with
  | [x, y, z, u], _ => simp at h0 h1 h2 h3; simp [h0, h1, h2, h3]
theorem op12_cells {n : Nat} {cs : List Value} {d : DataW H} {pl : List MemPlace} (h : DataW.trod enc Tryd.prog w base spare held n 47 cs = some (d, pl)) (hf : Fits Tryd.prog 47 d) :
    ∃ x : OpD, cs = [.int .i64 x.kind, .int .i64 x.a, .string (strB x.name), x.dv] ∧ GoodOp w x := by
  obtain ⟨hl, hfs⟩ := open_struct Tryd.underlying47 h hf
  have hl' : cs.length = 4 := hl.trans (by kernel_rfl)
  obtain ⟨n0, d0, p0, t0, f0⟩ := hfs 0 _ rfl
  obtain ⟨n1, d1, p1, t1, f1⟩ := hfs 1 _ rfl
  obtain ⟨n2, d2, p2, t2, f2⟩ := hfs 2 _ rfl
  obtain ⟨n3, d3, p3, t3, f3⟩ := hfs 3 _ rfl
  obtain ⟨a0, e0, s0⟩ := list_take (i := 0) hl' (by omega)
  obtain ⟨a1, e1, s1⟩ := list_take (i := 1) hl' (by omega)
  obtain ⟨a2, e2, s2⟩ := list_take (i := 2) hl' (by omega)
  obtain ⟨a3, e3, s3⟩ := list_take (i := 3) hl' (by omega)
  change DataW.trod enc Tryd.prog w base spare held n0 3 ((cs.drop 0).take (Tryd.prog.cellsOf 3)) = _ at t0
  rw [cell_int12, s0] at t0
  change DataW.trod enc Tryd.prog w base spare held n1 3 ((cs.drop 1).take (Tryd.prog.cellsOf 3)) = _ at t1
  rw [cell_int12, s1] at t1
  change DataW.trod enc Tryd.prog w base spare held n2 9 ((cs.drop 2).take (Tryd.prog.cellsOf 9)) = _ at t2
  rw [cell_str, s2] at t2
  change DataW.trod enc Tryd.prog w base spare held n3 45 ((cs.drop 3).take (Tryd.prog.cellsOf 45)) = _ at t3
  rw [cell_bytes12, s3] at t3
  obtain ⟨k, q0, _, w0⟩ := DataW.trod_int Tryd.underlying3 t0
  obtain ⟨m, q1, _, w1⟩ := DataW.trod_int Tryd.underlying3 t1
  obtain ⟨s, q2, _, w2⟩ := DataW.trod_string Tryd.underlying9 t2
  obtain ⟨v, l, q3, hv, hb⟩ := open_bytes Tryd.underlying45 Tryd.underlying5 cell_u12 t3 f3
  have hb1 : Tryd.prog.bytesOf 5 = 1 := by kernel_rfl
  rw [hb1] at hb
  simp only [List.cons.injEq, and_true] at q0 q1 q2 q3
  subst q0 q1 q2 q3
  refine ⟨⟨k, m, s.data.toList, _, l⟩, by rw [strB_data]; exact list_four4 hl' e0 e1 e2 e3, hv.blt, ?_, ?_⟩
  · have e : s.data.toList.length = s.size := by rw [Array.length_toList]; rfl
    show s.data.toList.length ≤ maxLen
    rw [e]; exact w2
  · show l.length ≤ _
    unfold reachBytes at hb; omega
theorem ops12_of {n : Nat} {cs : List Value} {d : DataW H} {pl : List MemPlace} (h : DataW.trod enc Tryd.prog w base spare held n 41 cs = some (d, pl)) (hf : Fits Tryd.prog 41 d) :
    ∃ v l, cs = [v] ∧ IsOpsD w v l ∧ (∀ x ∈ l, GoodOp w x) ∧ l.length * 56 ≤ 140737488355328 := by
  obtain ⟨v, l, h1, h2, h3, h4⟩ := open_list (At := OpDAt) (Good := GoodOp w) (size := 4) Tryd.underlying41 (by kernel_rfl) (by decide) (fun n cs' d pl ht hf _ => by
    obtain ⟨x, rfl, hx⟩ := op12_cells ht hf
    exact ⟨x, hx, fun b o hc => ⟨hc 0 _ rfl, hc 1 _ rfl, hc 2 _ rfl, hc 3 _ rfl⟩⟩) h hf
  have hb : Tryd.prog.bytesOf 47 = 56 := by kernel_rfl
  rw [hb] at h4
  exact ⟨v, l, h1, h2, h3, by unfold reachBytes at h4; omega⟩
end
end Go.Proofs.YtcmpjdnbjhkhdaaDoor
