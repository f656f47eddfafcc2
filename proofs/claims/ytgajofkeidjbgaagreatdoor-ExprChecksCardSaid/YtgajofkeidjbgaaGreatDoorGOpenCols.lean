/-
  PROVED HERE: columns that came in, opened by their cells.
  PROVED HERE: streamwrightlaw3.ExprChecks returns true, for every text and every columns that came in.
-/
import Derived.Test.YtgajofkeidjbgaaGreatDoorGCompile
namespace Go.Proofs.YtgajofkeidjbgaaGreatDoor
set_option linter.unusedSimpArgs false
set_option linter.unusedVariables false
open Go Go.RowKit Go.Deep

section
variable {H : Type} {enc : TypeId × Value → H} {w : World} {base : Nat} {spare : Nat → Bool} {held : Bool}
theorem str_bound {t : TypeId} {s : ByteArray} (h : Fits (H := H) Tryz.prog t (.lit (.string s.data.toList))) : s.data.toList.length ≤ 140737488355328 := Nat.le_trans (h s.data.toList.length (by unfold DataW.weights; exact List.mem_singleton.2 rfl)) (by unfold reachBytes; omega)
def ColGood (x : Col) : Prop := x.s.length ≤ 140737488355328
theorem col_cells {n : Nat} {cs : List Value} {d : DataW H} {pl : List MemPlace} (h : DataW.trod enc Tryz.prog w base spare held n 35 cs = some (d, pl)) (hf : Fits Tryz.prog 35 d) :
    ∃ x : Col, cs = [.string (strB x.s), .int .i64 x.k] ∧ ColGood x := by
  obtain ⟨hl, hfs⟩ := open_struct Tryz.underlying35 h hf
  have hl' : cs.length = 2 := hl.trans (by kernel_rfl)
  obtain ⟨n0, d0, p0, t0, f0⟩ := hfs 0 _ rfl
  obtain ⟨n1, d1, p1, t1, f1⟩ := hfs 1 _ rfl
  obtain ⟨a0, e0, s0⟩ := list_take (i := 0) hl' (by omega)
  obtain ⟨a1, e1, s1⟩ := list_take (i := 1) hl' (by omega)
  change DataW.trod enc Tryz.prog w base spare held n0 9 ((cs.drop 0).take (Tryz.prog.cellsOf 9)) = _ at t0
  rw [cell_str, s0] at t0
  change DataW.trod enc Tryz.prog w base spare held n1 33 ((cs.drop 1).take (Tryz.prog.cellsOf 33)) = _ at t1
  rw [cell_kind, s1] at t1
  obtain ⟨s, q0, hd, w0⟩ := DataW.trod_string Tryz.underlying9 t0
  obtain ⟨k, q1, _, w1⟩ := DataW.trod_int Tryz.underlying33 t1
  simp only [List.cons.injEq, and_true] at q0 q1
  subst q0 q1
  simp only [Prod.mk.injEq] at hd
  obtain ⟨rfl, -⟩ := hd
  refine ⟨⟨s.data.toList, k⟩, ?_, str_bound f0⟩
  rw [strB_data]
  exact list_two hl' e0 e1
theorem cols_of {n : Nat} {cs : List Value} {d : DataW H} {pl : List MemPlace} (h : DataW.trod enc Tryz.prog w base spare held n 36 cs = some (d, pl)) (hf : Fits Tryz.prog 36 d) :
    ∃ v l, cs = [v] ∧ SliceOf All ColC 2 w v l ∧ (∀ x ∈ l, ColGood x) ∧ l.length * 24 ≤ reachBytes := by
  obtain ⟨v, l, h1, h2, h3, h4⟩ := open_list (At := ColC) (Good := ColGood) (size := 2) Tryz.underlying36 (by kernel_rfl) (by decide) (fun n cs' d pl ht hf _ => by
    obtain ⟨x, rfl, hx⟩ := col_cells ht hf
    exact ⟨x, hx, fun b o hc => ⟨hc 0 _ rfl, hc 1 _ rfl⟩⟩) h hf
  have hb : Tryz.prog.bytesOf 35 = 24 := by kernel_rfl
  rw [hb] at h4
  exact ⟨v, l, h1, h2, h3, h4⟩
theorem cols_arg {W : World} {v : Value} {l : List Col} (h : SliceOf All ColC 2 W v l) (hg : ∀ x ∈ l, ColGood x) (hb : l.length * 24 ≤ reachBytes) : ∃ ao c, v = .slice ao l.length c ∧ ColsArg W ao c l := by
  obtain ⟨a, c, hv, hl, hc, hn, he⟩ := h
  exact ⟨a, c, hv, he, ⟨hl, by unfold reachBytes at hb; omega⟩, hg⟩
end
end Go.Proofs.YtgajofkeidjbgaaGreatDoor
namespace Go.Proofs.YtgajofkeidjbgaaGreatDoor
set_option linter.unusedSimpArgs false
set_option linter.unusedVariables false
open Go Go.RowKit Go.Deep

theorem checks_str (s : ByteArray) (cs : List Col) (v : Value) (w : World) (h : SliceOf All ColC 2 w v cs) (hg : ∀ x ∈ cs, ColGood x) (hb : cs.length * 24 ≤ reachBytes) (hE : ErrVars w) (hT : PowTab w) (hS : SpaceTab w) (hG : Laid w) :
    Calls Tryz.prog 5 #[.string s, v] w fun e w' => e = .returned (.bool true) ∧ Later w w' := by
  obtain ⟨ao, c, rfl, ha⟩ := cols_arg h hg hb
  have h := checks_walk s.data.toList ao c cs w hE hT hS hG ha
  rw [strB_data] at h
  exact h
end Go.Proofs.YtgajofkeidjbgaaGreatDoor
