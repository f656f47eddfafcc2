/-
  PROVED HERE: values with times that came in, and how many by their bulk. No program of its own.
-/
import Derived.Test.YtcmpjdnbjhkhdaaDoorUpto
import Derived.Test.YtcmpjdnbjhkhdaaDoorOpenTimed
namespace Go.Proofs.YtcmpjdnbjhkhdaaDoor
set_option linter.unusedSimpArgs false
set_option linter.unusedVariables false
open Go Go.RowKit Go.Deep

section
variable {H : Type} {enc : TypeId × Value → H} {w : World} {base : Nat} {spare : Nat → Bool} {held : Bool}
theorem timed_bulk {n : Nat} {cs : List Value} {d : DataW H} {pl : List MemPlace} (h : DataW.trod enc Tryd.prog w base spare held n 36 cs = some (d, pl)) :
    ∃ x : TV, cs = x.cells ∧ TimedOk x ∧ 1 ≤ Rows.uptoBulk d := by
  obtain ⟨parts, rfl, hl, hpl, hfs⟩ := open_parts Tryd.underlying36 h
  have hl' : cs.length = 4 := hl.trans (by kernel_rfl)
  obtain ⟨n0, d0, p0, g0, t0⟩ := hfs 0 _ rfl
  obtain ⟨n1, d1, p1, g1, t1⟩ := hfs 1 _ rfl
  have hp := list_two (hpl.trans rfl) g0 g1
  obtain ⟨a0, e0, s0⟩ := list_take (i := 0) hl' (by omega)
  change DataW.trod enc Tryd.prog w base spare held n0 2 ((cs.drop 0).take (Tryd.prog.cellsOf 2)) = _ at t0
  rw [cell_i64, s0] at t0
  change DataW.trod enc Tryd.prog w base spare held n1 25 ((cs.drop 1).take (Tryd.prog.cellsOf 25)) = _ at t1
  rw [cell_val] at t1
  obtain ⟨k, q0, _, w0⟩ := DataW.trod_int Tryd.underlying2 t0
  obtain ⟨x, q1, hx, hb⟩ := val_bulk t1
  simp only [List.cons.injEq, and_true] at q0
  subst q0 hp
  refine ⟨⟨k, x⟩, list_four hl' e0 q1, ⟨w0, hx⟩, ?_⟩
  simp only [Rows.uptoBulk, Rows.uptoBulkAll, Val.bulk] at hb ⊢
  omega
theorem timeds_bulk {n : Nat} {cs : List Value} {d : DataW H} {pl : List MemPlace} (h : DataW.trod enc Tryd.prog w base spare held n 22 cs = some (d, pl)) :
    ∃ v l, cs = [v] ∧ IsTimeds w v l ∧ (∀ x ∈ l, TimedOk x) ∧ l.length + 1 ≤ Rows.uptoBulk d := by
  obtain ⟨v, l, h1, h2, h3, h4⟩ := open_list_bulk (At := TimedAt) (Good := TimedOk) (sz := fun _ => 1) (size := 4) Tryd.underlying22 (by kernel_rfl) (by decide) (fun n cs' d pl ht _ => by
    obtain ⟨x, rfl, hx, hb⟩ := timed_bulk ht
    exact ⟨x, hx, hb, fun b o hc => ⟨hc 0 _ rfl, hc 1 _ rfl, hc 2 _ rfl, hc 3 _ rfl⟩⟩) h
  have hs : ∀ l : List TV, (l.map fun _ => 1).sum = l.length := fun l => by induction l <;> simp_all [Nat.add_comm]
  rw [hs] at h4
  exact ⟨v, l, h1, h2, h3, h4⟩
end
end Go.Proofs.YtcmpjdnbjhkhdaaDoor
