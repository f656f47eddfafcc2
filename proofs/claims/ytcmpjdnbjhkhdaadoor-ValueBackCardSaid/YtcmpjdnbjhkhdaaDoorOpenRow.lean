/-
  PROVED HERE: rows that came in, opened by their cells. No program of its own.
-/
import Derived.Test.YtcmpjdnbjhkhdaaDoorOpenVal
namespace Go.Proofs.YtcmpjdnbjhkhdaaDoor
set_option linter.unusedSimpArgs false
set_option linter.unusedVariables false
open Go Go.RowKit Go.Deep

section
variable {H : Type} {enc : TypeId × Value → H} {w : World} {base : Nat} {spare : Nat → Bool} {held : Bool}
theorem rows_of {n : Nat} {cs : List Value} {d : DataW H} {pl : List MemPlace} (h : DataW.trod enc Tryd.prog w base spare held n 73 cs = some (d, pl)) (hf : Fits Tryd.prog 73 d) :
    ∃ v l, cs = [v] ∧ IsRows w v l ∧ (∀ x ∈ l, RowGood x) ∧ l.length * 32 ≤ reachBytes := by
  obtain ⟨v, l, h1, h2, h3, h4⟩ := open_list (At := RowAt All) (Good := RowGood) (size := 2) Tryd.underlying73 (by kernel_rfl) (by decide) (fun n cs' d pl ht hf _ => by
    obtain ⟨x, v, rfl, hv, hx⟩ := row_cells ht hf
    exact ⟨x, hx, fun b o hc => ⟨hc 0 _ rfl, v, hc 1 _ rfl, hv⟩⟩) h hf
  have hb : Tryd.prog.bytesOf 79 = 32 := by kernel_rfl
  rw [hb] at h4
  exact ⟨v, l, h1, h2, h3, h4⟩
end
end Go.Proofs.YtcmpjdnbjhkhdaaDoor
