/-
  PROVED HERE: what flows of a partition, in plain Lean: told times rise, no row is below what was told ahead of it, each row comes or is counted. No program of its own.
-/
import Derived.Test.YtjpdmlopbflggaaSource
namespace Go.Proofs.Ytjpdmlopbflggaa
open Go.RowKit

/-- what the law reckons of elements: none: it says no. -/
def chk : List Elem → Int → Int → Option (Int × Int)
  | [], told, n => some (told, n)
  | e :: es, told, n => if e.kind = 1 then (if e.row.time < told then none else chk es told (n + 1)) else if e.kind = 2 then (if e.time ≤ told then none else chk es e.time n) else none

theorem advance_chk (s : Src) (to n : Int) : chk (s.advance to).2 s.time n = some ((s.advance to).1.time, n) := by
  unfold Src.advance
  by_cases h : to ≤ s.time
  · simp [h, chk]
  · simp [h, chk, timeElem]
theorem advance_same (s : Src) (to : Int) : (s.advance to).1.rows = s.rows ∧ (s.advance to).1.bound = s.bound ∧ (s.advance to).1.at_ = s.at_ ∧ (s.advance to).1.late = s.late := by
  unfold Src.advance
  split <;> simp
theorem advance_time (s : Src) (to : Int) : (s.advance to).1.time = if to ≤ s.time then s.time else to := by
  unfold Src.advance
  split <;> simp
structure Taken (s : Src) (n : Int) (s' : Src) (n' : Int) : Prop where
  chk : chk s.take.2 s.time n = some (s'.time, n')
  eq : s.take.1 = s'
  rows : s'.rows = s.rows
  bound : s'.bound = s.bound
  at_ : s'.at_ = s.at_ + 1
  low : -1 ≤ s'.time
  high : s.at_ < s.rows.length → s'.time ≤ 1099511627776
  last : s.at_ = s.rows.length → s'.time = 1099511627777
  late0 : 0 ≤ s'.late
  late : s'.late ≤ s.late + 1
  count : n' + s'.late = n + s.late + if s.at_ < s.rows.length then 1 else 0
  n : n ≤ n' ∧ n' ≤ n + 1
theorem take_taken (s : Src) (n : Int) (hs : s.Ok) (hat : s.at_ ≤ s.rows.length) (hlo : -1 ≤ s.time) (hhi : s.time ≤ 1099511627776) : ∃ s' n', Taken s n s' n' := by
  obtain ⟨h1, h2, h3, h4, h5, h6, h7⟩ := hs
  have hn : ¬ s.rows.length < s.at_ := by omega
  rcases Nat.lt_or_eq_of_le hat with hlt | heq
  · have hx : s.rows[s.at_]? = some s.rows[s.at_] := List.getElem?_eq_getElem hlt
    have hv := List.all_eq_true.1 h2 _ (List.getElem_mem hlt)
    simp only [validR, Bool.and_eq_true, decide_eq_true_eq] at hv
    generalize s.rows[s.at_] = x at *
    by_cases hl : x.time < s.time
    · refine ⟨{ s with at_ := s.at_ + 1, late := s.late + 1 }, n, ?_, by simp [Src.take, hn, hx, hl], rfl, rfl, rfl, hlo, fun _ => hhi, fun h => by omega, by simp; omega, by simp, by simp [hlt]; omega, by omega⟩
      simp [Src.take, hn, hx, hl, chk]
    · have ha := advance_same { s with at_ := s.at_ + 1 } (x.time - s.bound)
      have ht := advance_time { s with at_ := s.at_ + 1 } (x.time - s.bound)
      have hc := advance_chk { s with at_ := s.at_ + 1 } (x.time - s.bound) (n + 1)
      refine ⟨(Src.advance { s with at_ := s.at_ + 1 } (x.time - s.bound)).1, n + 1, ?_, by simp [Src.take, hn, hx, hl], ha.1, ha.2.1, ha.2.2.1, ?_, fun _ => ?_, fun h => by omega, ?_, ?_, ?_, by omega⟩
      · simp only [Src.take, hn, hx, hl, if_false, chk, rowElem, if_true]
        exact hc
      · rw [ht]; simp only; split <;> omega
      · rw [ht]; simp only; split <;> omega
      · rw [ha.2.2.2]; exact h6
      · rw [ha.2.2.2]; simp only; omega
      · rw [ha.2.2.2]; simp only [hlt, if_true]; omega
  · have hx : s.rows[s.at_]? = none := List.getElem?_eq_none (by omega)
    have ha := advance_same { s with at_ := s.at_ + 1 } 1099511627777
    have ht := advance_time { s with at_ := s.at_ + 1 } 1099511627777
    have hc := advance_chk { s with at_ := s.at_ + 1 } 1099511627777 n
    have hne : ¬ (1099511627777 ≤ s.time) := by omega
    refine ⟨(Src.advance { s with at_ := s.at_ + 1 } 1099511627777).1, n, ?_, by simp [Src.take, hn, hx], ha.1, ha.2.1, ha.2.2.1, ?_, fun h => by omega, fun _ => ?_, ?_, ?_, ?_, by omega⟩
    · simp only [Src.take, hn, hx, if_false]
      exact hc
    · rw [ht]; simp only [hne, if_false]; omega
    · rw [ht]; simp only [hne, if_false]
    · rw [ha.2.2.2]; exact h6
    · rw [ha.2.2.2]; simp only; omega
    · rw [ha.2.2.2]; simp [heq]
theorem take_len (s : Src) : s.take.2.length ≤ 2 := by
  have ha : ∀ (s : Src) to, (s.advance to).2.length ≤ 1 := fun s to => by unfold Src.advance; split <;> simp
  unfold Src.take
  by_cases h0 : s.rows.length < s.at_
  · simp [h0]
  · simp only [h0, if_false]
    cases hx : s.rows[s.at_]? with
    | none => have := ha { s with at_ := s.at_ + 1 } 1099511627777; simp only; omega
    | some x =>
      by_cases hl : x.time < s.time
      · simp [hl]
      · have := ha { s with at_ := s.at_ + 1 } (x.time - s.bound)
        simp only [hl, if_false, List.length_cons]; omega
end Go.Proofs.Ytjpdmlopbflggaa
