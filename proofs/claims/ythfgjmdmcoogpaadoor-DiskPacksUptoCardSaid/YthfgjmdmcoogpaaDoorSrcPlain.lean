/-
  PROVED HERE: what flows of a partition is what the document says, in plain Lean. No program of its own.
-/
import Derived.Test.YthfgjmdmcoogpaaDoorSource
namespace Go.Proofs.YthfgjmdmcoogpaaDoor
set_option linter.unusedSimpArgs false
set_option linter.unusedVariables false
open Go.RowKit

/-- the reader that has read so much. -/
def srcN (rows : List Row) (bound : Int) : Nat → Src
  | 0 => ⟨rows, bound, 0, -1, 0⟩
  | n + 1 => (srcN rows bound n).take.1
def tStep (bound : Int) (t : Int) (x : Row) : Int := if t ≤ x.time ∧ t < x.time - bound then x.time - bound else t
def rdFold (rows : List Row) (bound : Int) (n : Nat) : Int := (rows.take n).foldl (tStep bound) (-1)
def rdTime (rows : List Row) (bound : Int) (n : Nat) : Int := if rows.length < n then 1099511627777 else rdFold rows bound n
def rdLate (rows : List Row) (bound : Int) (i : Nat) : Bool := match rows[i]? with | some x => decide (x.time < rdTime rows bound i) | none => false
def rdLost (rows : List Row) (bound : Int) : Nat → Nat
  | 0 => 0
  | n + 1 => rdLost rows bound n + if rdLate rows bound n = true then 1 else 0
def rdRow (rows : List Row) (bound : Int) (n : Nat) : List Elem := match rows[n]? with | some x => if rdLate rows bound n = true then [] else [rowElem x] | none => []
def rdTold (rows : List Row) (bound : Int) (n : Nat) : List Elem := if rdTime rows bound n < rdTime rows bound (n + 1) then [timeElem (rdTime rows bound (n + 1))] else []
def rdTake (rows : List Row) (bound : Int) (n : Nat) : List Elem := if rows.length < n then [] else rdRow rows bound n ++ rdTold rows bound n

/-- rows and a bound that a reader takes. -/
structure SrcOk (rows : List Row) (bound : Int) : Prop where
  len : rows.length ≤ 100
  valid : rows.all validR = true
  low : 0 ≤ bound
  high : bound ≤ 1048576
section
variable {rows : List Row} {bound : Int}
theorem SrcOk.at_ (h : SrcOk rows bound) {n : Nat} (hn : n < rows.length) : 0 ≤ rows[n].time ∧ rows[n].time ≤ 1099511627776 := by
  have := List.all_eq_true.1 h.valid _ (List.getElem_mem hn)
  simp only [validR, Bool.and_eq_true, decide_eq_true_eq] at this
  omega
theorem rdFold_succ {n : Nat} (hn : n < rows.length) : rdFold rows bound (n + 1) = tStep bound (rdFold rows bound n) rows[n] := by
  unfold rdFold
  rw [List.take_succ_eq_append_getElem hn, List.foldl_append]
  rfl
theorem rdFold_range (h : SrcOk rows bound) : ∀ n, n ≤ rows.length → -1 ≤ rdFold rows bound n ∧ rdFold rows bound n ≤ 1099511627776
  | 0, _ => by simp [rdFold]
  | n + 1, hn => by
    have ih := rdFold_range h n (by omega)
    have hx := h.at_ (n := n) (by omega)
    have hl := h.low
    rw [rdFold_succ (by omega)]
    unfold tStep
    split <;> omega
theorem rdTime_in {n : Nat} (hn : n ≤ rows.length) : rdTime rows bound n = rdFold rows bound n := by
  unfold rdTime; rw [if_neg (by omega)]
theorem rdTime_end {n : Nat} (hn : rows.length < n) : rdTime rows bound n = 1099511627777 := by
  unfold rdTime; rw [if_pos hn]
theorem rdLost_le : ∀ n, rdLost rows bound n ≤ n
  | 0 => Nat.le_refl _
  | n + 1 => by have := rdLost_le n; simp only [rdLost]; split <;> omega

/-- what a reader is, that has read so much. -/
structure SrcIs (rs : List Row) (bd : Int) (n : Nat) (s : Src) : Prop where
  rows : s.rows = rs
  bound : s.bound = bd
  at_ : s.at_ = n
  time : s.time = rdTime rs bd n
  late : s.late = rdLost rs bd n
theorem SrcIs.eq {n : Nat} {s : Src} (h : SrcIs rows bound n s) : s = ⟨rows, bound, n, rdTime rows bound n, rdLost rows bound n⟩ := by
  obtain ⟨a, b, c, d, e⟩ := s
  obtain ⟨h1, h2, h3, h4, h5⟩ := h
  simp only at h1 h2 h3 h4 h5
  simp [h1, h2, h3, h4, h5]
theorem SrcIs.take (hok : SrcOk rows bound) {n : Nat} {s : Src} (h : SrcIs rows bound n s) (hn : n ≤ rows.length) : SrcIs rows bound (n + 1) s.take.1 ∧ s.take.2 = rdTake rows bound n := by
  have hs := h.eq
  subst hs
  clear h
  have hr := rdFold_range hok n hn
  have hnn : ¬ rows.length < n := by omega
  unfold Src.take rdTake
  rw [if_neg hnn, if_neg hnn]
  simp only
  by_cases hlt : n < rows.length
  · have hx := hok.at_ hlt
    have hl := hok.low
    have hsucc := rdFold_succ (bound := bound) hlt
    have ht1 : rdTime rows bound (n + 1) = tStep bound (rdFold rows bound n) rows[n] := by rw [rdTime_in (by omega), hsucc]
    have ht0 : rdTime rows bound n = rdFold rows bound n := rdTime_in hn
    have hlate : rdLate rows bound n = decide (rows[n].time < rdFold rows bound n) := by unfold rdLate; rw [List.getElem?_eq_getElem hlt, ht0]
    unfold rdRow rdTold
    rw [List.getElem?_eq_getElem hlt]
    simp only
    rw [ht0, ht1, hlate]
    by_cases hc : rows[n].time < rdFold rows bound n
    · have hstep : tStep bound (rdFold rows bound n) rows[n] = rdFold rows bound n := by unfold tStep; rw [if_neg (by omega)]
      rw [if_pos hc, hstep, if_pos (by simpa using hc), if_neg (by omega)]
      exact ⟨⟨rfl, rfl, rfl, by rw [ht1, hstep], by simp [rdLost, hlate, hc]⟩, rfl⟩
    · rw [if_neg hc, if_neg (by simpa using hc)]
      have hll : rdLost rows bound (n + 1) = rdLost rows bound n := by simp [rdLost, hlate, hc]
      unfold Src.advance
      simp only
      by_cases hd : rows[n].time - bound ≤ rdFold rows bound n
      · have hstep : tStep bound (rdFold rows bound n) rows[n] = rdFold rows bound n := by unfold tStep; rw [if_neg (by omega)]
        rw [if_pos hd, hstep, if_neg (by omega)]
        exact ⟨⟨rfl, rfl, rfl, by rw [ht1, hstep], by rw [hll]⟩, rfl⟩
      · have hstep : tStep bound (rdFold rows bound n) rows[n] = rows[n].time - bound := by unfold tStep; rw [if_pos (by omega)]
        rw [if_neg hd, hstep, if_pos (by omega)]
        exact ⟨⟨rfl, rfl, rfl, by rw [ht1, hstep], by rw [hll]⟩, rfl⟩
  · obtain rfl : n = rows.length := by omega
    have ht0 : rdTime rows bound rows.length = rdFold rows bound rows.length := rdTime_in hn
    have ht1 : rdTime rows bound (rows.length + 1) = 1099511627777 := rdTime_end (by omega)
    have hnone : rows[rows.length]? = none := by simp
    have hll : rdLost rows bound (rows.length + 1) = rdLost rows bound rows.length := by simp [rdLost, rdLate, hnone]
    unfold rdRow rdTold
    rw [hnone]
    simp only
    rw [ht0, ht1]
    unfold Src.advance
    simp only
    rw [if_neg (by omega), if_pos (by omega)]
    exact ⟨⟨rfl, rfl, rfl, ht1.symm, by rw [hll]⟩, rfl⟩
theorem SrcIs.stay {n : Nat} {s : Src} (h : SrcIs rows bound n s) (hn : rows.length < n) : s.take.1 = s ∧ s.take.2 = rdTake rows bound n := by
  have hs := h.eq
  subst hs
  unfold Src.take rdTake
  simp [hn]
theorem srcN_is (hok : SrcOk rows bound) : ∀ n, n ≤ rows.length + 1 → SrcIs rows bound n (srcN rows bound n)
  | 0, _ => ⟨rfl, rfl, rfl, by simp [srcN, rdTime, rdFold], rfl⟩
  | n + 1, hn => ((srcN_is hok n (by omega)).take hok (by omega)).1
theorem SrcIs.ok (hok : SrcOk rows bound) {n : Nat} {s : Src} (h : SrcIs rows bound n s) (hn : n ≤ rows.length + 1) : s.Ok := by
  have hs := h.eq
  subst hs
  have := rdLost_le (rows := rows) (bound := bound) n
  have := hok.len
  exact ⟨hok.len, hok.valid, hok.low, hok.high, by simp only; omega, by simp only; omega, by simp only; omega⟩
theorem rdRow_len (rs : List Row) (bd : Int) (n : Nat) : (rdRow rs bd n).length ≤ 1 := by
  unfold rdRow
  split
  · split <;> simp
  · simp
theorem rdTake_short (n : Nat) : (rdTake rows bound n).length ≤ 2 ∧ ∀ i (h : i < (rdTake rows bound n).length), i ≠ 0 → (rdTake rows bound n)[i].row.vals = [] := by
  have h1 : rdRow rows bound n = [] ∨ ∃ x, rdRow rows bound n = [rowElem x] := by
    unfold rdRow
    split
    · split
      · exact .inl rfl
      · exact .inr ⟨_, rfl⟩
    · exact .inl rfl
  have h2 : rdTold rows bound n = [] ∨ ∃ t, rdTold rows bound n = [timeElem t] := by
    unfold rdTold
    split
    · exact .inr ⟨_, rfl⟩
    · exact .inl rfl
  unfold rdTake
  split
  · exact ⟨by simp, fun i h => by simp at h⟩
  · rcases h1 with h1 | ⟨x, h1⟩ <;> rcases h2 with h2 | ⟨t, h2⟩ <;> rw [h1, h2]
    · exact ⟨by simp, fun i h => by simp at h⟩
    · exact ⟨by simp, fun i h hi => by simp at h; omega⟩
    · exact ⟨by simp, fun i h hi => by simp at h; omega⟩
    · refine ⟨by simp, fun i h hi => ?_⟩
      obtain rfl : i = 1 := by simp at h; omega
      rfl
end
end Go.Proofs.YthfgjmdmcoogpaaDoor
