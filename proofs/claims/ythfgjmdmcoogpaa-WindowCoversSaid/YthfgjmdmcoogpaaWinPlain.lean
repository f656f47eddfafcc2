/-
  PROVED HERE: windows in memory; in plain Lean: which windows a time is in.
-/
import Derived.Test.YthfgjmdmcoogpaaApp
import Derived.Test.YthfgjmdmcoogpaaFrame
namespace Go.Proofs.Ythfgjmdmcoogpaa
set_option linter.unusedSimpArgs false
set_option linter.unusedVariables false
open Go Go.RowKit

abbrev Win := Int × Int
def WinAt (w : World) (b o : Nat) (x : Win) : Prop := w.cell? ⟨b, o, none⟩ = some (.int .i64 x.1) ∧ w.cell? ⟨b, o + 1, none⟩ = some (.int .i64 x.2)
abbrev WinsIn (S : Nat → Prop) (w : World) (v : Value) (l : List Win) : Prop := SliceOf S WinAt 2 w v l
theorem SliceOf.wins_later {S : Nat → Prop} {w w' : World} {v : Value} {l : List Win} (h : WinsIn S w v l) (k : Later w w') : WinsIn S w' v l := h.map fun _ _ _ hb hx => ⟨hb, k.cell hx.1, k.cell hx.2⟩
def winCells (l : List Win) : List Value := l.flatMap fun x => [.int .i64 x.1, .int .i64 x.2]
theorem winCells_snoc (l : List Win) (x : Win) : winCells (l ++ [x]) = winCells l ++ [.int .i64 x.1, .int .i64 x.2] := by simp [winCells]
theorem winCells_length (l : List Win) : (winCells l).length = l.length * 2 := by
  induction l with
  | nil => rfl
  | cons x l ih => simp only [winCells, List.flatMap_cons, List.length_append, List.length_cons, List.length_nil] at ih ⊢; omega
theorem winCells_at : ∀ (l : List Win) (i : Nat) (h : i < l.length), (winCells l)[i * 2]? = some (.int .i64 l[i].1) ∧ (winCells l)[i * 2 + 1]? = some (.int .i64 l[i].2)
  | x :: l, 0, _ => ⟨rfl, rfl⟩
  | x :: l, i + 1, h => by
    have ih := winCells_at l i (by simpa using h)
    have e : winCells (x :: l) = .int .i64 x.1 :: .int .i64 x.2 :: winCells l := rfl
    rw [e, show (i + 1) * 2 = i * 2 + 1 + 1 by omega]
    simpa using ih
theorem owned_wins {w : World} {B n : Nat} {e : TypeId} {v : Value} {l : List Win} (h : w.ownsRow B e 2 v n (winCells l)) : WinsIn (fun b => B ≤ b) w v l := by
  obtain ⟨hn, hc⟩ := h
  rw [winCells_length] at hn
  obtain rfl : l.length = n := by omega
  rcases hc with ⟨rfl, h0⟩ | ⟨g, cap, cur, rfl, hb, hg, hle, hm, hcs, ht⟩
  · have : l = [] := List.eq_nil_of_length_eq_zero h0
    subst this
    exact ⟨none, 0, rfl, Nat.le_refl _, by unfold maxLen; omega, fun _ => rfl, fun i hi => (by cases hi)⟩
  · refine ⟨_, cap, rfl, hle, hm, fun h => (by cases h), fun i hi => ⟨g, 0, rfl, hb, ?_⟩⟩
    have cell : ∀ j u, (winCells l)[j]? = some u → w.cell? ⟨g, j, none⟩ = some u := fun j u hu => by
      refine cell_obj hg ?_
      rw [← ht, List.getElem?_take] at hu
      split at hu
      · simpa using hu
      · cases hu
    obtain ⟨h1, h2⟩ := winCells_at l i hi
    unfold WinAt
    simp only [Nat.zero_add]
    exact ⟨cell _ _ h1, cell _ _ h2⟩

/-- the multiples of a step, from the last one that is not behind a time. -/
def stepA (t p i : Int) : Int := (t / p + i) * p
theorem stepA_succ (t p i : Int) : stepA t p (i + 1) = stepA t p i + p := by
  unfold stepA
  rw [← Int.add_assoc, Int.add_mul (t / p + i) 1 p, Int.one_mul]
theorem stepA_pred (t p i : Int) : stepA t p (i - 1) = stepA t p i - p := by
  have := stepA_succ t p (i - 1)
  rw [Int.sub_add_cancel] at this
  omega
theorem stepA_le {t p : Int} (hp : 0 < p) (i : Int) : stepA t p i ≤ t ↔ i ≤ 0 := by
  unfold stepA
  rw [← Int.le_ediv_iff_mul_le hp]
  omega
/-- how many windows begin ahead of that one and hold the time. -/
def winJ (t s p : Int) : Nat := ((s - 1 - t % p) / p).toNat
theorem stepA_in {t s p : Int} (hp : 0 < p) (hs : p ≤ s) (i : Int) : t - s < stepA t p i ↔ -(winJ t s p : Int) ≤ i := by
  have hm := Int.emod_lt_of_pos t hp
  have hm0 := Int.emod_nonneg t (Int.ne_of_gt hp)
  have hd := Int.mul_ediv_add_emod t p
  have hJ : (winJ t s p : Int) = (s - 1 - t % p) / p := by
    unfold winJ
    exact Int.toNat_of_nonneg (Int.ediv_nonneg (by omega) (by omega))
  have h1 : -i ≤ (s - 1 - t % p) / p ↔ (-i) * p ≤ s - 1 - t % p := Int.le_ediv_iff_mul_le hp
  have h2 : (-i) * p = -(i * p) := Int.neg_mul _ _
  unfold stepA
  rw [Int.add_mul, Int.mul_comm (t / p) p]
  rw [hJ]
  omega
theorem winJ_le {t s p : Int} (hp : 0 < p) (hs : p ≤ s) (h64 : s / p ≤ 64) : winJ t s p ≤ 64 := by
  have hm := Int.emod_lt_of_pos t hp
  have hm0 := Int.emod_nonneg t (Int.ne_of_gt hp)
  unfold winJ
  have : (s - 1 - t % p) / p ≤ s / p := Int.ediv_le_ediv hp (by omega)
  omega
def winA (t s p : Int) (n : Nat) : Win := (stepA t p (n - winJ t s p), stepA t p (n - winJ t s p) + s)
def winL (t s p : Int) (n : Nat) : List Win := (List.range n).map (winA t s p)
theorem winL_succ (t s p : Int) (n : Nat) : winL t s p (n + 1) = winL t s p n ++ [winA t s p n] := by simp [winL, List.range_succ]
theorem winL_length (t s p : Int) (n : Nat) : (winL t s p n).length = n := by simp [winL]
/-- the windows that a time is in. -/
def assignW (k s p t : Int) : List Win :=
  if k = 3 then [(t, t + s)] else if k = 4 then [(0, 1099511627777)] else if k = 1 then winL t s s (winJ t s s + 1) else winL t s p (winJ t s p + 1)
/-- where they lie: between these. -/
theorem stepA_range {t p i : Int} (hp : 0 < p) (hp2 : p ≤ 1048576) (ht : 0 ≤ t) (ht2 : t ≤ 1099511627776) (hi : -100 ≤ i) (hi2 : i ≤ 100) : -1099511627776 ≤ stepA t p i ∧ stepA t p i ≤ 2199023255552 := by
  have hm := Int.emod_lt_of_pos t hp
  have hm0 := Int.emod_nonneg t (Int.ne_of_gt hp)
  have hd := Int.mul_ediv_add_emod t p
  unfold stepA
  rw [Int.add_mul, Int.mul_comm (t / p) p]
  have h1 : i * p ≤ 100 * p := Int.mul_le_mul_of_nonneg_right hi2 (by omega)
  have h2 : -100 * p ≤ i * p := Int.mul_le_mul_of_nonneg_right hi (by omega)
  omega
theorem quot_range {t p : Int} (hp : 0 < p) (ht : 0 ≤ t) (ht2 : t ≤ 1099511627776) : 0 ≤ t / p ∧ t / p ≤ 1099511627776 := by
  refine ⟨Int.ediv_nonneg ht (by omega), ?_⟩
  have := Int.ediv_le_self p ht
  omega
end Go.Proofs.Ythfgjmdmcoogpaa
