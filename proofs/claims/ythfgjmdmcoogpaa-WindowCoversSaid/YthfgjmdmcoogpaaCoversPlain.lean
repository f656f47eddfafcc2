/-
  PROVED HERE: in plain Lean: what windows a time is in: each holds it, they rise, how many they are; what is merged covers what was there. No program of its own.
-/
import Derived.Test.YthfgjmdmcoogpaaMergePlain
import Derived.Test.YthfgjmdmcoogpaaWinValid
namespace Go.Proofs.Ythfgjmdmcoogpaa
set_option linter.unusedSimpArgs false
set_option linter.unusedVariables false

/-- windows that a time is in, as the law asks. -/
structure Holding (t : Int) (l : List Win) : Prop where
  some : l ≠ []
  holds : ∀ x ∈ l, x.1 ≤ t ∧ t < x.2
  rise : ∀ i (h : i + 1 < l.length), (l[i]'(by omega)).1 < l[i + 1].1 ∧ (l[i]'(by omega)).2 < l[i + 1].2
theorem winL_get (t s p : Int) (n i : Nat) (h : i < (winL t s p n).length) : (winL t s p n)[i] = winA t s p i := by simp [winL]
theorem winL_holding {t s p : Int} (hp : 0 < p) (hs : p ≤ s) : Holding t (winL t s p (winJ t s p + 1)) := by
  refine ⟨fun h => ?_, fun x hx => ?_, fun i h => ?_⟩
  · have := congrArg List.length h
    rw [winL_length] at this
    simp at this
  · obtain ⟨i, hi, rfl⟩ := List.getElem_of_mem hx
    rw [winL_get]
    rw [winL_length] at hi
    unfold winA
    have h1 := (stepA_le (t := t) hp ((i : Int) - winJ t s p)).2 (by omega)
    have h2 := (stepA_in (t := t) hp hs ((i : Int) - winJ t s p)).2 (by omega)
    simp only
    omega
  · rw [winL_get, winL_get]
    unfold winA
    have e : ((i + 1 : Nat) : Int) - winJ t s p = ((i : Int) - winJ t s p) + 1 := by omega
    rw [e, stepA_succ]
    simp only
    omega
theorem assign_holding {k s p t : Int} (hv : validW k s p = true) (ht : 0 ≤ t ∧ t ≤ 1099511627776) : Holding t (assignW k s p t) := by
  unfold validW at hv
  unfold assignW
  by_cases k1 : k = 1
  · subst k1
    rw [if_pos (.inl rfl)] at hv
    have hv := of_decide_eq_true hv
    rw [if_neg (by omega), if_neg (by omega), if_pos rfl]
    exact winL_holding (by omega) (by omega)
  by_cases k3 : k = 3
  · subst k3
    rw [if_pos (.inr rfl)] at hv
    have hv := of_decide_eq_true hv
    rw [if_pos rfl]
    refine ⟨by simp, fun x hx => ?_, fun i h => ?_⟩
    · obtain rfl := List.mem_singleton.1 hx
      simp only
      omega
    · simp at h
  by_cases k2 : k = 2
  · subst k2
    rw [if_neg (by omega), if_pos rfl] at hv
    have hv := of_decide_eq_true hv
    rw [if_neg (by omega), if_neg (by omega), if_neg (by omega)]
    exact winL_holding (by omega) (by omega)
  by_cases k4 : k = 4
  · subst k4
    rw [if_neg (by omega), if_pos rfl]
    refine ⟨by simp, fun x hx => ?_, fun i h => ?_⟩
    · obtain rfl := List.mem_singleton.1 hx
      simp only
      omega
    · simp at h
  · rw [if_neg (by omega), if_neg k2, if_neg k4] at hv
    cases hv
theorem assign_count {s p t : Int} (hv : validW 2 s p = true) : ((assignW 2 s p t).length : Int) * p ≤ s + p - 1 ∧ s < (((assignW 2 s p t).length : Int) + 1) * p ∧ (assignW 2 s p t).length ≤ 65 ∧ 1 ≤ s ∧ s ≤ 1048576 ∧ 1 ≤ p ∧ p ≤ s := by
  unfold validW at hv
  rw [if_neg (by omega), if_pos rfl] at hv
  have hv := of_decide_eq_true hv
  unfold assignW
  rw [if_neg (by omega), if_neg (by omega), if_neg (by omega), winL_length]
  have hm := Int.emod_lt_of_pos t (show 0 < p by omega)
  have hm0 := Int.emod_nonneg t (show p ≠ 0 by omega)
  have hJ : (winJ t s p : Int) = (s - 1 - t % p) / p := by
    unfold winJ
    exact Int.toNat_of_nonneg (Int.ediv_nonneg (by omega) (by omega))
  have h1 : (winJ t s p : Int) * p ≤ s - 1 - t % p := by rw [hJ]; exact Int.ediv_mul_le _ (by omega)
  have h2 : s - 1 - t % p < ((winJ t s p : Int) + 1) * p := by rw [hJ]; exact Int.lt_ediv_add_one_mul_self _ (by omega)
  have h64 := winJ_le (t := t) (show 0 < p by omega) (show p ≤ s by omega) hv.2.2.2.2
  have e1 : ((winJ t s p + 1 : Nat) : Int) * p = (winJ t s p : Int) * p + p := by rw [Int.natCast_add, Int.add_mul]; simp
  have e2 : (((winJ t s p + 1 : Nat) : Int) + 1) * p = ((winJ t s p : Int) + 1) * p + p := by rw [Int.natCast_add, Int.add_mul ((winJ t s p : Int) + ((1 : Nat) : Int)) 1]; simp
  rw [e1, e2]
  omega
theorem assign_one : assignW 1 10 0 25 = [(20, 30)] := by decide
/-- of what is merged no two meet. -/
theorem Merged.no_meet {l out : List Win} (h : Merged l out) {i k : Nat} (hi : i < out.length) (hk : k < i) : ¬ (out[i].1 < (out[k]'(by omega)).2) := by
  have := List.pairwise_iff_getElem.1 h.apart k i (by omega) hi hk
  omega
def coversB (w m : Win) : Bool := decide (m.1 ≤ w.1) && decide (w.2 ≤ m.2)
def inB (w : Win) (out : List Win) (k : Nat) : Bool := decide (w.2 ≤ w.1) || (out.take k).any (coversB w)
theorem inB_zero (w : Win) (out : List Win) : inB w out 0 = decide (w.2 ≤ w.1) := by simp [inB]
theorem inB_succ (w : Win) {out : List Win} {k : Nat} (h : k < out.length) : inB w out (k + 1) = (inB w out k || coversB w out[k]) := by
  unfold inB
  rw [List.take_succ_eq_append_getElem h, List.any_append]
  simp [Bool.or_assoc]
theorem Merged.inB {l out : List Win} (h : Merged l out) {w : Win} (hw : w ∈ l) : Go.Proofs.Ythfgjmdmcoogpaa.inB w out out.length = true := by
  unfold Go.Proofs.Ythfgjmdmcoogpaa.inB
  rw [List.take_length]
  by_cases hf : w.2 ≤ w.1
  · simp [hf]
  · obtain ⟨m, hm, h1, h2⟩ := h.within hw (by omega)
    rw [Bool.or_eq_true]
    refine .inr (List.any_eq_true.2 ⟨m, hm, ?_⟩)
    unfold coversB
    rw [decide_eq_true h1, decide_eq_true h2]
    rfl
end Go.Proofs.Ythfgjmdmcoogpaa
