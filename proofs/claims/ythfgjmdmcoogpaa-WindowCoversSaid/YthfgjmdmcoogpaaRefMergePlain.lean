/-
  PROVED HERE: in plain Lean: two windows of a list joined, windows put in their order by an insertion. No program of its own.
-/
import Derived.Test.YthfgjmdmcoogpaaMergePlain
namespace Go.Proofs.Ythfgjmdmcoogpaa
set_option linter.unusedSimpArgs false
set_option linter.unusedVariables false

theorem split_two {α : Type} (L : List α) {i k : Nat} (hik : i < k) (hk : k < L.length) : ∃ A B C, L = A ++ L[i] :: (B ++ L[k] :: C) ∧ A.length = i ∧ i + 1 + B.length = k := by
  refine ⟨L.take i, (L.drop (i + 1)).take (k - i - 1), L.drop (k + 1), ?_, by simp; omega, by simp; omega⟩
  have h1 : L = L.take i ++ L[i] :: L.drop (i + 1) := by rw [List.getElem_cons_drop]; exact (List.take_append_drop i L).symm
  have h2 : L.drop (i + 1) = (L.drop (i + 1)).take (k - i - 1) ++ L[k] :: L.drop (k + 1) := by
    have e : L[k] :: L.drop (k + 1) = (L.drop (i + 1)).drop (k - i - 1) := by
      rw [List.getElem_cons_drop, List.drop_drop]
      congr 1
      omega
    rw [e, List.take_append_drop]
  rw [← h2]
  exact h1
theorem set_mid {α : Type} (A B : List α) (x y : α) : (A ++ x :: B).set A.length y = A ++ y :: B := by simp
def joinAt (L : List Win) (i k : Nat) (J : Win) : List Win := (L.set i J).take k ++ (L.set i J).drop (k + 1)
theorem joinAt_split {A B C : List Win} {x y J : Win} {i k : Nat} (hi : A.length = i) (hk : i + 1 + B.length = k) : joinAt (A ++ x :: (B ++ y :: C)) i k J = A ++ J :: (B ++ C) := by
  unfold joinAt
  subst hi
  rw [set_mid]
  have e1 : A ++ J :: (B ++ y :: C) = (A ++ J :: B) ++ y :: C := by simp
  have e2 : (A ++ J :: B).length = k := by simp; omega
  rw [e1, ← e2, List.take_left, List.drop_append, List.drop_of_length_le (by omega)]
  simp
theorem joinAt_same {L : List Win} {i k : Nat} (hik : i < k) (hk : k < L.length) (hm : meetW L[i] L[k] = true) : SameC (joinAt L i k (joinW L[i] L[k])) L := by
  obtain ⟨A, B, C, h1, h2, h3⟩ := split_two L hik hk
  generalize L[i] = x at *
  generalize L[k] = y at *
  subst h1
  rw [joinAt_split h2 h3]
  refine join_same hm (A ++ (B ++ C)) _ (fun w => ?_) _ (fun w => ?_)
  · simp only [List.mem_append, List.mem_cons]
    constructor
    · rintro (h | h | h | h)
      · exact .inr (.inl h)
      · exact .inl h
      · exact .inr (.inr (.inl h))
      · exact .inr (.inr (.inr h))
    · rintro (h | h | h | h)
      · exact .inr (.inl h)
      · exact .inl h
      · exact .inr (.inr (.inl h))
      · exact .inr (.inr (.inr h))
  · simp only [List.mem_append, List.mem_cons]
    constructor
    · rintro (h | h | h | h | h)
      · exact .inr (.inr (.inl h))
      · exact .inl h
      · exact .inr (.inr (.inr (.inl h)))
      · exact .inr (.inl h)
      · exact .inr (.inr (.inr (.inr h)))
    · rintro (h | h | h | h | h)
      · exact .inr (.inl h)
      · exact .inr (.inr (.inr (.inl h)))
      · exact .inl h
      · exact .inr (.inr (.inl h))
      · exact .inr (.inr (.inr (.inr h)))
theorem joinAt_full {L : List Win} {i k : Nat} (hik : i < k) (hk : k < L.length) (hf : Full L) : Full (joinAt L i k (joinW L[i] L[k])) := by
  have fx := hf L[i] (List.getElem_mem _)
  have fy := hf L[k] (List.getElem_mem _)
  obtain ⟨A, B, C, h1, h2, h3⟩ := split_two L hik hk
  generalize L[i] = x at *
  generalize L[k] = y at *
  subst h1
  rw [joinAt_split h2 h3]
  intro w hw
  simp only [List.mem_append, List.mem_cons] at hw
  rcases hw with h | rfl | h | h
  · exact hf w (by simp [h])
  · show min x.1 y.1 < max x.2 y.2; omega
  · exact hf w (by simp [h])
  · exact hf w (by simp [h])
theorem joinAt_length {L : List Win} {i k : Nat} (J : Win) (hk : k < L.length) : (joinAt L i k J).length + 1 = L.length := by
  unfold joinAt
  simp
  omega

def key (L : List Win) (p : Nat) : Int := (L.getD p (0, 0)).1
theorem key_at {L : List Win} {p : Nat} (h : p < L.length) : key L p = L[p].1 := by
  unfold key
  rw [List.getD_eq_getElem?_getD, List.getElem?_eq_getElem h]
  rfl
def Srt (L : List Win) (n : Nat) : Prop := ∀ p q, p < q → q < n → key L p ≤ key L q
def Ins (L : List Win) (i k : Nat) : Prop := ∀ p q, p < q → q ≤ i → q ≠ k → key L p ≤ key L q
theorem ins_start {L : List Win} {i : Nat} (h : Srt L i) : Ins L i i := fun p q hpq hq hne => h p q hpq (by omega)
theorem ins_end {L : List Win} {i k : Nat} (h : Ins L i k) (hk : k = 0 ∨ key L (k - 1) ≤ key L k) : Srt L (i + 1) := fun p q hpq hq => by
  by_cases hqk : q = k
  · subst hqk
    rcases hk with hk | hk
    · omega
    · by_cases hp : p = q - 1
      · subst hp; exact hk
      · exact Int.le_trans (h p (q - 1) (by omega) (by omega) (by omega)) hk
  · exact h p q hpq (by omega) hqk
def swapAt (L : List Win) (k : Nat) (x y : Win) : List Win := (L.set k x).set (k - 1) y
theorem swap_key {L : List Win} {k : Nat} (hk : 0 < k) (hl : k < L.length) (p : Nat) : key (swapAt L k L[k - 1] L[k]) p = if p = k then key L (k - 1) else if p = k - 1 then key L k else key L p := by
  rw [key_at (p := k - 1) (by omega), key_at hl]
  unfold swapAt key
  simp only [List.getD_eq_getElem?_getD, List.getElem?_set, List.length_set]
  by_cases h1 : p = k
  · subst h1
    rw [if_neg (by omega), if_pos rfl, if_pos hl, if_pos rfl]
    rfl
  · by_cases h2 : p = k - 1
    · subst h2
      rw [if_pos rfl, if_pos (by omega), if_neg h1, if_pos rfl]
      rfl
    · rw [if_neg (by omega), if_neg (by omega), if_neg h1, if_neg h2]
theorem ins_swap {L : List Win} {i k : Nat} (h : Ins L i k) (hk : 0 < k) (hki : k ≤ i) (hl : k < L.length) (hlt : L[k].1 < L[k - 1].1) : Ins (swapAt L k L[k - 1] L[k]) i (k - 1) := fun p q hpq hq hne => by
  rw [swap_key hk hl, swap_key hk hl]
  have e1 : key L k < key L (k - 1) := by rw [key_at hl, key_at (p := k - 1) (by omega)]; exact hlt
  by_cases q1 : q = k
  · subst q1
    rw [if_pos rfl, if_neg (by omega)]
    by_cases p1 : p = q - 1
    · rw [if_pos p1]; omega
    · rw [if_neg p1]; exact h p (q - 1) (by omega) (by omega) (by omega)
  · rw [if_neg q1, if_neg hne]
    by_cases p1 : p = k
    · rw [if_pos p1]; exact h (k - 1) q (by omega) hq q1
    · rw [if_neg p1]
      by_cases p2 : p = k - 1
      · rw [if_pos p2]
        exact h k q (by omega) hq q1
      · rw [if_neg p2]; exact h p q hpq hq q1
theorem swap_perm {L : List Win} {k : Nat} (hk : 0 < k) (hl : k < L.length) : (swapAt L k L[k - 1] L[k]).Perm L := by
  obtain ⟨A, B, C, h1, h2, h3⟩ := split_two L (i := k - 1) (k := k) (by omega) hl
  have hB : B = [] := List.eq_nil_of_length_eq_zero (by omega)
  subst hB
  generalize L[k - 1] = x at *
  generalize L[k] = y at *
  subst h1
  have e : swapAt (A ++ x :: ([] ++ y :: C)) k x y = A ++ y :: (x :: C) := by
    unfold swapAt
    have e2 : A ++ x :: ([] ++ y :: C) = (A ++ [x]) ++ y :: C := by simp
    have e3 : (A ++ [x]).length = k := by simp; omega
    have e4 : (A ++ [x]) ++ x :: C = A ++ x :: (x :: C) := by simp
    rw [e2, ← e3, set_mid, e4]
    have e5 : (A ++ [x]).length - 1 = A.length := by simp
    rw [e5, set_mid]
  rw [e]
  exact (List.Perm.swap x y C).append_left A
theorem swap_length (L : List Win) (k : Nat) (x y : Win) : (swapAt L k x y).length = L.length := by unfold swapAt; simp
theorem meet_comm (a b : Win) : meetW a b = meetW b a := by unfold meetW; rw [Bool.and_comm]
theorem ref_merged {l L L' : List Win} (hf : Full L) (hs : SameC L l) (hm : L.Pairwise fun a b => meetW a b = false) (hp : L'.Perm L) (hk : Srt L' L'.length) : Merged l L' := by
  have hf' : Full L' := fun w hw => hf w (hp.mem_iff.1 hw)
  refine ⟨hf', apart_of hf' ?_ (hp.symm.pairwise hm fun h => by rw [meet_comm]; exact h), (SameC.of_mem fun w => hp.mem_iff).trans hs⟩
  rw [List.pairwise_iff_getElem]
  intro i j hi hj hij
  have := hk i j hij hj
  rwa [key_at hi, key_at hj] at this
end Go.Proofs.Ythfgjmdmcoogpaa
