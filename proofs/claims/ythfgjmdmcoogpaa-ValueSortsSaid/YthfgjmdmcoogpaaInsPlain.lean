/-
  PROVED HERE: in plain Lean: a row laid in its place among rows in their order. No program of its own.
-/
import Derived.Test.YthfgjmdmcoogpaaOrdTotal
namespace Go.Proofs.Ythfgjmdmcoogpaa
set_option linter.unusedSimpArgs false
set_option linter.unusedVariables false

def insAt {α : Type} (l : List α) (k : Nat) (z : α) : List α := l.take k ++ z :: l.drop k
theorem insAt_length {α : Type} {l : List α} {k : Nat} (hk : k ≤ l.length) (z : α) : (insAt l k z).length = l.length + 1 := by unfold insAt; simp; omega
theorem insAt_end {α : Type} (l : List α) (z : α) : insAt l l.length z = l ++ [z] := by unfold insAt; simp
theorem insAt_get {α : Type} {l : List α} {m : Nat} (hm : m < l.length) (z : α) : (insAt l (m + 1) z)[m]'(by rw [insAt_length hm]; omega) = l[m] := by
  unfold insAt
  rw [List.getElem_append_left (by rw [List.length_take]; omega), List.getElem_take]
theorem insAt_set {α : Type} {l : List α} {k : Nat} (hk : k ≤ l.length) (z y : α) : (insAt l k z).set k y = insAt l k y := by
  unfold insAt
  rw [List.set_append_right _ _ (by rw [List.length_take]; omega), List.length_take, Nat.min_eq_left hk, Nat.sub_self]
  rfl
theorem insAt_shift {α : Type} {l : List α} {m : Nat} (hm : m < l.length) (z : α) : insAt l (m + 1) l[m] = insAt l m l[m] := by
  unfold insAt
  rw [List.take_succ_eq_append_getElem hm, List.append_assoc]
  congr 1
  rw [List.drop_eq_getElem_cons hm]
  rfl
theorem insAt_perm {α : Type} (l : List α) (k : Nat) (z : α) : (insAt l k z).Perm (l ++ [z]) := by
  unfold insAt
  refine List.perm_middle.trans ?_
  rw [List.take_append_drop]
  exact List.perm_append_comm (l₁ := [z]) (l₂ := l)
theorem insAt_map {α β : Type} (f : α → β) (l : List α) (k : Nat) (z : α) : (insAt l k z).map f = insAt (l.map f) k (f z) := by
  unfold insAt
  rw [List.map_append, List.map_cons, List.map_take, List.map_drop]
theorem insAt_mem {α : Type} {l : List α} {k : Nat} {z x : α} : x ∈ insAt l k z → x ∈ l ∨ x = z := by
  intro h
  rcases List.mem_append.1 ((insAt_perm l k z).mem_iff.1 h) with h | h
  · exact .inl h
  · exact .inr (List.mem_singleton.1 h)
theorem leR_trans {a b c : Row} (h : 0 ≤ compareR b a) (k : 0 ≤ compareR c b) : 0 ≤ compareR c a := by
  have t := compareR_total
  have n1 := t.neg a b; have n2 := t.neg b c; have n3 := t.neg a c
  by_cases e1 : compareR a b = 0
  · rw [(t.eq _ _).1 e1]; exact k
  · by_cases e2 : compareR b c = 0
    · rw [← (t.eq _ _).1 e2]; exact h
    · have := t.trans a b c (by omega) (by omega)
      omega
theorem sortedR_ins {ys : List Row} {x : Row} {k : Nat} (hs : SortedR ys) (hk : k ≤ ys.length) (h1 : ∀ (h : 0 < k), beforeR x (ys[k - 1]'(by omega)) = false) (h2 : ∀ j (h : j < ys.length), k ≤ j → beforeR x ys[j] = true) : SortedR (insAt ys k x) := by
  have hs' := List.pairwise_iff_getElem.1 hs
  unfold SortedR insAt
  refine List.pairwise_append.2 ⟨hs.sublist (List.take_sublist _ _), List.pairwise_cons.2 ⟨fun y hy => ?_, hs.sublist (List.drop_sublist _ _)⟩, fun a ha b hb => ?_⟩
  · obtain ⟨j, hj, rfl⟩ := List.getElem_of_mem hy
    rw [List.getElem_drop]
    rw [List.length_drop] at hj
    have := h2 (k + j) (by omega) (by omega)
    rw [beforeR_cmp] at this
    have := of_decide_eq_true this
    have := compareR_total.neg x (ys[k + j]'(by omega))
    omega
  · have hax : 0 ≤ compareR x a := by
      obtain ⟨j, hj, rfl⟩ := List.getElem_of_mem ha
      rw [List.length_take] at hj
      rw [List.getElem_take]
      have hl : 0 ≤ compareR x (ys[k - 1]'(by omega)) := by
        have := h1 (by omega)
        rw [beforeR_cmp] at this
        have := of_decide_eq_false this
        omega
      by_cases e : j = k - 1
      · subst e; exact hl
      · exact leR_trans (hs' j (k - 1) (by omega) (by omega) (by omega)) hl
    rcases List.mem_cons.1 hb with rfl | hb
    · exact hax
    · obtain ⟨i, hi, rfl⟩ := List.getElem_of_mem ha
      obtain ⟨j, hj, rfl⟩ := List.getElem_of_mem hb
      rw [List.length_take] at hi
      rw [List.length_drop] at hj
      rw [List.getElem_take, List.getElem_drop]
      exact hs' i (k + j) (by omega) (by omega) (by omega)
end Go.Proofs.Ythfgjmdmcoogpaa
