/-
  PROVED HERE: the words of RowPlain in the words of the library's functions (Cut, TrimPrefix, HasPrefix, IndexByte). No program of its own.
-/
import Derived.Test.YtbabfibmopfghaaGreatDoorGRowPlain
import Derived.Test.YtbabfibmopfghaaGreatDoorShelf
namespace Go.Proofs.YtbabfibmopfghaaGreatDoor
set_option linter.unusedSimpArgs false
set_option linter.unusedVariables false
open Go Go.RowKit

theorem indexB_eq (c : UInt8) : ∀ l : List UInt8, Lib.indexByte l c = match idxB c l with | none => -1 | some i => (i : Int)
  | [] => rfl
  | b :: l => by
    have ih := indexB_eq c l
    unfold idxB at ih ⊢
    rw [List.findIdx?_cons]
    unfold Lib.indexByte
    by_cases h : (b == c) = true
    · simp [h]
    · simp only [h, Bool.false_eq_true, if_false]
      rw [ih]
      cases hx : List.findIdx? (fun x => x == c) l with
      | none => simp
      | some i => simp <;> omega
theorem idxB_lt {c : UInt8} {l : List UInt8} {i : Nat} (h : idxB c l = some i) : i < l.length := by
  unfold idxB at h
  rw [List.findIdx?_eq_some_iff_getElem] at h
  exact h.1
theorem trim_eq (l : List UInt8) : Lib.trimPrefix l [32] = trimP l := by
  unfold Lib.trimPrefix Lib.hasPrefix trimP
  cases l with
  | nil => rfl
  | cons a l =>
    by_cases h : a = 32
    · subst h; simp [List.isPrefixOf]
    · have h' : ¬ 32 = a := fun e => h e.symm
      simp [List.isPrefixOf, h, h']
theorem pre_eq (l : List UInt8) : Lib.hasPrefix l [39] = decide (l.head? = some 39) := by
  unfold Lib.hasPrefix
  cases l with
  | nil => rfl
  | cons a l =>
    by_cases h : a = 39
    · subst h; simp [List.isPrefixOf]
    · have h' : ¬ 39 = a := fun e => h e.symm
      simp [List.isPrefixOf, h, h']
theorem cut_eq (l : List UInt8) : Lib.cut l [58] = (headR l, (restR l).getD [], (restR l).isSome) := by
  unfold Lib.cut
  rw [Lib.index_one, indexB_eq]
  have key : ∀ l : List UInt8, match idxB 58 l with
      | none => headR l = l ∧ restR l = none
      | some i => headR l = l.take i ∧ restR l = some (l.drop (i + 1)) := by
    intro l
    induction l with
    | nil => exact ⟨rfl, rfl⟩
    | cons b l ih =>
      unfold idxB at ih ⊢
      rw [List.findIdx?_cons]
      by_cases h : b = 58
      · subst h
        simp [headR, restR]
      · have h1 : (b == 58) = false := by simp [h]
        simp only [h1, Bool.false_eq_true, if_false]
        have e1 : headR (b :: l) = b :: headR l := by unfold headR; rw [List.takeWhile_cons_of_pos (by simp [h])]
        have e2 : restR (b :: l) = restR l := by unfold restR; rw [List.dropWhile_cons_of_pos (by simp [h])]
        rw [e1, e2]
        cases hx : List.findIdx? (fun x => x == 58) l with
        | none =>
          rw [hx] at ih
          simp only [Option.map_none]
          exact ⟨by rw [ih.1], ih.2⟩
        | some i =>
          rw [hx] at ih
          simp only [Option.map_some]
          exact ⟨by rw [ih.1]; rfl, by rw [ih.2]; rfl⟩
  have k := key l
  cases hx : idxB 58 l with
  | none =>
    rw [hx] at k
    simp only at k ⊢
    rw [k.1, k.2]
    simp
  | some i =>
    rw [hx] at k
    simp only at k ⊢
    rw [k.1, k.2]
    simp
end Go.Proofs.YtbabfibmopfghaaGreatDoor
