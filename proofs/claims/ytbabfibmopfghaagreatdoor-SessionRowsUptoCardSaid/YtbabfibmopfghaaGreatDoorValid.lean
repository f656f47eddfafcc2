/-
  PROVED HERE: contracts of value.Valid and of the document's text of the same.
-/
import Derived.Test.YtbabfibmopfghaaGreatDoorEqV
namespace Go.Proofs.YtbabfibmopfghaaGreatDoor
set_option linter.unusedSimpArgs false
set_option linter.unusedVariables false
open Go.RowKit

/-- is a value one? -/
def validV (x : Val) : Bool :=
  if x.k = 0 then decide (x.n = 0) && (str x.t).isEmpty
  else if x.k = 1 then (str x.t).isEmpty
  else if x.k = 2 then (str x.t).isEmpty && (decide (x.n = 0) || decide (x.n = 1))
  else if x.k = 3 then decide (x.n = 0) && decide (x.t.size ≤ 60)
  else false
def validR (r : Row) : Bool := decide (0 ≤ r.time) && (decide (r.time ≤ 1099511627776) && (decide (r.vals.length ≤ 8) && r.vals.all validV))

attribute [local go_sem high] run_eql_val' run_neq_val'
theorem valid_any (x : Val) (w : World) :
    Calls Tryz.prog 120 #[x.v] w fun e w' => e = .returned (.bool (validV x)) ∧ Later w w' := by
  obtain ⟨k, n, t⟩ := x
  by_cases h0 : k = 0
  · subst h0
    go_enter Tryz.func120, Tryz.ntmps120
    go_wp2
    go_ret
    exact ⟨ret_bool (by rw [Bool.eq_iff_iff]; simp [validV, eqV, valEq, str]), Later.alloc _ _⟩
  · by_cases h1 : k = 1
    · subst h1
      go_enter Tryz.func120, Tryz.ntmps120
      go_wp2
      go_ret
      exact ⟨ret_bool (by simp [validV, str]), Later.alloc _ _⟩
    · by_cases h2 : k = 2
      · subst h2
        cases ht : t.toList.isEmpty
        all_goals
          have HT := hid ht
          go_enter Tryz.func120, Tryz.ntmps120
          go_wp2
          go_ret
          exact ⟨ret_bool (by rw [Bool.eq_iff_iff]; simp [validV, str, HT.out]; try omega), Later.alloc _ _⟩
      · by_cases h3 : k = 3
        · subst h3
          by_cases hn : n = 0
          all_goals
            have HN := hid hn
            go_enter Tryz.func120, Tryz.ntmps120
            go_wp2
            go_ret
            exact ⟨ret_bool (by rw [Bool.eq_iff_iff]; simp [validV, str, HN.out]; try omega), Later.alloc _ _⟩
        · have HR : Hid (validV ⟨k, n, t⟩ = false) := hid (by simp [validV, h0, h1, h2, h3])
          go_enter Tryz.func120, Tryz.ntmps120
          go_wp2
          go_ret
          exact ⟨ret_bool HR.out.symm, Later.alloc _ _⟩
theorem rvalid_any (x : Val) (w : World) :
    Calls Tryz.prog 52 #[x.v] w fun e w' => e = .returned (.bool (validV x)) ∧ Later w w' := by
  obtain ⟨k, n, t⟩ := x
  by_cases h0 : k = 0
  · subst h0
    by_cases hn : n = 0
    all_goals
      have HN := hid hn
      go_enter Tryz.func52, Tryz.ntmps52
      go_wp2
      go_ret
      exact ⟨ret_bool (by simp [validV, str, HN.out]), Later.alloc _ _⟩
  · by_cases h1 : k = 1
    · subst h1
      go_enter Tryz.func52, Tryz.ntmps52
      go_wp2
      go_ret
      exact ⟨ret_bool (by simp [validV, str]), Later.alloc _ _⟩
    · by_cases h2 : k = 2
      · subst h2
        cases ht : t.toList.isEmpty
        all_goals
          by_cases hn : n = 0
          all_goals
            have HT := hid ht
            have HN := hid hn
            go_enter Tryz.func52, Tryz.ntmps52
            go_wp2
            go_ret
            exact ⟨ret_bool (by rw [Bool.eq_iff_iff]; simp [validV, str, HT.out, HN.out]; try omega), Later.alloc _ _⟩
      · by_cases h3 : k = 3
        · subst h3
          by_cases hn : n = 0
          all_goals
            have HN := hid hn
            go_enter Tryz.func52, Tryz.ntmps52
            go_wp2
            go_ret
            exact ⟨ret_bool (by rw [Bool.eq_iff_iff]; simp [validV, str, HN.out]; try omega), Later.alloc _ _⟩
        · have HR : Hid (validV ⟨k, n, t⟩ = false) := hid (by simp [validV, h0, h1, h2, h3])
          go_enter Tryz.func52, Tryz.ntmps52
          go_wp2
          go_ret
          exact ⟨ret_bool HR.out.symm, Later.alloc _ _⟩
end Go.Proofs.YtbabfibmopfghaaGreatDoor
