/-
  PROVED HERE: the contracts of window.Valid.
-/
import Derived.Test.YthfgjmdmcoogpaaApp
import Derived.Test.YthfgjmdmcoogpaaRet
namespace Go.Proofs.Ythfgjmdmcoogpaa
set_option linter.unusedSimpArgs false
set_option linter.unusedVariables false
open Go.RowKit

/-- can windows be so? -/
def validW (k s p : Int) : Bool :=
  if k = 1 ∨ k = 3 then decide (1 ≤ s ∧ s ≤ 1048576 ∧ p = 0)
  else if k = 2 then decide (1 ≤ s ∧ s ≤ 1048576 ∧ 1 ≤ p ∧ p ≤ s ∧ s / p ≤ 64)
  else if k = 4 then decide (s = 0 ∧ p = 0)
  else false
def BoolW (w : World) (b : Bool) (e : Ending) (w' : World) : Prop := e = .returned (.bool b) ∧ Later w w'

set_option maxRecDepth 100000 in
set_option maxHeartbeats 8000000 in
theorem wvalid_any (k s p : Int) (w : World) (hs : -9223372036854775808 ≤ s ∧ s ≤ 9223372036854775807) :
    Calls Try.prog 25 #[.agg #[.int .i64 k, .int .i64 s, .int .i64 p]] w (BoolW w (validW k s p)) := by
  have HS := hid hs
  clear hs
  by_cases k1 : k = 1
  · subst k1
    by_cases a1 : 1 ≤ s <;> by_cases a2 : s ≤ 1048576 <;> by_cases a3 : p = 0
    all_goals first
      | (exfalso; omega)
      | skip
    all_goals
      first | (have c1 : 0 < s := by omega) | (have c1 : ¬ 0 < s := by omega)
      first | (have c2 : ¬ 1048576 < s := by omega) | (have c2 : 1048576 < s := by omega)
      have A1 := hid a1; have A2 := hid a2; have A3 := hid a3
      go_enter Try.func25, Try.ntmps25
      go_wp2
      all_goals
        go_ret
        exact ⟨ret_bool (by have := A1.out; have := A2.out; have := A3.out; rw [Bool.eq_iff_iff]; unfold validW; split <;> (try split) <;> (try split) <;> simp <;> omega), Later.alloc _ _⟩
  by_cases k3 : k = 3
  · subst k3
    by_cases a1 : 1 ≤ s <;> by_cases a2 : s ≤ 1048576 <;> by_cases a3 : p = 0
    all_goals first
      | (exfalso; omega)
      | skip
    all_goals
      first | (have c1 : 0 < s := by omega) | (have c1 : ¬ 0 < s := by omega)
      first | (have c2 : ¬ 1048576 < s := by omega) | (have c2 : 1048576 < s := by omega)
      have A1 := hid a1; have A2 := hid a2; have A3 := hid a3
      go_enter Try.func25, Try.ntmps25
      go_wp2
      all_goals
        go_ret
        exact ⟨ret_bool (by have := A1.out; have := A2.out; have := A3.out; rw [Bool.eq_iff_iff]; unfold validW; split <;> (try split) <;> (try split) <;> simp <;> omega), Later.alloc _ _⟩
  by_cases k2 : k = 2
  · subst k2
    by_cases a1 : 1 ≤ s <;> by_cases a2 : s ≤ 1048576 <;> by_cases a3 : 1 ≤ p <;> by_cases a4 : p ≤ s <;> by_cases a5 : s / p ≤ 64
    all_goals first
      | (exfalso; omega)
      | skip
    all_goals
      first | (have c1 : 0 < s := by omega) | (have c1 : ¬ 0 < s := by omega)
      first | (have c2 : ¬ 1048576 < s := by omega) | (have c2 : 1048576 < s := by omega)
      first | (have c3 : 0 < p := by omega) | (have c3 : ¬ 0 < p := by omega)
      first | (have c4 : ¬ s < p := by omega) | (have c4 : s < p := by omega)
      first | (have c5 : ¬ 64 < s / p := by omega) | (have c5 : 64 < s / p := by omega)
      try (have c6 : ¬ p = 0 := by omega)
      try (have c7 : ¬ p = -1 := by omega)
      have A4 := hid a4; have A5 := hid a5
      have A1 := hid a1; have A2 := hid a2; have A3 := hid a3
      go_enter Try.func25, Try.ntmps25
      go_wp2
      all_goals
        go_ret
        exact ⟨ret_bool (by have := A1.out; have := A2.out; have := A3.out; have := A4.out; have := A5.out; rw [Bool.eq_iff_iff]; unfold validW; split <;> (try split) <;> (try split) <;> simp <;> omega), Later.alloc _ _⟩
  by_cases k4 : k = 4
  · subst k4
    have a3 : True := trivial
    by_cases a1 : s = 0 <;> by_cases a2 : p = 0
    all_goals
      have A1 := hid a1; have A2 := hid a2; have A3 := hid a3
      go_enter Try.func25, Try.ntmps25
      go_wp2
      all_goals
        go_ret
        exact ⟨ret_bool (by have := A1.out; have := A2.out; have := A3.out; rw [Bool.eq_iff_iff]; unfold validW; split <;> (try split) <;> (try split) <;> simp <;> omega), Later.alloc _ _⟩
  have a1 : True := trivial
  have a2 : True := trivial
  have a3 : True := trivial
  have K1 := hid k1; have K2 := hid k2; have K3 := hid k3; have K4 := hid k4
  have A1 := hid a1; have A2 := hid a2; have A3 := hid a3
  go_enter Try.func25, Try.ntmps25
  go_wp2
  all_goals
    go_ret
    exact ⟨ret_bool (by have := K1.out; have := K2.out; have := K3.out; have := K4.out; have := A2.out; have := A3.out; rw [Bool.eq_iff_iff]; unfold validW; split <;> (try split) <;> (try split) <;> simp <;> omega), Later.alloc _ _⟩
end Go.Proofs.Ythfgjmdmcoogpaa
