/-
  PROVED HERE: the contracts of cmp.Compare at numbers, of cmp.Or.
-/
import Derived.Test.YthfgjmdmcoogpaaRet
namespace Go.Proofs.Ythfgjmdmcoogpaa
set_option linter.unusedSimpArgs false
set_option linter.unusedVariables false
open Go.RowKit

theorem cmpN (a b : Int) (w : World) : Calls Try.prog 23 #[.int .i64 a, .int .i64 b] w fun e w' => e = .returned (.int .i64 (cmpI a b)) ∧ w = w' := by
  rcases Int.lt_trichotomy a b with h | h | h
  · have hv : Hid (cmpI a b = -1) := by unfold cmpI Hid; simp [h]
    go_enter Try.func23, Try.ntmps23
    go_wp2
    go_ret
    exact ⟨ret_int hv.out.symm, rfl⟩
  · subst h
    have hv : Hid (cmpI a a = 0) := by unfold cmpI Hid; simp
    go_enter Try.func23, Try.ntmps23
    go_wp2
    go_ret
    exact ⟨ret_int hv.out.symm, rfl⟩
  · have hv : Hid (cmpI a b = 1) := by unfold cmpI Hid; rw [if_neg (by omega), if_pos h]
    have h' : ¬ a < b := by omega
    go_enter Try.func23, Try.ntmps23
    go_wp2
    go_ret
    exact ⟨ret_int hv.out.symm, rfl⟩


theorem or_any (b : Nat) (l : List Int) (c : Nat) (w : World) (hl : l.length ≤ 100) (hc : ∀ i (h : i < l.length), w.cell? ⟨b, i, none⟩ = some (.int .i64 l[i])) :
    Calls Try.prog 24 #[.slice (some ⟨b, 0, none⟩) l.length c] w fun e w' => e = .returned (.int .i64 (orL l)) ∧ w = w' := by
  go_enter Try.func24, Try.ntmps24
  go_wp2
  go_loop [8] (fun i => ∃ n : Nat, n ≤ l.length ∧ i = .int .i64 n ∧ ∀ j (h : j < l.length), j < n → l[j] = 0) (fun i => l.length - (intOf i).toNat)
  case atStart => exact ⟨0, by omega, rfl, fun j h h' => by omega⟩
  case round =>
    obtain ⟨n, hn, rfl, hz⟩ := hrel
    have HZ := hid hz; clear hz
    by_cases hlt : n < l.length
    · have h1 := hc n hlt
      have HC := hid hc; clear hc
      by_cases h0 : l[n] = 0
      · have H0 := hid h0
        rw [h0] at h1; clear h0
        go_wp2
        go_round
        case rel => 
          refine ⟨n + 1, by omega, by go_num, fun j h h' => ?_⟩
          by_cases hj : j = n
          · subst hj; exact H0.out
          · exact HZ.out j h (by omega)
        case measure => simp [intOf]; omega
      · have hr : Hid (orL l = l[n]) := by
          unfold Hid orL
          have : l.find? (fun x => x != 0) = some l[n] := by
            rw [List.find?_eq_some_iff_getElem]
            exact ⟨by simpa using h0, n, hlt, rfl, fun j hj => by simpa using HZ.out j (by omega) hj⟩
          rw [this]; rfl
        have h0' : (l[n] != 0) = true := by simpa using h0
        go_wp2
        go_ret
        exact ⟨ret_int hr.out.symm, rfl⟩
    · have hr : Hid (orL l = 0) := by
        unfold Hid orL
        have : l.find? (fun x => x != 0) = none := by
          rw [List.find?_eq_none]
          intro x hx
          obtain ⟨j, hj, rfl⟩ := List.getElem_of_mem hx
          simpa using HZ.out j hj (by omega)
        rw [this]; rfl
      clear hc
      go_wp2
      go_ret
      exact ⟨ret_int hr.out.symm, rfl⟩
end Go.Proofs.Ythfgjmdmcoogpaa
