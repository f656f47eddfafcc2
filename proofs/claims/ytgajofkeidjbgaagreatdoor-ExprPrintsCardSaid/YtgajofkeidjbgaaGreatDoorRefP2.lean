/-
  PROVED HERE: the document's reading of tokens: in, close, power, Word.
-/
import Derived.Test.YtgajofkeidjbgaaGreatDoorGRefE
namespace Go.Proofs.YtgajofkeidjbgaaGreatDoor
set_option linter.unusedSimpArgs false
set_option linter.unusedVariables false
open Go.RowKit

theorem ite_or' {α : Type} (p q : Prop) [Decidable p] [Decidable q] (x y : α) : (if p ∨ q then x else y) = if p then x else if q then x else y := by
  by_cases hp : p <;> by_cases hq : q <;> simp [hp, hq]

set_option maxRecDepth 100000 in
set_option maxHeartbeats 2000000 in
theorem power_any (s : List UInt8) (w : World) : Calls Tryz.prog 26 #[.string (strB s)] w fun e w' => e = .returned (.int .i64 (powS s : Int)) ∧ w' = w := by
  obtain ⟨b0, h0⟩ : ∃ b, decide (s = [111, 114]) = b := ⟨_, rfl⟩
  have e0 : ((strB s).toList == [111, 114]) = b0 := by rw [strB_toL', ← h0, Bool.eq_iff_iff]; simp
  obtain ⟨b1, h1⟩ : ∃ b, decide (s = [97, 110, 100]) = b := ⟨_, rfl⟩
  have e1 : ((strB s).toList == [97, 110, 100]) = b1 := by rw [strB_toL', ← h1, Bool.eq_iff_iff]; simp
  obtain ⟨b2, h2⟩ : ∃ b, decide (s = [61]) = b := ⟨_, rfl⟩
  have e2 : ((strB s).toList == [61]) = b2 := by rw [strB_toL', ← h2, Bool.eq_iff_iff]; simp
  obtain ⟨b3, h3⟩ : ∃ b, decide (s = [60, 62]) = b := ⟨_, rfl⟩
  have e3 : ((strB s).toList == [60, 62]) = b3 := by rw [strB_toL', ← h3, Bool.eq_iff_iff]; simp
  obtain ⟨b4, h4⟩ : ∃ b, decide (s = [60]) = b := ⟨_, rfl⟩
  have e4 : ((strB s).toList == [60]) = b4 := by rw [strB_toL', ← h4, Bool.eq_iff_iff]; simp
  obtain ⟨b5, h5⟩ : ∃ b, decide (s = [60, 61]) = b := ⟨_, rfl⟩
  have e5 : ((strB s).toList == [60, 61]) = b5 := by rw [strB_toL', ← h5, Bool.eq_iff_iff]; simp
  obtain ⟨b6, h6⟩ : ∃ b, decide (s = [62]) = b := ⟨_, rfl⟩
  have e6 : ((strB s).toList == [62]) = b6 := by rw [strB_toL', ← h6, Bool.eq_iff_iff]; simp
  obtain ⟨b7, h7⟩ : ∃ b, decide (s = [62, 61]) = b := ⟨_, rfl⟩
  have e7 : ((strB s).toList == [62, 61]) = b7 := by rw [strB_toL', ← h7, Bool.eq_iff_iff]; simp
  obtain ⟨b8, h8⟩ : ∃ b, decide (s = [43]) = b := ⟨_, rfl⟩
  have e8 : ((strB s).toList == [43]) = b8 := by rw [strB_toL', ← h8, Bool.eq_iff_iff]; simp
  obtain ⟨b9, h9⟩ : ∃ b, decide (s = [45]) = b := ⟨_, rfl⟩
  have e9 : ((strB s).toList == [45]) = b9 := by rw [strB_toL', ← h9, Bool.eq_iff_iff]; simp
  obtain ⟨b10, h10⟩ : ∃ b, decide (s = [43, 43]) = b := ⟨_, rfl⟩
  have e10 : ((strB s).toList == [43, 43]) = b10 := by rw [strB_toL', ← h10, Bool.eq_iff_iff]; simp
  obtain ⟨b11, h11⟩ : ∃ b, decide (s = [42]) = b := ⟨_, rfl⟩
  have e11 : ((strB s).toList == [42]) = b11 := by rw [strB_toL', ← h11, Bool.eq_iff_iff]; simp
  obtain ⟨b12, h12⟩ : ∃ b, decide (s = [47]) = b := ⟨_, rfl⟩
  have e12 : ((strB s).toList == [47]) = b12 := by rw [strB_toL', ← h12, Bool.eq_iff_iff]; simp
  obtain ⟨b13, h13⟩ : ∃ b, decide (s = [37]) = b := ⟨_, rfl⟩
  have e13 : ((strB s).toList == [37]) = b13 := by rw [strB_toL', ← h13, Bool.eq_iff_iff]; simp
  have HV : Hid (powS s = if b0 = true then 1 else if b1 = true then 2 else if b2 = true then 4 else if b3 = true then 4 else if b4 = true then 4 else if b5 = true then 4 else if b6 = true then 4 else if b7 = true then 4 else if b8 = true then 5 else if b9 = true then 5 else if b10 = true then 5 else if b11 = true then 6 else if b12 = true then 6 else if b13 = true then 6 else (0 : Nat)) := hid (by
    rw [← h0, ← h1, ← h2, ← h3, ← h4, ← h5, ← h6, ← h7, ← h8, ← h9, ← h10, ← h11, ← h12, ← h13]
    unfold powS
    simp only [lvlOps, List.mem_cons, List.not_mem_nil, or_false, decide_eq_true_eq, ite_or'])
  clear h0 h1 h2 h3 h4 h5 h6 h7 h8 h9 h10 h11 h12 h13
  go_enter Tryz.func26, Tryz.ntmps26
  cases b0 with
  | true =>
    go_wp2_with fail
    exact bodyPost_ret (results_tmp rfl _ _ _) rfl ⟨by rw [HV.out]; rfl, rfl⟩
  | false =>
    cases b1 with
    | true =>
      go_wp2_with fail
      exact bodyPost_ret (results_tmp rfl _ _ _) rfl ⟨by rw [HV.out]; rfl, rfl⟩
    | false =>
      cases b2 with
      | true =>
        go_wp2_with fail
        exact bodyPost_ret (results_tmp rfl _ _ _) rfl ⟨by rw [HV.out]; rfl, rfl⟩
      | false =>
        cases b3 with
        | true =>
          go_wp2_with fail
          exact bodyPost_ret (results_tmp rfl _ _ _) rfl ⟨by rw [HV.out]; rfl, rfl⟩
        | false =>
          cases b4 with
          | true =>
            go_wp2_with fail
            exact bodyPost_ret (results_tmp rfl _ _ _) rfl ⟨by rw [HV.out]; rfl, rfl⟩
          | false =>
            cases b5 with
            | true =>
              go_wp2_with fail
              exact bodyPost_ret (results_tmp rfl _ _ _) rfl ⟨by rw [HV.out]; rfl, rfl⟩
            | false =>
              cases b6 with
              | true =>
                go_wp2_with fail
                exact bodyPost_ret (results_tmp rfl _ _ _) rfl ⟨by rw [HV.out]; rfl, rfl⟩
              | false =>
                cases b7 with
                | true =>
                  go_wp2_with fail
                  exact bodyPost_ret (results_tmp rfl _ _ _) rfl ⟨by rw [HV.out]; rfl, rfl⟩
                | false =>
                  cases b8 with
                  | true =>
                    go_wp2_with fail
                    exact bodyPost_ret (results_tmp rfl _ _ _) rfl ⟨by rw [HV.out]; rfl, rfl⟩
                  | false =>
                    cases b9 with
                    | true =>
                      go_wp2_with fail
                      exact bodyPost_ret (results_tmp rfl _ _ _) rfl ⟨by rw [HV.out]; rfl, rfl⟩
                    | false =>
                      cases b10 with
                      | true =>
                        go_wp2_with fail
                        exact bodyPost_ret (results_tmp rfl _ _ _) rfl ⟨by rw [HV.out]; rfl, rfl⟩
                      | false =>
                        cases b11 with
                        | true =>
                          go_wp2_with fail
                          exact bodyPost_ret (results_tmp rfl _ _ _) rfl ⟨by rw [HV.out]; rfl, rfl⟩
                        | false =>
                          cases b12 with
                          | true =>
                            go_wp2_with fail
                            exact bodyPost_ret (results_tmp rfl _ _ _) rfl ⟨by rw [HV.out]; rfl, rfl⟩
                          | false =>
                            cases b13 with
                            | true =>
                              go_wp2_with fail
                              exact bodyPost_ret (results_tmp rfl _ _ _) rfl ⟨by rw [HV.out]; rfl, rfl⟩
                            | false =>
                              go_wp2_with fail
                              exact bodyPost_ret (results_tmp rfl _ _ _) rfl ⟨by rw [HV.out]; rfl, rfl⟩
set_option maxRecDepth 100000 in
set_option maxHeartbeats 2000000 in
theorem word_any (s : List UInt8) (w : World) : Calls Tryz.prog 78 #[.string (strB s)] w fun e w' => e = .returned (.bool (decide (s ∈ wordsW))) ∧ w' = w := by
  obtain ⟨b0, h0⟩ : ∃ b, decide (s = [97, 110, 100]) = b := ⟨_, rfl⟩
  have e0 : ((strB s).toList == [97, 110, 100]) = b0 := by rw [strB_toL', ← h0, Bool.eq_iff_iff]; simp
  obtain ⟨b1, h1⟩ : ∃ b, decide (s = [111, 114]) = b := ⟨_, rfl⟩
  have e1 : ((strB s).toList == [111, 114]) = b1 := by rw [strB_toL', ← h1, Bool.eq_iff_iff]; simp
  obtain ⟨b2, h2⟩ : ∃ b, decide (s = [110, 111, 116]) = b := ⟨_, rfl⟩
  have e2 : ((strB s).toList == [110, 111, 116]) = b2 := by rw [strB_toL', ← h2, Bool.eq_iff_iff]; simp
  obtain ⟨b3, h3⟩ : ∃ b, decide (s = [116, 114, 117, 101]) = b := ⟨_, rfl⟩
  have e3 : ((strB s).toList == [116, 114, 117, 101]) = b3 := by rw [strB_toL', ← h3, Bool.eq_iff_iff]; simp
  obtain ⟨b4, h4⟩ : ∃ b, decide (s = [102, 97, 108, 115, 101]) = b := ⟨_, rfl⟩
  have e4 : ((strB s).toList == [102, 97, 108, 115, 101]) = b4 := by rw [strB_toL', ← h4, Bool.eq_iff_iff]; simp
  obtain ⟨b5, h5⟩ : ∃ b, decide (s = [97, 115]) = b := ⟨_, rfl⟩
  have e5 : ((strB s).toList == [97, 115]) = b5 := by rw [strB_toL', ← h5, Bool.eq_iff_iff]; simp
  have HV : Hid (decide (s ∈ wordsW) = (b0 || b1 || b2 || b3 || b4 || b5)) := hid (by
    rw [← h0, ← h1, ← h2, ← h3, ← h4, ← h5]
    unfold wordsW
    rw [Bool.eq_iff_iff]
    simp [or_assoc])
  clear h0 h1 h2 h3 h4 h5
  go_enter Tryz.func78, Tryz.ntmps78
  cases b0 with
  | true =>
    go_wp2_with fail
    exact bodyPost_ret (results_tmp rfl _ _ _) rfl ⟨by rw [HV.out]; rfl, rfl⟩
  | false =>
    cases b1 with
    | true =>
      go_wp2_with fail
      exact bodyPost_ret (results_tmp rfl _ _ _) rfl ⟨by rw [HV.out]; rfl, rfl⟩
    | false =>
      cases b2 with
      | true =>
        go_wp2_with fail
        exact bodyPost_ret (results_tmp rfl _ _ _) rfl ⟨by rw [HV.out]; rfl, rfl⟩
      | false =>
        cases b3 with
        | true =>
          go_wp2_with fail
          exact bodyPost_ret (results_tmp rfl _ _ _) rfl ⟨by rw [HV.out]; rfl, rfl⟩
        | false =>
          cases b4 with
          | true =>
            go_wp2_with fail
            exact bodyPost_ret (results_tmp rfl _ _ _) rfl ⟨by rw [HV.out]; rfl, rfl⟩
          | false =>
            cases b5 with
            | true =>
              go_wp2_with fail
              exact bodyPost_ret (results_tmp rfl _ _ _) rfl ⟨by rw [HV.out]; rfl, rfl⟩
            | false =>
              go_wp2_with fail
              exact bodyPost_ret (results_tmp rfl _ _ _) rfl ⟨by rw [HV.out]; rfl, rfl⟩
end Go.Proofs.YtgajofkeidjbgaaGreatDoor
