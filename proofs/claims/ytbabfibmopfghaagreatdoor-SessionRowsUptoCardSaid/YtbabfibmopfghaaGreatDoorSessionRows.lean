/-
  PROVED HERE: streamwrightlaw15.SessionRows returns true, for every text and every row; what the row lists is tied to the program's text (the card). Conditions: what comes in is of bulk at most 1048576 (the second form).
-/
import Derived.Test.YtbabfibmopfghaaGreatDoorSessionRowsLift
import Derived.Test.YtbabfibmopfghaaGreatDoorGTabErr
import Derived.Test.YtbabfibmopfghaaGreatDoorGOpenVal
import Derived.Test.YtbabfibmopfghaaGreatDoorRowWalk
import Derived.Test.YtbabfibmopfghaaGreatDoorTie
import Derived.Test.YtbabfibmopfghaaGreatDoorCards
import Derived.OpenShut
import Derived.SevenTiedAt
import Derived.Deep.DeepHandedRow
import Derived.ChangeMaps5
namespace Go.Proofs.YtbabfibmopfghaaGreatDoor
set_option linter.unusedSimpArgs false
set_option linter.unusedVariables false
open Go.ChangeShapes Go.WideShapes Go.ChangeAt Go.RowKit
open Go.ChangeMaps (open_string shut_string)

theorem and_true_of {a b : Bool} (h1 : a = true) (h2 : b = true) : (a && b) = true := by rw [h1, h2]; rfl
set_option maxRecDepth 100000 in
set_option maxHeartbeats 8000000 in
theorem closedSessionRows : joinedFacts Tryz.pinned.checked.prog 3 Tryz.f3 (OpenSpec.bare (Rows.OpenSpec.upto Rows.sessionRowsSpec)) Rows.sessionRowsUptoRow = true := by
  unfold joinedFacts
  simp only [Bool.and_eq_true]
  repeat' apply And.intro
  all_goals (as_aux_lemma => kernel_rfl)
theorem overSessionRows : Rows.SessionRowsUptoSaid :=
  OpenClaim.holds_of_cond 3 Tryz.f3 rfl rfl rfl rfl rfl rfl rfl ⟨rfl, rfl, rfl, rfl, rfl⟩ rfl rfl rfl rfl rfl (by kernel_rfl) Tryz.func3 closedSessionRows
    (of_decide_eq_true (by kernel_rfl)) (by unfold Func.isWrapper; first | (rw [if_pos (by decide +kernel)]; kernel_rfl) | (rw [if_neg (by decide +kernel)]; exact ⟨rfl, rfl⟩))
    (fun os started H enc _ F => by rw [OpenClaim.pre_eq_preRow]; exact liftedSessionRows os started H enc F)
theorem provedSessionRows : Rows.SessionRowsUptoCardSaid :=
  Claim7.holds_tied_plain_at .later [] [.data, .data, .data, .handle, .sentinel, .sentinel] true _ _
    overSessionRows (fun _ h => by cases h) (by as_aux_lemma => kernel_rfl) (fun _ h => by cases h) sessionRowsUpto_row_tie rfl ⟨rfl, rfl⟩ (by as_aux_lemma => kernel_rfl) rfl
    (fun f fn hf hfn => by
      obtain rfl : f = 3 := Option.some.inj ((show Tryz.prog.funcNamed "streamwright/streamwrightlaw15.SessionRows" = some 3 by kernel_rfl).symm.trans hf) |>.symm
      obtain rfl : fn = Tryz.f3 := (Option.some.inj (Tryz.func3.symm.trans hfn)).symm
      exact ⟨by kernel_rfl, fun j t ht => by
        rw [Tryz.params3] at ht
        have h3 : t = 9 ∨ t = 24 := by
          rcases j with _ | _ | j
          · left; simpa using ht.symm
          · right; simpa using ht.symm
          · simp at ht
        rcases h3 with rfl | rfl
        · exact (show Tryz.prog.wantsStandIn 9 = false by kernel_rfl)
        · exact (show Tryz.prog.wantsStandIn 24 = false by kernel_rfl)
      ⟩)
    (by as_aux_lemma => kernel_rfl)
#print axioms provedSessionRows
end Go.Proofs.YtbabfibmopfghaaGreatDoor
