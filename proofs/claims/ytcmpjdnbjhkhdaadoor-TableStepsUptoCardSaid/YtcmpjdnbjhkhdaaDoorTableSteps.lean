/-
  PROVED HERE: streamwrightlaw13.TableSteps returns true, for every script; what the row lists is tied to the program's text (the card). Conditions: what comes in is of bulk at most 1048576 (the second form).
-/
import Derived.Test.YtcmpjdnbjhkhdaaDoorDoor
import Derived.Test.YtcmpjdnbjhkhdaaDoorGTabCalls
import Derived.Test.YtcmpjdnbjhkhdaaDoorTabWalk
import Derived.Test.YtcmpjdnbjhkhdaaDoorTie
import Derived.Test.YtcmpjdnbjhkhdaaDoorCards
import Derived.Test.YtcmpjdnbjhkhdaaDoorUpto
import Derived.OpenShut
import Derived.SevenTiedAt
import Derived.Deep.DeepHandedRow
namespace Go.Proofs.YtcmpjdnbjhkhdaaDoor
set_option linter.unusedSimpArgs false
set_option linter.unusedVariables false
open Go.ChangeShapes Go.WideShapes Go.ChangeAt Go.RowKit

set_option linter.unusedVariables false in
set_option maxRecDepth 100000 in
theorem liftedTableSteps (os : Os) (started : os.Started) (H : Type) (enc : TypeId × Value → H) (F : Stop.Interp) :
    ReturnsInHanded {} Tryd.checked os 9 .any ((Rows.OpenSpec.upto Rows.tableStepsSpec).preRow enc Tryd.prog Tryd.f9 [] false laidList) (((Rows.OpenSpec.upto Rows.tableStepsSpec).at F).post enc Tryd.prog Tryd.f9 false true false false) := by
  refine returnsInHanded_of_row (C := Tryd.checked) (s := (Rows.OpenSpec.upto Rows.tableStepsSpec)) (laid := laidList) ownKnobDoor started (by kernel_rfl) Tryd.func9
    (witness_row_at (enc := enc) (C := Tryd.checked) (s := (Rows.OpenSpec.upto Rows.tableStepsSpec)) (laid := laidList) false (laidWorld os) #[.slice none 0 0] rfl (by kernel_rfl) (by kernel_rfl) (by kernel_rfl)
      (OpenSpec.preRow_of_cond 8 (x := ([.nil], [], [])) (by kernel_rfl) rfl (fun k hk => by obtain rfl := Option.some.inj hk; kernel_rfl) (by kernel_rfl) (laidWorld_met os _))) ?_
  intro W base args ds gs before hval0 hW hcnd hk hsz0 hL _ _
  have hval : ∀ (j : Nat) t v, Tryd.f9.params[j]? = some t → args[j]? = some v → Value.okWide Tryd.prog W .any base t v := hval0
  have hW' := hW
  obtain ⟨p, q, hA0, hV, rfl, hfz, hnd⟩ := hW
  have hA : DataW.TrodAll enc Tryd.prog W 0 (fun _ => true) true Tryd.f9.params.toList args.toList ds p := hA0
  rw [Tryd.params9] at hA hval
  obtain ⟨v0, vs0, d0, ds0, p0, q0, hargs, rfl, rfl, h0, r0⟩ := trodAll_cons hA
  obtain ⟨rfl, rfl, rfl⟩ := trodAll_nil r0
  obtain rfl : args = #[v0] := by cases args; simp_all
  obtain ⟨rfl, rfl⟩ := trodVars_none hV
  have hk' : Rows.uptoSmall H [d0] = true := by simpa using hk _ rfl
  have hsm : Rows.uptoBulkAll [d0] ≤ 1048576 := of_decide_eq_true hk'
  simp only [Rows.uptoBulkAll] at hsm
  have hsz : (DataW.weightsEach Tryd.prog [67] [d0]).all (· ≤ reachBytes) = true := hsz0
  have k0 := h0
  have lt0 : ∀ x ∈ p0, x.block < W.heap.size := by obtain ⟨m, hm⟩ := k0; exact DataW.trod_lt m _ _ _ hm
  obtain ⟨s0, len0, cap0, rfl⟩ := okWide_slice Tryd.underlying67 (hval 0 67 v0 rfl rfl)
  obtain ⟨fu0, hf0⟩ := h0
  obtain ⟨u0, a0, hu0, w0, ok0, wl0⟩ := opsT_bulk hf0
  obtain rfl : Value.slice s0 len0 cap0 = u0 := by simpa [Value.cells] using hu0
  clear hA0 hval0
  have hlen := opsT_len a0
  refine (table_walk _ a0 W w0 (by have := hlen.1; omega) (by have := hlen.2.1; omega) (fun x hx => ⟨rows_low (ok0 x hx).2, fun r hr => by have := hlen.2.2 x hx r hr; omega, (ok0 x hx).1⟩) (laid_of hL)).mono fun e W' ⟨he, bel⟩ => ?_
  subst he
  exact ⟨_, rfl, _, _, _, [], _, [], hW', trodAll_mk1 (shut_bool Tryd.underlying4 _), (trodAll_cons_mk (Below.trod laidOutDoor (by kernel_rfl) (of_decide_eq_true (by kernel_rfl)) k0 bel lt0) trodAll_mk0), rfl, bel.frame _, fun h => by cases h⟩

theorem overTableSteps : Rows.TableStepsUptoSaid :=
  OpenClaim.holds_of_cond 9 Tryd.f9 rfl rfl rfl rfl rfl rfl rfl ⟨rfl, rfl, rfl, rfl, rfl⟩ rfl rfl rfl rfl rfl (by kernel_rfl) Tryd.func9 (by kernel_rfl)
    (of_decide_eq_true (by kernel_rfl)) (by unfold Func.isWrapper; first | (rw [if_pos (by decide +kernel)]; kernel_rfl) | (rw [if_neg (by decide +kernel)]; exact ⟨rfl, rfl⟩))
    (fun os started H enc _ F => by rw [OpenClaim.pre_eq_preRow]; exact liftedTableSteps os started H enc F)
theorem provedTableSteps : Rows.TableStepsUptoCardSaid :=
  Claim7.holds_tied_plain_at .later [] [.handle] true _ _
    overTableSteps (fun _ h => by cases h) (by kernel_rfl) (fun _ h => by cases h) tableStepsUpto_row_tie rfl ⟨rfl, rfl⟩ (by kernel_rfl) rfl
    (fun f fn hf hfn => by
      obtain rfl : f = 9 := Option.some.inj ((show Tryd.prog.funcNamed "streamwright/streamwrightlaw13.TableSteps" = some 9 by kernel_rfl).symm.trans hf) |>.symm
      obtain rfl : fn = Tryd.f9 := (Option.some.inj (Tryd.func9.symm.trans hfn)).symm
      exact ⟨by kernel_rfl, fun j t ht => by
        rw [Tryd.params9] at ht
        have h3 : t = 67 := by
          rcases j with _ | j
          · simpa using ht.symm
          · simp at ht
        rcases h3 with rfl
        · exact (show Tryd.prog.wantsStandIn 67 = false by kernel_rfl)
      ⟩)
    (by kernel_rfl)
#print axioms provedTableSteps
end Go.Proofs.YtcmpjdnbjhkhdaaDoor
