/-
  PROVED HERE: streamwrightlaw1.ValueGroups returns true, for every key; what the row lists is tied to the program's text (the card). No conditions.
-/
import Derived.Test.YthfgjmdmcoogpaaDoorTab
import Derived.Test.YthfgjmdmcoogpaaDoorOpenRow
import Derived.Test.YthfgjmdmcoogpaaDoorHash
import Derived.Test.YthfgjmdmcoogpaaDoorTie
import Derived.Test.YthfgjmdmcoogpaaDoorCards
import Derived.OpenShut
import Derived.SevenTiedAt
namespace Go.Proofs.YthfgjmdmcoogpaaDoor
set_option linter.unusedSimpArgs false
set_option linter.unusedVariables false
open Go.ChangeShapes Go.WideShapes Go.ChangeAt Go.RowKit

set_option linter.unusedVariables false in
set_option maxRecDepth 100000 in
theorem liftedValueGroups (os : Os) (started : os.Started) (H : Type) (enc : TypeId × Value → H) :
    ReturnsInHanded {} Tryd.checked os 9 .any (fun w args => (Rows.valueGroupsSpec.pre enc Tryd.prog Tryd.f9 [] false w args ∧ laidMetH Tryd.prog tabList w) ∧ sizedMet enc Tryd.prog Tryd.f9 (OpenSpec.ofChange Rows.valueGroupsSpec) false w args)
      (Rows.valueGroupsSpec.post enc Tryd.prog Tryd.f9 false true false false) := by
  refine returnsInHanded_of_change_and (C := Tryd.checked) (X := fun w _ => laidMetH Tryd.prog tabList w) (fun _ _ _ hh h => h.of_heap hh) ownKnobTab started (by kernel_rfl) Tryd.func9
    (ChangeSpec.witness_at (enc := enc) (C := Tryd.checked) (os := os) (X := fun w _ => laidMetH Tryd.prog tabList w) false (tabWorld os) #[.slice none 0 0] 8 rfl (by kernel_rfl) (by kernel_rfl) (by kernel_rfl) (by kernel_rfl) (by kernel_rfl) (tabWorld_met os _)) ?_
  intro W base args ds gs before hval0 hW hcnd hsz0 hL _
  have hval : ∀ (j : Nat) t v, Tryd.f9.params[j]? = some t → args[j]? = some v → Value.okWide Tryd.prog W .any base t v := hval0
  have hW' := hW
  obtain ⟨p, q, hA0, hV, rfl, hfz, hnd⟩ := hW
  have hA : DataW.TrodAll enc Tryd.prog W 0 (fun _ => true) true Tryd.f9.params.toList args.toList ds p := hA0
  rw [Tryd.params9] at hA hval
  obtain ⟨v0, vs0, d0, ds0, p0, q0, hargs, rfl, rfl, h0, r0⟩ := trodAll_cons hA
  obtain ⟨rfl, rfl, rfl⟩ := trodAll_nil r0
  obtain rfl : args = #[v0] := by cases args; simp_all
  obtain ⟨rfl, rfl⟩ := trodVars_none hV
  have hsz : (DataW.weightsEach Tryd.prog [35] [d0]).all (· ≤ reachBytes) = true := hsz0
  have k0 := h0
  have lt0 : ∀ x ∈ p0, x.block < W.heap.size := by obtain ⟨m, hm⟩ := k0; exact DataW.trod_lt m _ _ _ hm
  obtain ⟨s0, len0, cap0, rfl⟩ := okWide_slice Tryd.underlying35 (hval 0 35 v0 rfl rfl)
  obtain ⟨fu0, hf0⟩ := h0
  obtain ⟨u0, a0, hu0, w0, ok0, wl0⟩ := vals_of hf0 (Fits.each hsz (j := 0) rfl rfl)
  obtain rfl : Value.slice s0 len0 cap0 = u0 := by simpa [Value.cells] using hu0
  clear hA0 hval0
  refine (groups_walk a0 _ W w0 ok0 (pow_of hL)).mono fun e W' ⟨he, bel⟩ => ?_
  subst he
  exact ⟨_, rfl, _, _, _, [], _, [], hW', trodAll_mk1 (shut_bool Tryd.underlying4 _), (trodAll_cons_mk (Below.trod laidOutTab (by kernel_rfl) (of_decide_eq_true (by kernel_rfl)) k0 bel lt0) trodAll_mk0), rfl, bel.frame _, fun h => by cases h⟩

theorem overValueGroups : Rows.ValueGroupsSaid :=
  OpenClaim.holds_of_wide 9 Tryd.f9 rfl rfl rfl rfl rfl rfl rfl ⟨rfl, rfl, rfl, rfl, rfl⟩ rfl rfl rfl rfl rfl (by kernel_rfl) Tryd.func9 (by kernel_rfl)
    (of_decide_eq_true (by kernel_rfl)) (by unfold Func.isWrapper; first | (rw [if_pos (by decide +kernel)]; kernel_rfl) | (rw [if_neg (by decide +kernel)]; exact ⟨rfl, rfl⟩))
    (fun os started H enc _ => liftedValueGroups os started H enc)
theorem provedValueGroups : Rows.ValueGroupsCardSaid :=
  Claim7.holds_tied_plain_at .later [] [.data, .data, .data] true _ _
    overValueGroups (fun _ h => by cases h) (by kernel_rfl) (fun _ h => by cases h) valueGroups_row_tie rfl ⟨rfl, rfl⟩ (by kernel_rfl) rfl
    (fun f fn hf hfn => by
      obtain rfl : f = 9 := Option.some.inj ((show Tryd.prog.funcNamed "streamwright/streamwrightlaw1.ValueGroups" = some 9 by kernel_rfl).symm.trans hf) |>.symm
      obtain rfl : fn = Tryd.f9 := (Option.some.inj (Tryd.func9.symm.trans hfn)).symm
      exact ⟨by kernel_rfl, fun j t ht => by
        rw [Tryd.params9] at ht
        have h3 : t = 35 := by
          rcases j with _ | j
          · simpa using ht.symm
          · simp at ht
        rcases h3 with rfl
        · exact (show Tryd.prog.wantsStandIn 35 = false by kernel_rfl)
      ⟩)
    (by kernel_rfl)
#print axioms provedValueGroups
end Go.Proofs.YthfgjmdmcoogpaaDoor
