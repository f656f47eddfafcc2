/-
  PROVED HERE: streamwrightlaw2.WireReads returns true, for every bytes; what the row lists is tied to the program's text (the card). Conditions: what comes in is of bulk at most 1048576 (the second form).
-/
import Derived.Test.YthfgjmdmcoogpaaDoorDoor
import Derived.Test.YthfgjmdmcoogpaaDoorReadsWalk
import Derived.Test.YthfgjmdmcoogpaaDoorTie
import Derived.Test.YthfgjmdmcoogpaaDoorCards
import Derived.Test.YthfgjmdmcoogpaaDoorUpto
import Derived.OpenShut
import Derived.SevenTiedAt
import Derived.Deep.DeepHandedRow
namespace Go.Proofs.YthfgjmdmcoogpaaDoor
set_option linter.unusedSimpArgs false
set_option linter.unusedVariables false
open Go.ChangeShapes Go.WideShapes Go.ChangeAt Go.RowKit

set_option linter.unusedVariables false in
set_option maxRecDepth 100000 in
theorem liftedWireReads (os : Os) (started : os.Started) (H : Type) (enc : TypeId × Value → H) (F : Stop.Interp) :
    ReturnsInHanded {} Tryd.checked os 5 .any ((Rows.OpenSpec.upto Rows.wireReadsSpec).preRow enc Tryd.prog Tryd.f5 [] false laidList) (((Rows.OpenSpec.upto Rows.wireReadsSpec).at F).post enc Tryd.prog Tryd.f5 false true false false) := by
  refine returnsInHanded_of_row (C := Tryd.checked) (s := (Rows.OpenSpec.upto Rows.wireReadsSpec)) (laid := laidList) ownKnobDoor started (by kernel_rfl) Tryd.func5
    (witness_row_at (enc := enc) (C := Tryd.checked) (s := (Rows.OpenSpec.upto Rows.wireReadsSpec)) (laid := laidList) false (laidWorld os) #[.slice none 0 0] rfl (by kernel_rfl) (by kernel_rfl) (by kernel_rfl)
      (OpenSpec.preRow_of_cond 8 (x := ([.nil], [], [])) (by kernel_rfl) rfl (fun k hk => by obtain rfl := Option.some.inj hk; kernel_rfl) (by kernel_rfl) (laidWorld_met os _))) ?_
  intro W base args ds gs before hval0 hW hcnd hk hsz0 hL _ _
  have hval : ∀ (j : Nat) t v, Tryd.f5.params[j]? = some t → args[j]? = some v → Value.okWide Tryd.prog W .any base t v := hval0
  have hW' := hW
  obtain ⟨p, q, hA0, hV, rfl, hfz, hnd⟩ := hW
  have hA : DataW.TrodAll enc Tryd.prog W 0 (fun _ => true) true Tryd.f5.params.toList args.toList ds p := hA0
  rw [Tryd.params5] at hA hval
  obtain ⟨v0, vs0, d0, ds0, p0, q0, hargs, rfl, rfl, h0, r0⟩ := trodAll_cons hA
  obtain ⟨rfl, rfl, rfl⟩ := trodAll_nil r0
  obtain rfl : args = #[v0] := by cases args; simp_all
  obtain ⟨rfl, rfl⟩ := trodVars_none hV
  have hk' : Rows.uptoSmall H [d0] = true := by simpa using hk _ rfl
  have hsm : Rows.uptoBulkAll [d0] ≤ 1048576 := of_decide_eq_true hk'
  simp only [Rows.uptoBulkAll] at hsm
  have hsz : (DataW.weightsEach Tryd.prog [76] [d0]).all (· ≤ reachBytes) = true := hsz0
  have k0 := h0
  have lt0 : ∀ x ∈ p0, x.block < W.heap.size := by obtain ⟨m, hm⟩ := k0; exact DataW.trod_lt m _ _ _ hm
  obtain ⟨s0, len0, cap0, rfl⟩ := okWide_slice Tryd.underlying76 (hval 0 76 v0 rfl rfl)
  obtain ⟨fu0, hf0⟩ := h0
  obtain ⟨u0, a0, hu0, w0, wl0⟩ := bytes_bulk Tryd.underlying76 Tryd.underlying5 (by kernel_rfl) hf0
  obtain rfl : Value.slice s0 len0 cap0 = u0 := by simpa [Value.cells] using hu0
  clear hA0 hval0
  refine (reads_walk _ a0 W w0 (laid_of hL) (by omega)).mono fun e W' ⟨he, bel⟩ => ?_
  subst he
  exact ⟨_, rfl, _, _, _, [], _, [], hW', trodAll_mk1 (shut_bool Tryd.underlying4 _), (trodAll_cons_mk (Below.trod laidOutDoor (by kernel_rfl) (of_decide_eq_true (by kernel_rfl)) k0 bel lt0) trodAll_mk0), rfl, bel.frame _, fun h => by cases h⟩

theorem overWireReads : Rows.WireReadsUptoSaid :=
  OpenClaim.holds_of_cond 5 Tryd.f5 rfl rfl rfl rfl rfl rfl rfl ⟨rfl, rfl, rfl, rfl, rfl⟩ rfl rfl rfl rfl rfl (by kernel_rfl) Tryd.func5 (by kernel_rfl)
    (of_decide_eq_true (by kernel_rfl)) (by unfold Func.isWrapper; first | (rw [if_pos (by decide +kernel)]; kernel_rfl) | (rw [if_neg (by decide +kernel)]; exact ⟨rfl, rfl⟩))
    (fun os started H enc _ F => by rw [OpenClaim.pre_eq_preRow]; exact liftedWireReads os started H enc F)
theorem provedWireReads : Rows.WireReadsUptoCardSaid :=
  Claim7.holds_tied_plain_at .later [] [.handle] true _ _
    overWireReads (fun _ h => by cases h) (by kernel_rfl) (fun _ h => by cases h) wireReadsUpto_row_tie rfl ⟨rfl, rfl⟩ (by kernel_rfl) rfl
    (fun f fn hf hfn => by
      obtain rfl : f = 5 := Option.some.inj ((show Tryd.prog.funcNamed "streamwright/streamwrightlaw2.WireReads" = some 5 by kernel_rfl).symm.trans hf) |>.symm
      obtain rfl : fn = Tryd.f5 := (Option.some.inj (Tryd.func5.symm.trans hfn)).symm
      exact ⟨by kernel_rfl, fun j t ht => by
        rw [Tryd.params5] at ht
        have h3 : t = 76 := by
          rcases j with _ | j
          · simpa using ht.symm
          · simp at ht
        rcases h3 with rfl
        · exact (show Tryd.prog.wantsStandIn 76 = false by kernel_rfl)
      ⟩)
    (by kernel_rfl)
#print axioms provedWireReads
end Go.Proofs.YthfgjmdmcoogpaaDoor
