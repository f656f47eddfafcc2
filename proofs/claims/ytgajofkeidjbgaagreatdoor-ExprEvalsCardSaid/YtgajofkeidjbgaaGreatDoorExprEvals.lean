/-
  PROVED HERE: streamwrightlaw3.ExprEvals returns true, for every text, columns and values; what the row lists is tied to the program's text (the card). No conditions.
-/
import Derived.Test.YtgajofkeidjbgaaGreatDoorGTabExpr
import Derived.Test.YtgajofkeidjbgaaGreatDoorGExprEvalsWalk
import Derived.Test.YtgajofkeidjbgaaGreatDoorTie
import Derived.Test.YtgajofkeidjbgaaGreatDoorCards
import Derived.OpenShut
import Derived.SevenTiedAt
import Derived.ChangeMaps5
import Derived.SizedLaws
namespace Go.Proofs.YtgajofkeidjbgaaGreatDoor
set_option maxRecDepth 100000
set_option linter.unusedSimpArgs false
set_option linter.unusedVariables false
open Go.ChangeShapes Go.WideShapes Go.ChangeAt Go.RowKit
open Go.ChangeMaps (open_string shut_string)
theorem liftedExprEvals (os : Os) (started : os.Started) (H : Type) (enc : TypeId × Value → H) :
  ReturnsInHanded {} Tryz.checked os 6 .any (fun w args => (Rows.exprEvalsSpec.pre enc Tryz.prog Tryz.f6 [] false w args ∧ laidMetH Tryz.prog exList w) ∧ sizedMet enc Tryz.prog Tryz.f6 (OpenSpec.ofChange Rows.exprEvalsSpec) false w args)
   (Rows.exprEvalsSpec.post enc Tryz.prog Tryz.f6 false true false false) := by
 refine returnsInHanded_of_change_and (C := Tryz.checked) (X := fun w _ => laidMetH Tryz.prog exList w) (fun _ _ _ hh h => h.of_heap hh) ownKnobErr started (by kernel_rfl) Tryz.func6
  (ChangeSpec.witness_shaped (enc := enc) (C := Tryz.checked) (os := os) (X := fun w _ => laidMetH Tryz.prog exList w) false (exWorld os) #[.string ByteArray.empty, .slice none 0 0, .slice none 0 0] 8 rfl (World.shaped_of_RefB (by kernel_rfl) (by kernel_rfl)) (by kernel_rfl) (by kernel_rfl) (by kernel_rfl) (exWorld_met os _)) ?_
 intro W base args ds gs before hval0 hW hcnd hsz0 hL _
 have hval : ∀ (j : Nat) t v, Tryz.f6.params[j]? = some t → args[j]? = some v → Value.okWide Tryz.prog W .any base t v := hval0
 have hW' := hW
 obtain ⟨p, q, hA0, hV, rfl, hfz, hnd⟩ := hW
 have hA : DataW.TrodAll enc Tryz.prog W 0 (fun _ => true) true Tryz.f6.params.toList args.toList ds p := hA0
 rw [Tryz.params6] at hA hval
 obtain ⟨v0, vs0, d0, ds0, p0, q0, hargs, rfl, rfl, h0, r0⟩ := trodAll_cons hA
 obtain ⟨v1, vs1, d1, ds1, p1, q1, rfl, rfl, rfl, h1, r1⟩ := trodAll_cons r0
 obtain ⟨v2, vs2, d2, ds2, p2, q2, rfl, rfl, rfl, h2, r2⟩ := trodAll_cons r1
 obtain ⟨rfl, rfl, rfl⟩ := trodAll_nil r2
 obtain rfl : args = #[v0, v1, v2] := by cases args; simp_all
 obtain ⟨rfl, rfl⟩ := trodVars_none hV
 have hsz : (DataW.weightsEach Tryz.prog [9, 36, 39] [d0, d1, d2]).all (· ≤ reachBytes) = true := hsz0
 have k0 := h0
 obtain ⟨a0, rfl, rfl, rfl, w0⟩ := open_string Tryz.underlying9 (hval 0 9 v0 rfl rfl) h0
 have k1 := h1
 have lt1 : ∀ x ∈ p1, x.block < W.heap.size := by obtain ⟨m, hm⟩ := k1; exact DataW.trod_lt m _ _ _ hm
 obtain ⟨s1, len1, cap1, rfl⟩ := okWide_slice Tryz.underlying36 (hval 1 36 v1 rfl rfl)
 obtain ⟨fu1, hf1⟩ := h1
 obtain ⟨u1, a1, hu1, w1, ok1, wl1⟩ := cols_of hf1 (Fits.each hsz (j := 1) rfl rfl)
 obtain rfl : Value.slice s1 len1 cap1 = u1 := by simpa [Value.cells] using hu1
 have k2 := h2
 have lt2 : ∀ x ∈ p2, x.block < W.heap.size := by obtain ⟨m, hm⟩ := k2; exact DataW.trod_lt m _ _ _ hm
 obtain ⟨s2, len2, cap2, rfl⟩ := okWide_slice Tryz.underlying39 (hval 2 39 v2 rfl rfl)
 obtain ⟨fu2, hf2⟩ := h2
 obtain ⟨u2, a2, hu2, w2, ok2, wl2⟩ := vals_of hf2 (Fits.each hsz (j := 2) rfl rfl)
 obtain rfl : Value.slice s2 len2 cap2 = u2 := by simpa [Value.cells] using hu2
 clear hA0 hval0
 refine (evals_str a0 a1 a2 _ _ W w1 ok1 wl1 w2 ok2 wl2 (ex_of hL).1.1.1 (ex_of hL).1.1.2 (ex_of hL).1.2 (ex_of hL).2).mono fun e W' ⟨he, bel⟩ => ?_
 subst he
 exact ⟨_, rfl, _, _, _, [], _, [], hW', trodAll_mk1 (shut_bool Tryz.underlying4 _), (trodAll_cons_mk (shut_string Tryz.underlying9 w0) (trodAll_cons_mk (Below.trod laidOutErr (by kernel_rfl) (of_decide_eq_true (by kernel_rfl)) k1 bel lt1) (trodAll_cons_mk (Below.trod laidOutErr (by kernel_rfl) (of_decide_eq_true (by kernel_rfl)) k2 bel lt2) trodAll_mk0))), rfl, bel.frame _, fun h => by cases h⟩
theorem overExprEvals : Rows.ExprEvalsSaid :=
 OpenClaim.holds_of_wide 6 Tryz.f6 rfl rfl rfl rfl rfl rfl rfl ⟨rfl, rfl, rfl, rfl, rfl⟩ rfl rfl rfl rfl rfl (by kernel_rfl) Tryz.func6 (by kernel_rfl)
  (of_decide_eq_true (by kernel_rfl)) (by unfold Func.isWrapper; first | (rw [if_pos (by decide +kernel)]; kernel_rfl) | (rw [if_neg (by decide +kernel)]; exact ⟨rfl, rfl⟩))
  (fun os started H enc _ => liftedExprEvals os started H enc)
theorem provedExprEvals : Rows.ExprEvalsCardSaid :=
 Claim7.holds_tied_plain_at .later [] [.data, .data, .data, .handle, .sentinel, .sentinel, .listed, .data] true _ _
  overExprEvals (fun _ h => by cases h) (by kernel_rfl) (fun _ h => by cases h) exprEvals_row_tie rfl ⟨rfl, rfl⟩ (by kernel_rfl) rfl
  (fun f fn hf hfn => by
   obtain rfl : f = 6 := Option.some.inj ((show Tryz.prog.funcNamed "streamwright/streamwrightlaw3.ExprEvals" = some 6 by kernel_rfl).symm.trans hf) |>.symm
   obtain rfl : fn = Tryz.f6 := (Option.some.inj (Tryz.func6.symm.trans hfn)).symm
   exact ⟨by kernel_rfl, fun j t ht => by
    rw [Tryz.params6] at ht
    have h3 : t = 9 ∨ t = 36 ∨ t = 39 := by
     rcases j with _ | _ | _ | j
     ·left; simpa using ht.symm
     ·right; left; simpa using ht.symm
     ·right; right; simpa using ht.symm
     ·simp at ht
    rcases h3 with rfl | rfl | rfl
    ·exact (show Tryz.prog.wantsStandIn 9 = false by kernel_rfl)
    ·exact (show Tryz.prog.wantsStandIn 36 = false by kernel_rfl)
    ·exact (show Tryz.prog.wantsStandIn 39 = false by kernel_rfl)
   ⟩)
  (by kernel_rfl)
#print axioms provedExprEvals
end Go.Proofs.YtgajofkeidjbgaaGreatDoor
