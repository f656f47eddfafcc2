/-
  PROVED HERE: streamwrightlaw2.WireBack returns true, for every bytes, places and rows; what the row lists is tied to the program's text (the card). Conditions: what comes in is of bulk at most 1048576 (the second form).
-/
import Derived.Test.YthfgjmdmcoogpaaDoorDoor
import Derived.Test.YthfgjmdmcoogpaaDoorBackWalk
import Derived.Test.YthfgjmdmcoogpaaDoorUptoLen
import Derived.Test.YthfgjmdmcoogpaaDoorTie
import Derived.Test.YthfgjmdmcoogpaaDoorCards
import Derived.Test.YthfgjmdmcoogpaaDoorUpto
import Derived.OpenShut
import Derived.SevenTiedAt
import Derived.Deep.DeepHandedRow
namespace Go.Proofs.YthfgjmdmcoogpaaDoor
set_option linter.unusedSimpArgs false
set_option linter.unusedVariables false
open Go.ChangeShapes Go.WideShapes Go.ChangeAt Go.RowKit

set_option linter.unusedVariables false in
set_option maxRecDepth 100000 in
theorem liftedWireBack (os : Os) (started : os.Started) (H : Type) (enc : TypeId × Value → H) (F : Stop.Interp) :
    ReturnsInHanded {} Tryd.checked os 6 .any ((Rows.OpenSpec.upto Rows.wireBackSpec).preRow enc Tryd.prog Tryd.f6 [] false laidList) (((Rows.OpenSpec.upto Rows.wireBackSpec).at F).post enc Tryd.prog Tryd.f6 false true false false) := by
  refine returnsInHanded_of_row (C := Tryd.checked) (s := (Rows.OpenSpec.upto Rows.wireBackSpec)) (laid := laidList) ownKnobDoor started (by kernel_rfl) Tryd.func6
    (witness_row_at (enc := enc) (C := Tryd.checked) (s := (Rows.OpenSpec.upto Rows.wireBackSpec)) (laid := laidList) false (laidWorld os) #[.slice none 0 0, .slice none 0 0, .slice none 0 0, .int .i64 0, .int .i64 0, .slice none 0 0] rfl (by kernel_rfl) (by kernel_rfl) (by kernel_rfl)
      (OpenSpec.preRow_of_cond 8 (x := ([.nil, .nil, .nil, .lit (.int .i64 0), .lit (.int .i64 0), .nil], [], [])) (by kernel_rfl) rfl (fun k hk => by obtain rfl := Option.some.inj hk; kernel_rfl) (by kernel_rfl) (laidWorld_met os _))) ?_
  intro W base args ds gs before hval0 hW hcnd hk hsz0 hL _ _
  have hval : ∀ (j : Nat) t v, Tryd.f6.params[j]? = some t → args[j]? = some v → Value.okWide Tryd.prog W .any base t v := hval0
  have hW' := hW
  obtain ⟨p, q, hA0, hV, rfl, hfz, hnd⟩ := hW
  have hA : DataW.TrodAll enc Tryd.prog W 0 (fun _ => true) true Tryd.f6.params.toList args.toList ds p := hA0
  rw [Tryd.params6] at hA hval
  obtain ⟨v0, vs0, d0, ds0, p0, q0, hargs, rfl, rfl, h0, r0⟩ := trodAll_cons hA
  obtain ⟨v1, vs1, d1, ds1, p1, q1, rfl, rfl, rfl, h1, r1⟩ := trodAll_cons r0
  obtain ⟨v2, vs2, d2, ds2, p2, q2, rfl, rfl, rfl, h2, r2⟩ := trodAll_cons r1
  obtain ⟨v3, vs3, d3, ds3, p3, q3, rfl, rfl, rfl, h3, r3⟩ := trodAll_cons r2
  obtain ⟨v4, vs4, d4, ds4, p4, q4, rfl, rfl, rfl, h4, r4⟩ := trodAll_cons r3
  obtain ⟨v5, vs5, d5, ds5, p5, q5, rfl, rfl, rfl, h5, r5⟩ := trodAll_cons r4
  obtain ⟨rfl, rfl, rfl⟩ := trodAll_nil r5
  obtain rfl : args = #[v0, v1, v2, v3, v4, v5] := by cases args; simp_all
  obtain ⟨rfl, rfl⟩ := trodVars_none hV
  have hk' : Rows.uptoSmall H [d0, d1, d2, d3, d4, d5] = true := by simpa using hk _ rfl
  have hsm : Rows.uptoBulkAll [d0, d1, d2, d3, d4, d5] ≤ 1048576 := of_decide_eq_true hk'
  simp only [Rows.uptoBulkAll] at hsm
  have hsz : (DataW.weightsEach Tryd.prog [76, 76, 76, 3, 3, 22] [d0, d1, d2, d3, d4, d5]).all (· ≤ reachBytes) = true := hsz0
  have k0 := h0
  have lt0 : ∀ x ∈ p0, x.block < W.heap.size := by obtain ⟨m, hm⟩ := k0; exact DataW.trod_lt m _ _ _ hm
  obtain ⟨s0, len0, cap0, rfl⟩ := okWide_slice Tryd.underlying76 (hval 0 76 v0 rfl rfl)
  obtain ⟨fu0, hf0⟩ := h0
  obtain ⟨u0, a0, hu0, w0, wl0⟩ := bytes_bulk Tryd.underlying76 Tryd.underlying5 (by kernel_rfl) hf0
  obtain rfl : Value.slice s0 len0 cap0 = u0 := by simpa [Value.cells] using hu0
  have k1 := h1
  have lt1 : ∀ x ∈ p1, x.block < W.heap.size := by obtain ⟨m, hm⟩ := k1; exact DataW.trod_lt m _ _ _ hm
  obtain ⟨s1, len1, cap1, rfl⟩ := okWide_slice Tryd.underlying76 (hval 1 76 v1 rfl rfl)
  obtain ⟨fu1, hf1⟩ := h1
  obtain ⟨u1, a1, hu1, w1, wl1⟩ := bytes_bulk Tryd.underlying76 Tryd.underlying5 (by kernel_rfl) hf1
  obtain rfl : Value.slice s1 len1 cap1 = u1 := by simpa [Value.cells] using hu1
  have k2 := h2
  have lt2 : ∀ x ∈ p2, x.block < W.heap.size := by obtain ⟨m, hm⟩ := k2; exact DataW.trod_lt m _ _ _ hm
  obtain ⟨s2, len2, cap2, rfl⟩ := okWide_slice Tryd.underlying76 (hval 2 76 v2 rfl rfl)
  obtain ⟨fu2, hf2⟩ := h2
  obtain ⟨u2, a2, hu2, w2, wl2⟩ := bytes_bulk Tryd.underlying76 Tryd.underlying5 (by kernel_rfl) hf2
  obtain rfl : Value.slice s2 len2 cap2 = u2 := by simpa [Value.cells] using hu2
  have k3 := h3
  obtain ⟨a3, rfl, rfl, rfl, w3⟩ := open_int Tryd.underlying3 (hval 3 3 v3 rfl rfl) h3
  have k4 := h4
  obtain ⟨a4, rfl, rfl, rfl, w4⟩ := open_int Tryd.underlying3 (hval 4 3 v4 rfl rfl) h4
  have k5 := h5
  have lt5 : ∀ x ∈ p5, x.block < W.heap.size := by obtain ⟨m, hm⟩ := k5; exact DataW.trod_lt m _ _ _ hm
  obtain ⟨s5, len5, cap5, rfl⟩ := okWide_slice Tryd.underlying22 (hval 5 22 v5 rfl rfl)
  obtain ⟨fu5, hf5⟩ := h5
  obtain ⟨u5, a5, hu5, w5, ok5, wl5⟩ := rows_bulk hf5
  obtain rfl : Value.slice s5 len5 cap5 = u5 := by simpa [Value.cells] using hu5
  clear hA0 hval0
  have hb := encRows_bulk a5
  have hb2 := rows_bulk_len a5
  refine (back_walk _ _ _ _ a0 a1 a2 a3 a4 a5 W w0 w1 w2 w5 (laid_of hL) (by omega) (by omega) (by omega) (by omega) ok5 (by omega)).mono fun e W' ⟨he, bel⟩ => ?_
  subst he
  exact ⟨_, rfl, _, _, _, [], _, [], hW', trodAll_mk1 (shut_bool Tryd.underlying4 _), (trodAll_cons_mk (Below.trod laidOutDoor (by kernel_rfl) (of_decide_eq_true (by kernel_rfl)) k0 bel lt0) (trodAll_cons_mk (Below.trod laidOutDoor (by kernel_rfl) (of_decide_eq_true (by kernel_rfl)) k1 bel lt1) (trodAll_cons_mk (Below.trod laidOutDoor (by kernel_rfl) (of_decide_eq_true (by kernel_rfl)) k2 bel lt2) (trodAll_cons_mk (shut_int Tryd.underlying3 w3) (trodAll_cons_mk (shut_int Tryd.underlying3 w4) (trodAll_cons_mk (Below.trod laidOutDoor (by kernel_rfl) (of_decide_eq_true (by kernel_rfl)) k5 bel lt5) trodAll_mk0)))))), rfl, bel.frame _, fun h => by cases h⟩

theorem overWireBack : Rows.WireBackUptoSaid :=
  OpenClaim.holds_of_cond 6 Tryd.f6 rfl rfl rfl rfl rfl rfl rfl ⟨rfl, rfl, rfl, rfl, rfl⟩ rfl rfl rfl rfl rfl (by kernel_rfl) Tryd.func6 (by kernel_rfl)
    (of_decide_eq_true (by kernel_rfl)) (by unfold Func.isWrapper; first | (rw [if_pos (by decide +kernel)]; kernel_rfl) | (rw [if_neg (by decide +kernel)]; exact ⟨rfl, rfl⟩))
    (fun os started H enc _ F => by rw [OpenClaim.pre_eq_preRow]; exact liftedWireBack os started H enc F)
theorem provedWireBack : Rows.WireBackUptoCardSaid :=
  Claim7.holds_tied_plain_at .later [] [.handle] true _ _
    overWireBack (fun _ h => by cases h) (by kernel_rfl) (fun _ h => by cases h) wireBackUpto_row_tie rfl ⟨rfl, rfl⟩ (by kernel_rfl) rfl
    (fun f fn hf hfn => by
      obtain rfl : f = 6 := Option.some.inj ((show Tryd.prog.funcNamed "streamwright/streamwrightlaw2.WireBack" = some 6 by kernel_rfl).symm.trans hf) |>.symm
      obtain rfl : fn = Tryd.f6 := (Option.some.inj (Tryd.func6.symm.trans hfn)).symm
      exact ⟨by kernel_rfl, fun j t ht => by
        rw [Tryd.params6] at ht
        have h3 : t = 76 ∨ t = 76 ∨ t = 76 ∨ t = 3 ∨ t = 3 ∨ t = 22 := by
          rcases j with _ | _ | _ | _ | _ | _ | j
          · left; simpa using ht.symm
          · right; left; simpa using ht.symm
          · right; right; left; simpa using ht.symm
          · right; right; right; left; simpa using ht.symm
          · right; right; right; right; left; simpa using ht.symm
          · right; right; right; right; right; simpa using ht.symm
          · simp at ht
        rcases h3 with rfl | rfl | rfl | rfl | rfl | rfl
        · exact (show Tryd.prog.wantsStandIn 76 = false by kernel_rfl)
        · exact (show Tryd.prog.wantsStandIn 76 = false by kernel_rfl)
        · exact (show Tryd.prog.wantsStandIn 76 = false by kernel_rfl)
        · exact (show Tryd.prog.wantsStandIn 3 = false by kernel_rfl)
        · exact (show Tryd.prog.wantsStandIn 3 = false by kernel_rfl)
        · exact (show Tryd.prog.wantsStandIn 22 = false by kernel_rfl)
      ⟩)
    (by kernel_rfl)
#print axioms provedWireBack
end Go.Proofs.YthfgjmdmcoogpaaDoor
