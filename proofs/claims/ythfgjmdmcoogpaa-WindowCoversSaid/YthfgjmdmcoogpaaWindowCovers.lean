/-
  PROVED HERE: streamwrightlaw5.WindowCovers returns true, for every windows, every time and every list. No conditions.
-/
import Derived.Test.YthfgjmdmcoogpaaCoversWalk
import Derived.Test.YthfgjmdmcoogpaaOpenWins
import Derived.Test.YthfgjmdmcoogpaaOpenWin
import Derived.Test.YthfgjmdmcoogpaaRows
import Derived.OpenShut
import Derived.ShutString
import Derived.ChangeOld
import Derived.LaidEql
namespace Go.Proofs.Ythfgjmdmcoogpaa
set_option linter.unusedSimpArgs false
set_option linter.unusedVariables false
open Go.ChangeShapes Go.WideShapes Go.ChangeAt Go.RowKit

theorem ownWindowCovers : ownKnob Try.prog.godebug = none := by kernel_rfl
theorem laidOutWindowCovers : laidOutB Try.prog = true := by kernel_rfl
set_option linter.unusedVariables false in
set_option maxRecDepth 100000 in
theorem liftedWindowCovers (os : Os) (started : os.Started) (H : Type) (enc : TypeId × Value → H) :
    ReturnsInHanded {} Try.checked os 4 .any (Rows.windowCoversSpec.pre6 enc Try.prog Try.f4 Rows.windowCoversRow.domain false) (Rows.windowCoversSpec.post enc Try.prog Try.f4 false true false false) := by
  refine returnsInHanded_of_change_sized (C := Try.checked) ownWindowCovers started (by kernel_rfl) Try.func4
    (ChangeSpec.witness6 (enc := enc) (C := Try.checked) false ⟨#[], #[.agg #[.int .i64 0, .int .i64 0, .int .i64 0], .int .i64 0, .slice none 0 0], []⟩ 8 (by kernel_rfl) (by kernel_rfl) (by kernel_rfl) (by kernel_rfl)) ?_
  intro W base args ds gs before hval0 hW hcnd hsz0 _
  have hval : ∀ (j : Nat) t v, Try.f4.params[j]? = some t → args[j]? = some v → Value.okWide Try.prog W .any base t v := hval0
  have hW' := hW
  obtain ⟨p, q, hA0, hV, rfl, hfz, hnd⟩ := hW
  have hA : DataW.TrodAll enc Try.prog W 0 (fun _ => true) true Try.f4.params.toList args.toList ds p := hA0
  rw [Try.params4] at hA hval
  obtain ⟨v0, vs0, d0, ds0, p0, q0, hargs, rfl, rfl, h0, r0⟩ := trodAll_cons hA
  obtain ⟨v1, vs1, d1, ds1, p1, q1, rfl, rfl, rfl, h1, r1⟩ := trodAll_cons r0
  obtain ⟨v2, vs2, d2, ds2, p2, q2, rfl, rfl, rfl, h2, r2⟩ := trodAll_cons r1
  obtain ⟨rfl, rfl, rfl⟩ := trodAll_nil r2
  obtain rfl : args = #[v0, v1, v2] := by cases args; simp_all
  obtain ⟨rfl, rfl⟩ := trodVars_none hV
  have hsz : (DataW.weightsEach Try.prog [31, 2, 22] [d0, d1, d2]).all (· ≤ reachBytes) = true := hsz0
  have k0 := h0
  have lt0 : ∀ x ∈ p0, x.block < W.heap.size := by obtain ⟨m, hm⟩ := k0; exact DataW.trod_lt m _ _ _ hm
  obtain ⟨a0, rfl, ok0⟩ := windows_arg (hval 0 31 v0 rfl rfl) h0
  have k1 := h1
  obtain ⟨a1, rfl, rfl, rfl, w1⟩ := open_int Try.underlying2 (hval 1 2 v1 rfl rfl) h1
  have k2 := h2
  have lt2 : ∀ x ∈ p2, x.block < W.heap.size := by obtain ⟨m, hm⟩ := k2; exact DataW.trod_lt m _ _ _ hm
  obtain ⟨s2, len2, cap2, rfl⟩ := okWide_slice Try.underlying22 (hval 2 22 v2 rfl rfl)
  obtain ⟨fu2, hf2⟩ := h2
  obtain ⟨u2, a2, hu2, w2, ok2, wl2⟩ := wins_of hf2 (Fits.each hsz (j := 2) rfl rfl)
  obtain rfl : Value.slice s2 len2 cap2 = u2 := by simpa [Value.cells] using hu2
  clear hA0 hval0
  refine (covers_walk a0.1 a0.2.1 a0.2.2 a1 a2 _ W ok0 (w2.map fun _ _ _ _ h => ⟨trivial, h⟩) (by rw [show Try.prog.bytesOf 24 = 16 by kernel_rfl] at wl2; unfold reachBytes at wl2; omega)).mono fun e W' ⟨he, bel⟩ => ?_
  subst he
  exact ⟨_, rfl, _, _, _, [], _, [], hW', trodAll_mk1 (shut_bool Try.underlying4 _), (trodAll_cons_mk (Below.trod laidOutWindowCovers (by kernel_rfl) (of_decide_eq_true (by kernel_rfl)) k0 bel lt0) (trodAll_cons_mk (shut_int Try.underlying2 w1) (trodAll_cons_mk (Below.trod laidOutWindowCovers (by kernel_rfl) (of_decide_eq_true (by kernel_rfl)) k2 bel lt2) trodAll_mk0))), rfl, bel.frame _, fun h => by cases h⟩

theorem overWindowCovers : Rows.windowCoversRow.holds Try.pinned (OpenSpec.ofChange Rows.windowCoversSpec) :=
  OpenClaim.holds_of_wide 4 Try.f4 rfl rfl rfl rfl rfl rfl rfl ⟨rfl, rfl, rfl, rfl, rfl⟩ rfl rfl rfl rfl rfl (by kernel_rfl) Try.func4 (by kernel_rfl)
    (of_decide_eq_true (by kernel_rfl)) (by unfold Func.isWrapper; first | (rw [if_pos (by decide +kernel)]; kernel_rfl) | (rw [if_neg (by decide +kernel)]; exact ⟨rfl, rfl⟩))
    (fun os started H enc _ => liftedWindowCovers os started H enc)
theorem provedWindowCovers : Rows.WindowCoversSaid := overWindowCovers
#print axioms provedWindowCovers
end Go.Proofs.Ythfgjmdmcoogpaa
