/-
  PROVED HERE: the contract of the law's same, at equal lists of windows.
-/
import Derived.Test.YthfgjmdmcoogpaaWinInfo
import Derived.Test.YthfgjmdmcoogpaaWinValid
namespace Go.Proofs.Ythfgjmdmcoogpaa
set_option linter.unusedSimpArgs false
set_option linter.unusedVariables false
open Go.RowKit

theorem run_neq_win (w : World) (x y : Int) : (binOp .neq 24 (.agg #[.int .i64 x, .int .i64 y]) (.agg #[.int .i64 x, .int .i64 y])).run Try.prog w = .ok (.bool false) w := by
  go_simp
attribute [local go_sem high] run_neq_win
set_option maxRecDepth 100000 in
set_option maxHeartbeats 2000000 in
theorem same_wins (a : List Win) (v u : Value) (w : World) (ha : WinsIn (fun _ => True) w v a) (hb : WinsIn (fun _ => True) w u a) :
    Calls Try.prog 8 #[v, u] w (BoolW w true) := by
  obtain ⟨p, c, rfl, hac, hcm, -, hea⟩ := ha
  obtain ⟨q, d, rfl, hbd, hdm, -, heb⟩ := hb
  unfold maxLen at hcm hdm
  have HA := hid hea; have HB := hid heb; clear hea heb
  go_enter Try.func8, Try.ntmps8
  go_wp2_with fail
  obtain ⟨R1, hR1⟩ : ∃ RR_ : (Nat → Value) → World → Prop, RR_ = (fun us wx => ∃ n : Nat, n ≤ a.length ∧ us 5 = .int .i64 n ∧ Later w wx) := ⟨_, rfl⟩
  obtain ⟨mu1, hmu1⟩ : ∃ mu : (Nat → Value) → World → Nat, mu = (fun us _ => a.length - (intOf (us 5)).toNat) := ⟨_, rfl⟩
  have HR1 := hid hR1; have Hmu1 := hid hmu1; clear hR1 hmu1
  refine wp_loop_frame' [false, false, false, false, true, true, false, false, false, false, false, true, true, true, true, true, true, true, true, true, true, true, true, true, true, true] R1 _ mu1 HR1.out ?_ ?_
  · exact ⟨0, by omega, rfl, Later.refl _⟩
  intro us1 wx hrel
  obtain ⟨n, hn1, h5, hLx⟩ := hrel
  simp only [frameOf, Nat.reduceAdd, h5]
  have Hh5 := hid h5; clear h5
  have HL9 := hid hLx
  have HN := hid hn1
  clear hLx hn1
  by_cases h1 : n < a.length
  · obtain ⟨b1, o1, rfl, -, p1, p2⟩ := HA.out n h1
    obtain ⟨b2, o2, rfl, -, q1, q2⟩ := HB.out n h1
    replace p1 := HL9.out.cell p1
    replace p2 := HL9.out.cell p2
    replace q1 := HL9.out.cell q1
    replace q2 := HL9.out.cell q2
    have HN1 := hid h1
    generalize hx : a[n] = x at *
    clear hx
    obtain ⟨x1, x2⟩ := x
    simp only at p1 p2 q1 q2
    go_upto_region 6 with (fail)
    refine wp_region_lex (by kernel_rfl) (by kernel_rfl) Later Later.refl Later.trans (fun _ => none) (fun _ _ _ _ _ h => by cases h) ?_
    simp only [numbered, Nat.reduceAdd]
    refine LexS.out ?_
    iterate 9
      first
      | (refine LexS.skip rfl ?_; simp only [Act.put, List.setIfInBounds_toArray, List.set])
      | (refine LexS.one' rfl rfl ?_
         apply Exists.intro
         refine ⟨fun w hR hF => ?_, ?_⟩
         · have hP := hR
           repeat (first | replace hP := Later.of_drew hP | replace hP := Later.of_drewN hP | replace hP := Later.of_alloc hP)
           have hcs := hR.cells
           have zp1 := hP.cell p1
           have zp2 := hP.cell p2
           have zq1 := hP.cell q1
           have zq2 := hP.cell q2
           clear hR hF hP
           go_simp
           first | done | rfl
         simp only [Act.put, List.setIfInBounds_toArray, List.set])
    refine LexS.nil ?_
    intro w1 hR1 hF9
    clear hF9
    repeat (first | replace hR1 := Later.of_drew hR1 | replace hR1 := Later.of_drewN hR1 | replace hR1 := Later.of_alloc hR1)
    have HL10 := hid (Later.trans _ _ _ HL9.out hR1)
    clear hR1 p1 p2 q1 q2
    go_wp2_with fail
    have hw9 : wrap64 ((n : Int) + 1) = ((n + 1 : Nat) : Int) := by have := HN1.out; unfold wrap64; omega
    try simp only [hw9]
    refine Round.mk' HR1.out Hmu1.out rfl ?_ ?_
    · exact ⟨n + 1, HN1.out, rfl, HL10.out⟩
    · rw [Hh5.out]; have := HN1.out; simp [intOf, slots]; omega
  · go_wp2_with fail
    go_ret
    exact ⟨rfl, HL9.out⟩
end Go.Proofs.Ythfgjmdmcoogpaa
