/-
  PROVED HERE: the contract of the iterator over the beginnings of windows.
-/
import Derived.Test.YthfgjmdmcoogpaaWinInfo
import Derived.Test.YthfgjmdmcoogpaaWinValid
import Derived.RangeFuncNested
import Derived.RangeFuncBound
import Derived.RangeFuncCalls
import Derived.RangeFuncLeaves
import Derived.RangeFuncBox
import Derived.OwnWalkIn
import Derived.TacticsInMore
import Derived.LoopNIn
import Derived.LoopIn
namespace Go.Proofs.Ythfgjmdmcoogpaa
set_option linter.unusedSimpArgs false
set_option linter.unusedVariables false
open Go.RowKit

/-- the three variables that the iterator has taken along stay. -/
def Kp3 (x y z : Nat) (W W' : World) : Prop := W'.heap[x]? = W.heap[x]? ∧ W'.heap[y]? = W.heap[y]? ∧ W'.heap[z]? = W.heap[z]?
def startL (t s p : Int) (n : Nat) : List Int := (List.range n).map fun (j : Nat) => stepA t p (j - winJ t s p)
theorem startL_succ (t s p : Int) (n : Nat) : startL t s p (n + 1) = startL t s p n ++ [stepA t p (n - winJ t s p)] := by simp [startL, List.range_succ]
theorem startL_length (t s p : Int) (n : Nat) : (startL t s p n).length = n := by simp [startL]
theorem startL_pre {t s p : Int} {m n : Nat} (h : m ≤ n) : startL t s p m <+: startL t s p n := by
  obtain ⟨k, rfl⟩ : ∃ k, n = m + k := ⟨n - m, by omega⟩
  induction k with
  | zero => exact List.prefix_refl _
  | succ k ih => exact (ih (by omega)).trans ⟨_, (startL_succ t s p (m + k)).symm⟩
def ItTo (J Jx : List Int → World → Prop) (l : List Int) (e : Ending) (W' : World) : Prop := (∃ v, e = .returned v) ∧ ((∃ ys, ys = l ∧ J ys W') ∨ (∃ pre, pre <+: l ∧ Jx pre W'))
theorem grown_of_later {w w' : World} (h : Later w w') : w.grownBy w' none := ⟨h.os, h.tape, h.output, h.size, fun k hk _ => h.block k hk⟩

set_option maxRecDepth 100000 in
set_option maxHeartbeats 4000000 in
theorem starts1_in (l n : Nat) (hn : 1 ≤ n) (Bt Bp Bs : Nat) (t s p : Int) (hs : 1 ≤ s ∧ s ≤ 1048576) (hp : 1 ≤ p ∧ p ≤ s ∧ s / p ≤ 64) (ht : 0 ≤ t ∧ t ≤ 1099511627776) (J Jx : List Int → World → Prop) (W : World)
    (hJ : AbidesFrom W.heap.size J)
    (hY : ∀ pre x W1, J pre W1 → pre.length < winJ t s p + 1 → YieldAt Fence.wide (n - 1) Try.prog l #[.int .i64 x] W1 fun e W' => (e = .returned (.bool true) ∧ J (pre ++ [x]) W' ∧ Kp3 Bt Bp Bs W1 W') ∨ (e = .returned (.bool false) ∧ Jx (pre ++ [x]) W'))
    (bt : Boxed W Bt 2 (.int .i64 t)) (bp : Boxed W Bp 2 (.int .i64 p)) (bs : Boxed W Bs 2 (.int .i64 s)) (h0 : J [] W) :
    CallsIn Fence.wide n Try.prog 37 #[.func (.yield l) #[] #[], .pointer (some ⟨Bt, 0, none⟩), .pointer (some ⟨Bp, 0, none⟩), .pointer (some ⟨Bs, 0, none⟩)] W (ItTo J Jx (startL t s p (winJ t s p + 1))) := by
  have HS := hid hs; have HP := hid hp; have HT := hid ht; have HJA := hid hJ; have HY := hid hY; have H0 := hid h0
  have HBT := hid bt; have HBP := hid bp; have HBS := hid bs
  obtain ⟨N, hN⟩ : ∃ N, N = winJ t s p := ⟨_, rfl⟩
  have HNE := hid hN
  have HN64 : Hid (N ≤ 64) := hid (by rw [hN]; exact winJ_le (by omega) hp.2.1 hp.2.2)
  have c0 := bt.cell
  have c1 := bp.cell
  have c2 := bs.cell
  have hp0 : ¬ p = 0 := by omega
  clear hs hp ht hJ hY h0 bt bp bs hN
  refine callsIn_wide.2 ?_
  go_enter Try.func37, Try.ntmps37
  go_wp2_with fail
  have hqr := quot_range (t := t) (by have := HP.out; omega : 0 < p) HT.out.1 HT.out.2
  have hr0 := stepA_range (t := t) (p := p) (i := 0) (by have := HP.out; omega) (by have := HP.out; have := HS.out; omega) HT.out.1 HT.out.2 (by omega) (by omega)
  have hf : IntKind.i64.wrap (IntKind.i64.wrap (t.tdiv p) * p) = stepA t p 0 := by
    have e : stepA t p 0 = t / p * p := by unfold stepA; rw [Int.add_zero]
    rw [Int.tdiv_eq_ediv_of_nonneg HT.out.1, IntWalk.i64_in (t / p) (by omega), ← e, IntWalk.i64_in _ (by omega)]
  refine wp_region_lex (by kernel_rfl) (by kernel_rfl) Later Later.refl Later.trans (fun _ => none) (fun _ _ _ _ _ h => by cases h) ?_
  simp only [numbered, Nat.reduceAdd]
  refine LexS.out ?_
  iterate 6
    first
    | (refine LexS.skip rfl ?_; simp only [Act.put, List.setIfInBounds_toArray, List.set])
    | (refine LexS.one' rfl rfl ?_
       apply Exists.intro
       refine ⟨fun w hR hF => ?_, ?_⟩
       · have hP := hR
         repeat (first | replace hP := Later.of_drew hP | replace hP := Later.of_drewN hP | replace hP := Later.of_alloc hP)
         have hcs := hR.cells
         have zc0 := hP.cell c0
         have zc1 := hP.cell c1
         have zc2 := hP.cell c2
         clear hR hF hP
         go_simp
         first | done | rfl
       simp only [Act.put, List.setIfInBounds_toArray, List.set])
  refine LexS.nil ?_
  intro w1 hR1 hF9
  clear hF9
  repeat (first | replace hR1 := Later.of_drew hR1 | replace hR1 := Later.of_drewN hR1 | replace hR1 := Later.of_alloc hR1)
  have HR1 := hid hR1
  have HBT1 : Hid (Boxed w1 Bt 2 (.int .i64 t)) := hid (hR1.obj HBT.out)
  have HBP1 : Hid (Boxed w1 Bp 2 (.int .i64 p)) := hid (hR1.obj HBP.out)
  have HBS1 : Hid (Boxed w1 Bs 2 (.int .i64 s)) := hid (hR1.obj HBS.out)
  have HJ1 : Hid (J [] w1) := hid (HJA.out [] W w1 none H0.out (grown_of_later hR1) fun r h => by cases h)
  replace c0 := hR1.cell c0
  replace c1 := hR1.cell c1
  replace c2 := hR1.cell c2
  clear hR1 hf hqr hr0
  go_wp2_with fail
  obtain ⟨R1, hR1⟩ : ∃ RR_ : (Nat → Value) → World → Prop, RR_ = (fun us wx => ∃ j : Nat, j ≤ N ∧ us 5 = .int .i64 (stepA t p (-(j : Int))) ∧ wx = w1) := ⟨_, rfl⟩
  obtain ⟨mu1, hmu1⟩ : ∃ mu : (Nat → Value) → World → Nat, mu = (fun us _ => (intOf (us 5) - (t - s)).toNat) := ⟨_, rfl⟩
  have HR1 := hid hR1; have Hmu1 := hid hmu1; clear hR1 hmu1
  refine wp_loop_frame' [false, false, false, false, false, true, false, false, false, false, false, true, true, true, true, true, true, true, true, true, true] R1 _ mu1 HR1.out ?_ ?_
  · exact ⟨0, by omega, rfl, rfl⟩
  ·
    intro us1 wx hrel
    obtain ⟨j, hjN, h5, rfl⟩ := hrel
    simp only [frameOf, Nat.reduceAdd, h5]
    have Hh5 := hid h5; clear h5
    obtain ⟨A, hA⟩ : ∃ A, A = stepA t p (-(j : Int)) := ⟨_, rfl⟩
    have hAr := stepA_range (t := t) (p := p) (i := -(j : Int)) (by have := HP.out; omega) (by have := HP.out; have := HS.out; omega) HT.out.1 HT.out.2 (by have := HN64.out; omega) (by omega)
    have hin := stepA_in (t := t) (s := s) (p := p) (by have := HP.out; omega) HP.out.2.1 (-(j : Int) - 1)
    have hin0 := stepA_in (t := t) (s := s) (p := p) (by have := HP.out; omega) HP.out.2.1 (-(j : Int))
    rw [stepA_pred] at hin
    rw [← hA] at hAr hin hin0 ⊢
    rw [← HNE.out] at hin hin0
    have hw1 : wrap64 (A - p) = A - p := wrap64_r (by have := HP.out; have := HS.out; omega)
    have hw2 : wrap64 (t - s) = t - s := wrap64_r (by have := HT.out; have := HS.out; omega)
    have HAA := hid hA; have HIN := hid hin; have HIN0 := hid hin0
    have HJN := hid hjN
    clear hA hAr hin hin0 hjN
    by_cases hj : j < N
    · have hc : t - s < A - p := HIN.out.2 (by omega)
      go_wp2_with fail
      try simp only [hw1]
      refine Round.mk' HR1.out Hmu1.out rfl ?_ ?_
      · exact ⟨j + 1, by omega, by rw [show -((j + 1 : Nat) : Int) = -(j : Int) - 1 by omega, stepA_pred, ← HAA.out]; rfl, rfl⟩
      · rw [Hh5.out, ← HAA.out]; have := HIN0.out; have := HP.out; simp [intOf, slots]; omega
    · obtain rfl : N = j := by have := HJN.out; omega
      have hc : ¬ t - s < A - p := fun h => by have := HIN.out.1 h; omega
      have hc' : A - p ≤ t - s := by omega
      go_wp2_with fail
      clear c0 c1 c2 hc hc' hw1 hw2 hj
      obtain ⟨R2, hR2⟩ : ∃ RR_ : (Nat → Value) → World → Prop, RR_ = (fun us wy => ∃ i : Nat, i ≤ N + 1 ∧ us 5 = .int .i64 (stepA t p ((i : Int) - N)) ∧ Boxed wy Bt 2 (.int .i64 t) ∧ Boxed wy Bp 2 (.int .i64 p) ∧ J (startL t s p i) wy) := ⟨_, rfl⟩
      obtain ⟨mu2, hmu2⟩ : ∃ mu : (Nat → Value) → World → Nat, mu = (fun us _ => (t + 2 * p + 1 - intOf (us 5)).toNat) := ⟨_, rfl⟩
      have HR2 := hid hR2; have Hmu2 := hid hmu2; clear hR2 hmu2
      refine wp_loop_frame' [false, false, false, false, false, true, false, false, false, false, false, false, false, false, false, false, false, false, false, false, false, true, true, true, true, true, true, true, true, true, true, true] R2 _ mu2 HR2.out ?_ ?_
      · exact ⟨0, by omega, by rw [HAA.out, show ((0 : Nat) : Int) - N = -(N : Int) by omega]; rfl, HBT1.out, HBP1.out, HJ1.out⟩
      ·
        intro us2 wy hrel
        obtain ⟨i, hiN, h5', bt2, bp2, hJ2⟩ := hrel
        simp only [frameOf, Nat.reduceAdd, h5']
        have Hh5' := hid h5'; clear h5'
        obtain ⟨C, hC⟩ : ∃ C, C = stepA t p ((i : Int) - N) := ⟨_, rfl⟩
        have hCr := stepA_range (t := t) (p := p) (i := (i : Int) - N) (by have := HP.out; omega) (by have := HP.out; have := HS.out; omega) HT.out.1 HT.out.2 (by have := HN64.out; omega) (by omega)
        have hle := stepA_le (t := t) (p := p) (by have := HP.out; omega) ((i : Int) - N)
        rw [← hC] at hCr hle ⊢
        have HCC := hid hC; have HCR := hid hCr; have HLE := hid hle; have HIN1 := hid hiN; have HJ2 := hid hJ2
        have HBT2 := hid bt2; have HBP2 := hid bp2
        clear hC hCr hle hiN hJ2
        have c0 := bt2.cell
        have c1 := bp2.cell
        clear bt2 bp2
        by_cases hi : i ≤ N
        · have hc : C ≤ t := HLE.out.2 (by omega)
          obtain ⟨fn, tmps, assign, body, hy, hR⟩ := HY.out (startL t s p i) C wy HJ2.out (by rw [startL_length, ← HNE.out]; omega)
          refine (wpIn_wide (n := n)).1 ?_
          gi_wp2
          refine hR.mono ?_
          rintro e W3 (⟨rfl, hJ3, hk3⟩ | ⟨rfl, hJx3⟩)
          · have HBT3 : Hid (Boxed W3 Bt 2 (.int .i64 t)) := hid (hk3.1.trans HBT2.out)
            have hbp3 : Boxed W3 Bp 2 (.int .i64 p) := hk3.2.1.trans HBP2.out
            have HBP3 := hid hbp3
            have c3 := hbp3.cell
            have HJ3 := hid hJ3
            have hw9 : wrap64 (C + p) = C + p := wrap64_r (by have := HCR.out; have := HP.out; have := HS.out; omega)
            clear hJ3 hk3 c0 c1 hbp3 hy hR
            gi_wp2
            try simp only [hw9]
            refine Round.mk' HR2.out Hmu2.out rfl ?_ ?_
            · exact ⟨i + 1, by omega, by rw [show ((i + 1 : Nat) : Int) - N = (i : Int) - N + 1 by omega, stepA_succ, ← HCC.out]; rfl, HBT3.out, HBP3.out, by rw [startL_succ, ← HNE.out, ← HCC.out]; exact HJ3.out⟩
            · rw [Hh5'.out, ← HCC.out]; have := HLE.out; have := HP.out; simp [intOf, slots]; omega
          · clear hy hR
            gi_wp2
            go_end0
            exact ⟨⟨_, rfl⟩, .inr ⟨_, by rw [HCC.out, HNE.out, ← startL_succ]; exact startL_pre (by have := HNE.out; omega), hJx3⟩⟩
        · have hc : ¬ C ≤ t := fun h => hi (by have := HLE.out.1 h; omega)
          have hc' : t < C := by omega
          go_wp2_with fail
          go_end0
          obtain rfl : i = N + 1 := by have := HIN1.out; omega
          exact ⟨⟨_, rfl⟩, .inl ⟨_, by rw [HNE.out], HJ2.out⟩⟩
end Go.Proofs.Ythfgjmdmcoogpaa
