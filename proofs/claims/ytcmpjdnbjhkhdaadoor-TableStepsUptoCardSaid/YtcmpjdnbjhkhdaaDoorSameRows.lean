/-
  PROVED HERE: the contract of the document's SameRows.
-/
import Derived.Test.YtcmpjdnbjhkhdaaDoorSame
import Derived.Test.YtcmpjdnbjhkhdaaDoorFrame
namespace Go.Proofs.YtcmpjdnbjhkhdaaDoor
set_option linter.unusedSimpArgs false
set_option linter.unusedVariables false
open Go.RowKit

/-- are two lists of rows the same? -/
def sameR : List Row → List Row → Bool
  | [], [] => true
  | x :: a, y :: b => (sameV x.vals y.vals && x.time == y.time) && sameR a b
  | _, _ => false
theorem sameR_refl : ∀ a, sameR a a = true
  | [] => rfl
  | x :: a => by simp [sameR, sameV_refl, sameR_refl a]
theorem sameR_len : ∀ a b, sameR a b = true → a.length = b.length
  | [], [], _ => rfl
  | x :: a, y :: b, h => by simp only [sameR, Bool.and_eq_true] at h; simp [sameR_len a b h.2]
  | [], _ :: _, h => by simp [sameR] at h
  | _ :: _, [], h => by simp [sameR] at h
def SameRTo (w : World) (a b : List Row) (e : Ending) (w' : World) : Prop := e = .returned (.bool (sameR a b)) ∧ Later w w'

set_option maxRecDepth 100000 in
set_option maxHeartbeats 2000000 in
theorem same_rows (a b : List Row) (v u : Value) (w : World) (ha : IsRows w v a) (hb : IsRows w u b) :
    Calls Tryd.prog 41 #[v, u] w (SameRTo w a b) := by
  obtain ⟨p, c, rfl, hac, hcm, -, hea⟩ := ha
  obtain ⟨q, d, rfl, hbd, hdm, -, heb⟩ := hb
  unfold maxLen at hcm hdm
  have HA := hid hea; have HB := hid heb; clear hea heb
  by_cases h0 : a.length = b.length
  · have HL := hid h0
    have hd0 : ((a.length : Int) != b.length) = false := by simp [h0]
    clear h0
    go_enter Tryd.func41, Tryd.ntmps41
    go_wp2_with fail
    obtain ⟨R1, hR1⟩ : ∃ RR_ : (Nat → Value) → World → Prop, RR_ = (fun us wx => ∃ n : Nat, n ≤ a.length ∧ us 5 = .int .i64 n ∧ Later w wx ∧ sameR a b = sameR (a.drop n) (b.drop n)) := ⟨_, rfl⟩
    obtain ⟨mu1, hmu1⟩ : ∃ mu : (Nat → Value) → World → Nat, mu = (fun us _ => a.length - (intOf (us 5)).toNat) := ⟨_, rfl⟩
    have HR1 := hid hR1; have Hmu1 := hid hmu1; clear hR1 hmu1
    refine wp_loop_frame' [false, false, false, false, true, true, true, false, false, false, false, false, true, true, true, true, true, true, true, true, true, true, true, true, true, true, true, true, true, true, true, true, true, true, true, true, true, true, true, true, true, true, true, true] R1 _ mu1 HR1.out ?_ ?_
    · exact ⟨0, by omega, rfl, Later.refl _, rfl⟩
    intro us1 wx hrel
    obtain ⟨n, hn1, h5, hLx, hqx⟩ := hrel
    simp only [frameOf, Nat.reduceAdd, h5]
    have Hh5 := hid h5; clear h5
    have HL9 := hid hLx
    have HQ := hid hqx
    have HN := hid hn1
    clear hLx hqx hn1
    by_cases h1 : n < a.length
    · have h2 : n < b.length := by have := HL.out; omega
      obtain ⟨b1, o1, rfl, -, p1, v1, p2, hv1⟩ := HA.out n h1
      obtain ⟨b2, o2, rfl, -, q1, v2, q2, hv2⟩ := HB.out n h2
      replace p1 := HL9.out.cell p1
      replace p2 := HL9.out.cell p2
      replace q1 := HL9.out.cell q1
      replace q2 := HL9.out.cell q2
      have HV1 := hid (hv1.later HL9.out)
      have HV2 := hid (hv2.later HL9.out)
      have HD1 : Hid (a.drop n = a[n] :: a.drop (n + 1)) := hid (List.drop_eq_getElem_cons h1)
      have HD2 : Hid (b.drop n = b[n] :: b.drop (n + 1)) := hid (List.drop_eq_getElem_cons h2)
      have HN1 := hid h1
      clear hv1 hv2
      generalize hx : a[n] = x at *
      generalize hy : b[n] = y at *
      clear hx hy
      have HBOX := hid HB.out
      go_upto_region 6 with (fail)
      refine wp_region_lex (by kernel_rfl) (by kernel_rfl) Later Later.refl Later.trans (kinds [(10, fun v _ => v = .bool (sameV x.vals y.vals))]) (kinds_still (by simp +contextual)) ?_
      simp only [numbered, Nat.reduceAdd]
      refine LexS.out ?_
      iterate 10
        first
        | (refine LexS.skip rfl ?_; simp only [Act.put, List.setIfInBounds_toArray, List.set])
        | (refine LexS.one' rfl rfl ?_
           apply Exists.intro
           refine ⟨fun w hR hF => ?_, ?_⟩
           · have hP := hR
             repeat (first | replace hP := Later.of_drew hP | replace hP := Later.of_drewN hP | replace hP := Later.of_alloc hP)
             have hcs := hR.cells
             have zp1 := hP.cell p1
             have zp2 := hP.cell p2
             have zq1 := hP.cell q1
             have zq2 := hP.cell q2
             clear hR hF hP
             go_simp
             first | done | rfl
           simp only [Act.put, List.setIfInBounds_toArray, List.set])
      refine LexS.anyEq rfl rfl (fun w hR hF => ?_) ?_
      · have hP := hR
        repeat (first | replace hP := Later.of_drew hP | replace hP := Later.of_drewN hP | replace hP := Later.of_alloc hP)
        have hcs := hR.cells
        clear hF hR
        unfold Runs
        go_simp
        unfold Yield
        refine (same_vals x.vals y.vals _ _ _ (HV1.out.later hP) (HV2.out.later hP)).mono ?_
        rintro e w' ⟨rfl, hL⟩
        exact ⟨_, rfl, hL, rfl⟩
      simp only [Act.put, List.setIfInBounds_toArray, List.set]
      iterate 1
        first
        | (refine LexS.skip rfl ?_; simp only [Act.put, List.setIfInBounds_toArray, List.set])
        | (refine LexS.one' rfl rfl ?_
           apply Exists.intro
           refine ⟨fun w hR hF => ?_, ?_⟩
           · have hP := hR
             repeat (first | replace hP := Later.of_drew hP | replace hP := Later.of_drewN hP | replace hP := Later.of_alloc hP)
             have hcs := hR.cells
             clear hR hF hP
             go_simp
             first | done | rfl
           simp only [Act.put, List.setIfInBounds_toArray, List.set])
      refine LexS.nil ?_
      intro w1 hR1 hF9
      clear hF9
      repeat (first | replace hR1 := Later.of_drew hR1 | replace hR1 := Later.of_drewN hR1 | replace hR1 := Later.of_alloc hR1)
      have HL10 := hid (Later.trans _ _ _ HL9.out hR1)
      replace p1 := hR1.cell p1
      replace q1 := hR1.cell q1
      clear hR1 p2 q2
      cases hs : sameV x.vals y.vals with
      | false =>
        have HS : Hid (sameR a b = false) := hid (HQ.out.trans (by rw [HD1.out, HD2.out]; simp [sameR, hs]))
        clear hs
        go_wp2_with fail
        refine wp_region_lex (by kernel_rfl) (by kernel_rfl) Later Later.refl Later.trans (fun _ => none) (fun _ _ _ _ _ h => by cases h) ?_
        simp only [numbered, Nat.reduceAdd]
        refine LexS.out ?_
        iterate 15
          first
          | (refine LexS.skip rfl ?_; simp only [Act.put, List.setIfInBounds_toArray, List.set])
          | (refine LexS.one' rfl rfl ?_
             apply Exists.intro
             refine ⟨fun w hR hF => ?_, ?_⟩
             · have hP := hR
               repeat (first | replace hP := Later.of_drew hP | replace hP := Later.of_drewN hP | replace hP := Later.of_alloc hP)
               have hcs := hR.cells
               have zp1 := hP.cell p1
               have zq1 := hP.cell q1
               clear hR hF hP
               go_simp
               first | done | rfl
             simp only [Act.put, List.setIfInBounds_toArray, List.set])
        refine LexS.nil ?_
        intro w2 hR2 hF9
        clear hF9
        repeat (first | replace hR2 := Later.of_drew hR2 | replace hR2 := Later.of_drewN hR2 | replace hR2 := Later.of_alloc hR2)
        have HL11 := hid (Later.trans _ _ _ HL10.out hR2)
        clear hR2 p1 q1
        go_wp2_with fail
        go_ret
        exact ⟨ret_bool HS.out.symm, HL11.out⟩
      | true =>
        by_cases ht : x.time = y.time
        · have HS : Hid (sameR a b = sameR (a.drop (n + 1)) (b.drop (n + 1))) := hid (HQ.out.trans (by rw [HD1.out, HD2.out]; simp [sameR, hs, ht]))
          have htt : (x.time != y.time) = false := by simp [ht]
          clear hs ht
          go_wp2_with fail
          refine wp_region_lex (by kernel_rfl) (by kernel_rfl) Later Later.refl Later.trans (fun _ => none) (fun _ _ _ _ _ h => by cases h) ?_
          simp only [numbered, Nat.reduceAdd]
          refine LexS.out ?_
          iterate 15
            first
            | (refine LexS.skip rfl ?_; simp only [Act.put, List.setIfInBounds_toArray, List.set])
            | (refine LexS.one' rfl rfl ?_
               apply Exists.intro
               refine ⟨fun w hR hF => ?_, ?_⟩
               · have hP := hR
                 repeat (first | replace hP := Later.of_drew hP | replace hP := Later.of_drewN hP | replace hP := Later.of_alloc hP)
                 have hcs := hR.cells
                 have zp1 := hP.cell p1
                 have zq1 := hP.cell q1
                 clear hR hF hP
                 go_simp
                 first | done | rfl
               simp only [Act.put, List.setIfInBounds_toArray, List.set])
          refine LexS.nil ?_
          intro w2 hR2 hF9
          clear hF9
          repeat (first | replace hR2 := Later.of_drew hR2 | replace hR2 := Later.of_drewN hR2 | replace hR2 := Later.of_alloc hR2)
          have HL11 := hid (Later.trans _ _ _ HL10.out hR2)
          clear hR2 p1 q1
          try simp only [htt]
          go_wp2_with fail
          have hw9 : wrap64 ((n : Int) + 1) = ((n + 1 : Nat) : Int) := by have := HN1.out; unfold wrap64; omega
          try simp only [hw9]
          refine Round.mk' HR1.out Hmu1.out rfl ?_ ?_
          · exact ⟨n + 1, HN1.out, rfl, HL11.out, HS.out⟩
          · rw [Hh5.out]; have := HN1.out; simp [intOf, slots]; omega
        · have HS : Hid (sameR a b = false) := hid (HQ.out.trans (by rw [HD1.out, HD2.out]; simp [sameR, hs, ht]))
          have htt : (x.time != y.time) = true := by simp [ht]
          clear hs ht
          go_wp2_with fail
          refine wp_region_lex (by kernel_rfl) (by kernel_rfl) Later Later.refl Later.trans (fun _ => none) (fun _ _ _ _ _ h => by cases h) ?_
          simp only [numbered, Nat.reduceAdd]
          refine LexS.out ?_
          iterate 15
            first
            | (refine LexS.skip rfl ?_; simp only [Act.put, List.setIfInBounds_toArray, List.set])
            | (refine LexS.one' rfl rfl ?_
               apply Exists.intro
               refine ⟨fun w hR hF => ?_, ?_⟩
               · have hP := hR
                 repeat (first | replace hP := Later.of_drew hP | replace hP := Later.of_drewN hP | replace hP := Later.of_alloc hP)
                 have hcs := hR.cells
                 have zp1 := hP.cell p1
                 have zq1 := hP.cell q1
                 clear hR hF hP
                 go_simp
                 first | done | rfl
               simp only [Act.put, List.setIfInBounds_toArray, List.set])
          refine LexS.nil ?_
          intro w2 hR2 hF9
          clear hF9
          repeat (first | replace hR2 := Later.of_drew hR2 | replace hR2 := Later.of_drewN hR2 | replace hR2 := Later.of_alloc hR2)
          have HL11 := hid (Later.trans _ _ _ HL10.out hR2)
          clear hR2 p1 q1
          try simp only [htt]
          go_wp2_with fail
          go_ret
          exact ⟨ret_bool HS.out.symm, HL11.out⟩
    · have hn : n = a.length := by have := HN.out; omega
      have HS : Hid (sameR a b = true) := hid (HQ.out.trans (by have := HL.out; rw [List.drop_of_length_le (by omega), List.drop_of_length_le (by omega)]; rfl))
      clear hn
      go_wp2_with fail
      go_ret
      exact ⟨ret_bool HS.out.symm, HL9.out⟩
  · have HS : Hid (sameR a b = false) := hid (by
      cases h : sameR a b with
      | false => rfl
      | true => exact absurd (sameR_len a b h) h0)
    have hd0 : ((a.length : Int) != b.length) = true := by simp; omega
    clear h0
    go_enter Tryd.func41, Tryd.ntmps41
    go_wp2_with fail
    go_ret
    exact ⟨ret_bool HS.out.symm, Later.refl _⟩
end Go.Proofs.YtcmpjdnbjhkhdaaDoor
