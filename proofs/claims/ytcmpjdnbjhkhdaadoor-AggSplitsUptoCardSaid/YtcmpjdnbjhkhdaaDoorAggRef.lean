/-
  PROVED HERE: the contract of the document's Fold.
-/
import Derived.Test.YtcmpjdnbjhkhdaaDoorAggTimed
import Derived.Test.YtcmpjdnbjhkhdaaDoorAggBetter
namespace Go.Proofs.YtcmpjdnbjhkhdaaDoor
set_option linter.unusedSimpArgs false
set_option linter.unusedVariables false
open Go.RowKit

attribute [local go_sem high] run_eql_val' run_neq_val'
def RefTo (kind : Int) (l : List TV) (w : World) (e : Ending) (w' : World) : Prop := e = .returned (foldV kind l).v ∧ Later w w'
/-- what the first loop has gathered. -/
def Gath (w1 wx : World) (vg : Value) (s : List TV) : Prop := wx.ownsRow w1.heap.size 36 4 vg s.length (timedCells s) ∧ Later w1 wx
set_option maxRecDepth 100000 in
set_option maxHeartbeats 4000000 in
theorem ref_fold (kind : Int) (h1 : 1 ≤ kind) (h7 : kind ≤ 7) (l : List TV) (v : Value) (w : World) (hv : IsTimeds w v l) (hlen : l.length * 40 ≤ 140737488355328) : Calls Tryd.prog 13 #[.int .i64 kind, v] w (RefTo kind l w) := by
  obtain ⟨p, c, rfl, hlc, hcm, -, he⟩ := hv
  have HE := hid he; have H1 := hid h1; have H7 := hid h7; have HLEN := hid hlen
  clear he hlc hcm h1 h7 hlen
  go_enter Tryd.func13, Tryd.ntmps13
  go_upto_region 2 with (fail)
  obtain ⟨w1, hw1⟩ : ∃ w1, w1 = w.alloc (.cells #[.int .i64 0, .int .i64 0, .string ⟨#[]⟩] 25 (0, 0)) := ⟨_, rfl⟩
  obtain ⟨R, hR⟩ : ∃ R, R = w.heap.size := ⟨_, rfl⟩
  have HL1 : Hid (Later w w1) := hid (by rw [hw1]; exact Later.alloc _ _)
  have HP : Hid (w1.heap[R]? = some (.cells #[.int .i64 0, .int .i64 0, .string ⟨#[]⟩] 25 (0, 0))) := hid (by rw [hw1, hR]; exact obj_new _ _)
  have HR := hid hR
  rw [← hw1, ← hR]
  clear hw1 hR
  go_wp2_with fail
  obtain ⟨R1, hR1⟩ : ∃ RR_ : (Nat → Value) → World → Prop, RR_ = (fun us wx => ∃ (n : Nat) (vg : Value), us 6 = .int .i64 n ∧ us 5 = vg ∧ n ≤ l.length ∧ Gath w1 wx vg (some' (l.take n))) := ⟨_, rfl⟩
  obtain ⟨mu1, hmu1⟩ : ∃ mu : (Nat → Value) → World → Nat, mu = (fun us _ => l.length - (intOf (us 6)).toNat) := ⟨_, rfl⟩
  have HR1 := hid hR1; have Hmu1 := hid hmu1; clear hR1 hmu1
  refine wp_loop_frame' [false, false, false, false, false, true, true, false, false, false, false, false, false, false, false, false, false, true, true, true, true, true, true, true, true, true, true, true, true, true, true, true, true, true, true, true, true] R1 _ mu1 HR1.out ?_ ?_
  · exact ⟨0, _, rfl, rfl, Nat.zero_le _, ⟨rfl, .inl ⟨rfl, rfl⟩⟩, Later.refl _⟩
  intro us1 wx hrel
  obtain ⟨n, vg, h6, h5, hn, hg⟩ := hrel
  simp only [frameOf, Nat.reduceAdd, h6, h5]
  have Hh6 := hid h6; clear h6
  have Hh5 := hid h5; clear h5
  obtain ⟨ag, cg, rfl⟩ := ownsRow_slice hg.1
  have HN := hid hn; have HG := hid hg
  clear hn hg
  by_cases hnl : n < l.length
  · have HW : Hid (wrap64 ((n : Int) + 1) = ((n + 1 : Nat) : Int)) := hid (by have := HLEN.out; unfold wrap64; omega)
    obtain ⟨b1, o1, rfl, -, e1⟩ := HE.out n hnl
    obtain ⟨p0, p1, p2, p3⟩ := e1.later (Later.trans _ _ _ HL1.out HG.out.2)
    clear e1
    have hl1 : b1 < wx.heap.size := cell_lt p0
    have HTK : Hid (some' (l.take (n + 1)) = some' (l.take n) ++ (if l[n].val.k ≠ 0 then [l[n]] else [])) := hid (by
      unfold some'
      rw [List.take_succ_eq_append_getElem hnl, List.filter_append]
      congr 1
      by_cases h : l[n].val.k = 0 <;> simp [h])
    generalize l[n] = t at *
    obtain ⟨ti, tk, tn, tt⟩ := t
    by_cases hk : tk = 0
    · subst hk
      go_wp2_with fail
      rw [HW.out]
      refine Round.mk' HR1.out Hmu1.out rfl ?_ ?_
      · exact ⟨n + 1, _, rfl, rfl, hnl, by rw [HTK.out, if_neg (by simp), List.append_nil]; exact HG.out⟩
      · simp only [slots, List.getD_cons_succ, List.getD_cons_zero, Hh6.out, intOf, Int.toNat_natCast]
        omega
    · have hkb : (tk != 0) = true := by simpa using hk
      replace HTK : Hid (some' (l.take (n + 1)) = some' (l.take n) ++ [⟨ti, tk, tn, tt⟩]) := hid (by rw [HTK.out, if_pos hk])
      clear hk
      have HSL : Hid ((some' (l.take n)).length ≤ n) := hid (by unfold some'; have := List.length_filter_le (fun t : TV => decide (t.val.k ≠ 0)) (l.take n); rw [List.length_take] at this; omega)
      go_wp2_with (at_builtin; go_loud (refine wpList_append_objx rfl _ _ 22 rfl 36 4 40 Tryd.underlying22 timedElem rfl (owns_at HG.out.1 (Later.alloc _ _)) (news := TV.cells ⟨ti, ⟨tk, tn, tt⟩⟩) rfl (obj_at (by simp)) rfl (timed_ones _) ?d1 ?d2 ?d3 ?_))
      case d1 => have := HLEN.out; have := HSL.out; omega
      case d2 => have := HLEN.out; have := HSL.out; unfold maxLen; omega
      case d3 => have := HG.out.2.size; first | omega | (simp only [World.size_alloc]; omega)
      intro v7 w7 hA7
      have hal := Later.alloc wx (.cells (TV.cells ⟨ti, ⟨tk, tn, tt⟩⟩).toArray 36 (0, 0))
      have hG7 : Gath w1 w7 v7 (some' (l.take (n + 1))) := by
        refine ⟨?_, later_keep (Later.trans _ _ _ HG.out.2 hal) (hA7.low (owns_at HG.out.1 hal)) (Nat.le_refl _)⟩
        rw [HTK.out, timedCells_app, List.length_append]
        exact hA7.own
      have HG7 := hid hG7
      clear hA7 hG7 hal
      go_wp2_with fail
      rw [HW.out]
      refine Round.mk' HR1.out Hmu1.out rfl ?_ ?_
      · exact ⟨n + 1, _, rfl, rfl, hnl, HG7.out⟩
      · simp only [slots, List.getD_cons_succ, List.getD_cons_zero, Hh6.out, intOf, Int.toNat_natCast]
        omega
  · have hnl' : n = l.length := by have := HN.out; omega
    subst hnl'
    obtain ⟨s, hs⟩ : ∃ s, s = some' l := ⟨_, rfl⟩
    have HS := hid hs
    have HG2 : Hid (Gath w1 wx (.slice ag s.length cg) s) := hid (by have := HG.out; rw [List.take_length] at this; rw [hs]; exact this)
    have hsl : (some' (l.take l.length)).length = s.length := by rw [List.take_length, hs]
    rw [hsl] at Hh5
    have HSL : Hid (s.length ≤ l.length) := hid (by rw [hs]; exact List.length_filter_le _ _)
    rw [hsl]
    clear hs HG hsl
    go_upto_region 7 with (fail)
    have HPX := hid (HG2.out.2.obj HP.out)
    have HLX := hid (Later.trans _ _ _ HL1.out HG2.out.2)
    have HES := hid (owned_elems HG2.out.1)
    clear HG2 HE
    by_cases hk1 : kind = 1
    · subst hk1
      have q0 := cell_obj (i := 0) HPX.out rfl
      have q1 := cell_obj (i := 1) HPX.out rfl
      have q2 := cell_obj (i := 2) HPX.out rfl
      have f0 := free_obj (i := 0) HPX.out
      have f1 := free_obj (i := 1) HPX.out
      have f2 := free_obj (i := 2) HPX.out
      have hl := cell_lt q0
      go_wp2_with fail
      clear q0 q1 q2 f0 f1 f2
      obtain ⟨wf, hwf⟩ : ∃ wf, wf = put3 wx R (intV l.length) := ⟨_, rfl⟩
      obtain ⟨e0, e1, e2⟩ := put3_cells HPX.out (intV l.length)
      have HPF := hid (put3_later HLX.out (Nat.le_of_eq HR.out.symm) (intV l.length))
      rw [← hwf] at e0 e1 e2 HPF
      change bodyPost _ _ _ _ _ (put3 wx R (intV l.length))
      rw [← hwf]
      clear hwf
      exact bodyPost_ret (v := (intV l.length).v) (by simp [results, Tryd.results13, go_sem, e0, e1, e2]) rfl ⟨rfl, HPF.out⟩
    by_cases hk2 : kind = 2
    · subst hk2
      clear hk1
      go_wp2_with fail
      obtain ⟨R2, hR2⟩ : ∃ RR_ : (Nat → Value) → World → Prop, RR_ = (fun us wy => ∃ n : Nat, us 9 = .int .i64 n ∧ us 7 = .int .i64 ((s.take n).foldl sumP (0, 0)).2 ∧ us 8 = .int .i64 ((s.take n).foldl sumP (0, 0)).1 ∧ n ≤ s.length ∧ Later wx wy) := ⟨_, rfl⟩
      obtain ⟨mu2, hmu2⟩ : ∃ mu : (Nat → Value) → World → Nat, mu = (fun us _ => s.length - (intOf (us 9)).toNat) := ⟨_, rfl⟩
      have HR2 := hid hR2; have Hmu2 := hid hmu2; clear hR2 hmu2
      refine wp_loop_frame' [false, false, false, false, false, false, false, true, true, true, false, false, false, false, false, false, false, false, false, false, false, false, false, false, false, false, false, false, false, false, false, false, false, false, false, false, false, false, false, false, false, false, false, false, false, true, true, true, true, true, true, true, true, true, true, true, true, true, true, true, true, true, true, true, true, true, true, true] R2 _ mu2 HR2.out ?_ ?_
      · exact ⟨0, rfl, rfl, rfl, Nat.zero_le _, Later.refl _⟩
      intro us2 wy hrel
      obtain ⟨n, h9, h7, h8, hn, hL⟩ := hrel
      simp only [frameOf, Nat.reduceAdd, h9, h7, h8]
      have Hh9 := hid h9; clear h9
      have Hh7 := hid h7; clear h7
      have Hh8 := hid h8; clear h8
      have HN2 := hid hn; have HLY := hid hL
      clear hn hL
      by_cases hnl : n < s.length
      · have HW : Hid (wrap64 ((n : Int) + 1) = ((n + 1 : Nat) : Int)) := hid (by have := HLEN.out; have := HSL.out; unfold wrap64; omega)
        obtain ⟨b1, o1, rfl, -, e1⟩ := HES.out n hnl
        obtain ⟨p0, p1, p2, p3⟩ := e1.later HLY.out
        clear e1
        have hl1 : b1 < wy.heap.size := cell_lt p0
        have HTK : Hid ((s.take (n + 1)).foldl sumP (0, 0) = sumP ((s.take n).foldl sumP (0, 0)) s[n]) := hid (by rw [List.take_succ_eq_append_getElem hnl, List.foldl_append]; rfl)
        generalize s[n] = t at *
        obtain ⟨ti, tk, tn, tt⟩ := t
        generalize hst : (s.take n).foldl sumP (0, 0) = st at *
        obtain ⟨c1, s1⟩ := st
        by_cases hk : tk = 1
        · subst hk
          go_wp2_with fail
          rw [HW.out]
          refine Round.mk' HR2.out Hmu2.out rfl ?_ ?_
          · exact ⟨n + 1, rfl, by rw [HTK.out]; rfl, by rw [HTK.out]; rfl, hnl, HLY.out⟩
          · simp only [slots, List.getD_cons_succ, List.getD_cons_zero, Hh9.out, intOf, Int.toNat_natCast]
            omega
        · have hkb : (tk == 1) = false := beq_eq_false_iff_ne.2 hk
          have HTK2 : Hid ((s.take (n + 1)).foldl sumP (0, 0) = (c1, s1)) := hid (by rw [HTK.out]; unfold sumP; rw [if_neg hk])
          clear hk HTK
          go_wp2_with fail
          rw [HW.out]
          refine Round.mk' HR2.out Hmu2.out rfl ?_ ?_
          · exact ⟨n + 1, rfl, by rw [HTK2.out]; rfl, by rw [HTK2.out]; rfl, hnl, HLY.out⟩
          · simp only [slots, List.getD_cons_succ, List.getD_cons_zero, Hh9.out, intOf, Int.toNat_natCast]
            omega
      · have hnl' : n = s.length := by have := HN2.out; omega
        subst hnl'
        have HV : Hid (sumV (s.foldl sumP (0, 0)) = foldV 2 l) := hid (by rw [HS.out]; exact foldV_sum l)
        rw [List.take_length] at Hh7 Hh8 ⊢
        generalize s.foldl sumP (0, 0) = st at *
        obtain ⟨c1, s1⟩ := st
        have HPY := hid (HLY.out.obj HPX.out)
        have HLZ := hid (Later.trans _ _ _ HLX.out HLY.out)
        by_cases hc : c1 = 0
        · subst hc
          replace HV : Hid (foldV 2 l = nilV) := hid (by rw [← HV.out]; rfl)
          have q0 := cell_obj (i := 0) HPY.out rfl
          have q1 := cell_obj (i := 1) HPY.out rfl
          have q2 := cell_obj (i := 2) HPY.out rfl
          have f0 := free_obj (i := 0) HPY.out
          have f1 := free_obj (i := 1) HPY.out
          have f2 := free_obj (i := 2) HPY.out
          have hl := cell_lt q0
          go_wp2_with fail
          clear q0 q1 q2 f0 f1 f2
          obtain ⟨wf, hwf⟩ : ∃ wf, wf = put3 wy R nilV := ⟨_, rfl⟩
          obtain ⟨e0, e1, e2⟩ := put3_cells HPY.out nilV
          have HPF := hid (put3_later HLZ.out (Nat.le_of_eq HR.out.symm) nilV)
          rw [← hwf] at e0 e1 e2 HPF
          change bodyPost _ _ _ _ _ (put3 wy R nilV)
          rw [← hwf]
          clear hwf
          exact bodyPost_ret (v := nilV.v) (by simp [results, Tryd.results13, go_sem, e0, e1, e2]) rfl ⟨by rw [HV.out], HPF.out⟩
        · replace HV : Hid (foldV 2 l = intV s1) := hid (by rw [← HV.out]; unfold sumV; rw [if_neg hc])
          have hcb : (c1 == 0) = false := beq_eq_false_iff_ne.2 hc
          clear hc
          have q0 := cell_obj (i := 0) HPY.out rfl
          have q1 := cell_obj (i := 1) HPY.out rfl
          have q2 := cell_obj (i := 2) HPY.out rfl
          have f0 := free_obj (i := 0) HPY.out
          have f1 := free_obj (i := 1) HPY.out
          have f2 := free_obj (i := 2) HPY.out
          have hl := cell_lt q0
          go_wp2_with fail
          clear q0 q1 q2 f0 f1 f2
          obtain ⟨wf, hwf⟩ : ∃ wf, wf = put3 wy R (intV s1) := ⟨_, rfl⟩
          obtain ⟨e0, e1, e2⟩ := put3_cells HPY.out (intV s1)
          have HPF := hid (put3_later HLZ.out (Nat.le_of_eq HR.out.symm) (intV s1))
          rw [← hwf] at e0 e1 e2 HPF
          change bodyPost _ _ _ _ _ (put3 wy R (intV s1))
          rw [← hwf]
          clear hwf
          exact bodyPost_ret (v := (intV s1).v) (by simp [results, Tryd.results13, go_sem, e0, e1, e2]) rfl ⟨by rw [HV.out], HPF.out⟩
    by_cases hk7 : kind = 7
    · subst hk7
      clear hk1 hk2
      have HSK : Hid (∀ t ∈ s, t.val.k ≠ 0) := hid (by rw [HS.out]; exact fun t h => some_ne h)
      go_wp2_with fail
      obtain ⟨R3, hR3⟩ : ∃ RR_ : (Nat → Value) → World → Prop, RR_ = (fun us wy => ∃ n : Nat, us 11 = .int .i64 n ∧ us 10 = .int .i64 (setOf (s.take n)).length ∧ n ≤ s.length ∧ Later wx wy) := ⟨_, rfl⟩
      obtain ⟨mu3, hmu3⟩ : ∃ mu : (Nat → Value) → World → Nat, mu = (fun us _ => s.length - (intOf (us 11)).toNat) := ⟨_, rfl⟩
      have HR3 := hid hR3; have Hmu3 := hid hmu3; clear hR3 hmu3
      refine wp_loop_frame' [false, false, false, false, false, false, false, false, false, false, true, true, true, true, false, false, false, false, false, false, false, false, false, false, false, false, false, false, false, false, false, false, false, false, false, false, false, false, false, false, false, false, false, false, false, false, false, false, false, false, false, false, false, false, false, false, false, false, false, false, false, false, false, false, false, false, false, false, false, false, false, false, false, false, false, true, true, true, true, true, true, true, true, true, true, true, true, true, true, true, true, true, true, true, true, true, true, true, true, true, true, true, true] R3 _ mu3 HR3.out ?_ ?_
      · exact ⟨0, rfl, rfl, Nat.zero_le _, Later.refl _⟩
      intro us3 wy hrel
      obtain ⟨n, h11, h10, hn, hL⟩ := hrel
      simp only [frameOf, Nat.reduceAdd, h11, h10]
      have Hh11 := hid h11; clear h11
      have Hh10 := hid h10; clear h10
      have HN3 := hid hn; have HLY := hid hL
      clear hn hL
      by_cases hnl : n < s.length
      · have HNL := hid hnl
        go_wp2_with fail
        obtain ⟨R4, hR4⟩ : ∃ RR_ : (Nat → Value) → World → Prop, RR_ = (fun us wz => ∃ j : Nat, us 13 = .int .i64 j ∧ us 12 = .bool (freshV (s.take j) s[n]) ∧ j ≤ n ∧ Later wx wz) := ⟨_, rfl⟩
        obtain ⟨mu4, hmu4⟩ : ∃ mu : (Nat → Value) → World → Nat, mu = (fun us _ => n - (intOf (us 13)).toNat) := ⟨_, rfl⟩
        have HR4 := hid hR4; have Hmu4 := hid hmu4; clear hR4 hmu4
        refine wp_loop_frame' [false, false, false, false, false, false, false, false, false, false, false, false, true, true, false, false, false, false, false, false, false, false, false, false, false, false, false, false, false, false, false, false, false, false, false, false, false, false, false, false, false, false, false, false, false, false, false, false, false, false, false, false, false, false, false, false, false, false, false, false, false, false, false, false, false, false, false, false, false, false, false, false, false, false, false, false, false, false, false, false, false, true, true, true, true, true, true, true, true, true, true, true, true, true, true, true, true, true, true, true] R4 _ mu4 HR4.out ?_ ?_
        · exact ⟨0, rfl, rfl, Nat.zero_le _, HLY.out⟩
        intro us4 wz hrel
        obtain ⟨j, h13, h12, hj, hL⟩ := hrel
        simp only [frameOf, Nat.reduceAdd, h13, h12]
        have Hh13 := hid h13; clear h13
        have Hh12 := hid h12; clear h12
        have HJ := hid hj; have HLZ := hid hL
        clear hj hL
        by_cases hjn : j < n
        · have hjl : j < s.length := by omega
          have HWJ : Hid (wrap64 ((j : Int) + 1) = ((j + 1 : Nat) : Int)) := hid (by have := HLEN.out; have := HSL.out; unfold wrap64; omega)
          obtain ⟨b1, o1, rfl, -, e1⟩ := HES.out j hjl
          obtain ⟨b2, o2, hb, -, e2⟩ := HES.out n hnl
          simp only [Option.some.injEq, Addr.mk.injEq, and_true] at hb
          obtain ⟨rfl, rfl⟩ := hb
          obtain ⟨-, p1, p2, p3⟩ := e1.later HLZ.out
          obtain ⟨-, q1, q2, q3⟩ := e2.later HLZ.out
          clear e1 e2
          have hl1 : b1 < wz.heap.size := cell_lt p1
          have HTK : Hid (freshV (s.take (j + 1)) s[n] = (freshV (s.take j) s[n] && !eqV s[j].val s[n].val)) := hid (by rw [List.take_succ_eq_append_getElem hjl, freshV_snoc])
          generalize s[n] = t at *
          obtain ⟨ti, tk, tn, tt⟩ := t
          generalize s[j] = u at *
          obtain ⟨ui, uk, un, ut⟩ := u
          generalize hfr : freshV (s.take j) ⟨ti, ⟨tk, tn, tt⟩⟩ = fr at *
          clear hfr
          cases fr with
          | true =>
            go_upto_region 31 with (fail)
            refine wp_region_lex (by kernel_rfl) (by kernel_rfl) Later Later.refl Later.trans (fun _ => none) (fun _ _ _ _ _ h => by cases h) ?_
            simp only [numbered, Nat.reduceAdd]
            refine LexS.out ?_
            iterate 15
              first
              | (refine LexS.skip rfl ?_; simp only [Act.put, List.setIfInBounds_toArray, List.set])
              | (refine LexS.one' rfl rfl ?_
                 apply Exists.intro
                 refine ⟨fun w hR hF => ?_, ?_⟩
                 · have hP := hR
                   repeat (first | replace hP := Later.of_drew hP | replace hP := Later.of_drewN hP | replace hP := Later.of_alloc hP)
                   have hcs := hR.cells
                   have zp1 := hP.cell p1
                   have zp2 := hP.cell p2
                   have zp3 := hP.cell p3
                   have zq1 := hP.cell q1
                   have zq2 := hP.cell q2
                   have zq3 := hP.cell q3
                   clear hR hF hP
                   go_simp
                   first | done | rfl
                 simp only [Act.put, List.setIfInBounds_toArray, List.set])
            refine LexS.nil ?_
            intro w2 hR2 hF9
            clear hF9
            repeat (first | replace hR2 := Later.of_drew hR2 | replace hR2 := Later.of_drewN hR2 | replace hR2 := Later.of_alloc hR2)
            have HL2 := hid (Later.trans _ _ _ HLZ.out hR2)
            clear hR2 p1 p2 p3 q1 q2 q3 hl1
            go_wp2_with fail
            rw [HWJ.out]
            refine Round.mk' HR4.out Hmu4.out rfl ?_ ?_
            · exact ⟨j + 1, rfl, by rw [HTK.out]; rfl, hjn, HL2.out⟩
            · simp only [slots, List.getD_cons_succ, List.getD_cons_zero, Hh13.out, intOf, Int.toNat_natCast]
              omega
          | false =>
            go_upto_region 31 with (fail)
            refine wp_region_lex (by kernel_rfl) (by kernel_rfl) Later Later.refl Later.trans (fun _ => none) (fun _ _ _ _ _ h => by cases h) ?_
            simp only [numbered, Nat.reduceAdd]
            refine LexS.out ?_
            iterate 15
              first
              | (refine LexS.skip rfl ?_; simp only [Act.put, List.setIfInBounds_toArray, List.set])
              | (refine LexS.one' rfl rfl ?_
                 apply Exists.intro
                 refine ⟨fun w hR hF => ?_, ?_⟩
                 · have hP := hR
                   repeat (first | replace hP := Later.of_drew hP | replace hP := Later.of_drewN hP | replace hP := Later.of_alloc hP)
                   have hcs := hR.cells
                   clear hR hF hP
                   go_simp
                   first | done | rfl
                 simp only [Act.put, List.setIfInBounds_toArray, List.set])
            refine LexS.nil ?_
            intro w2 hR2 hF9
            clear hF9
            repeat (first | replace hR2 := Later.of_drew hR2 | replace hR2 := Later.of_drewN hR2 | replace hR2 := Later.of_alloc hR2)
            have HL2 := hid (Later.trans _ _ _ HLZ.out hR2)
            clear hR2 p1 p2 p3 q1 q2 q3 hl1
            go_wp2_with fail
            rw [HWJ.out]
            refine Round.mk' HR4.out Hmu4.out rfl ?_ ?_
            · exact ⟨j + 1, rfl, by rw [HTK.out]; rfl, hjn, HL2.out⟩
            · simp only [slots, List.getD_cons_succ, List.getD_cons_zero, Hh13.out, intOf, Int.toNat_natCast]
              omega
        · have hjn' : j = n := by have := HJ.out; omega
          subst hjn'
          have HW : Hid (wrap64 ((j : Int) + 1) = ((j + 1 : Nat) : Int)) := hid (by have := HLEN.out; have := HSL.out; unfold wrap64; omega)
          have hsl := setOf_len (s.take j)
          rw [List.length_take] at hsl
          have HTK : Hid ((setOf (s.take (j + 1))).length = (setOf (s.take j)).length + if freshV (s.take j) s[j] then 1 else 0) := hid (by
            rw [List.take_succ_eq_append_getElem hnl]
            exact setOf_snoc_len _ (fun t ht => HSK.out t (List.mem_of_mem_take ht)) _ (HSK.out _ (List.getElem_mem _)))
          have HWC : Hid (wrap64 (((setOf (s.take j)).length : Int) + 1) = (((setOf (s.take j)).length + 1 : Nat) : Int)) := hid (by have := HLEN.out; have := HSL.out; unfold wrap64; omega)
          clear hsl hjn
          generalize hfr : freshV (s.take j) s[j] = fr at *
          clear hfr
          cases fr with
          | true =>
            go_wp2_with fail
            rw [HW.out, HWC.out]
            refine Round.mk' HR3.out Hmu3.out rfl ?_ ?_
            · exact ⟨j + 1, rfl, by rw [HTK.out]; rfl, HNL.out, HLZ.out⟩
            · simp only [slots, List.getD_cons_succ, List.getD_cons_zero, Hh11.out, intOf, Int.toNat_natCast]
              have := HNL.out
              omega
          | false =>
            go_wp2_with fail
            rw [HW.out]
            refine Round.mk' HR3.out Hmu3.out rfl ?_ ?_
            · exact ⟨j + 1, rfl, by rw [HTK.out]; rfl, HNL.out, HLZ.out⟩
            · simp only [slots, List.getD_cons_succ, List.getD_cons_zero, Hh11.out, intOf, Int.toNat_natCast]
              have := HNL.out
              omega
      · have hnl' : n = s.length := by have := HN3.out; omega
        subst hnl'
        have HV : Hid (foldV 7 l = intV (setOf s).length) := hid (by rw [HS.out]; exact (foldV_set l).symm)
        rw [List.take_length] at Hh10 ⊢
        have HPY := hid (HLY.out.obj HPX.out)
        have HLZ := hid (Later.trans _ _ _ HLX.out HLY.out)
        have q0 := cell_obj (i := 0) HPY.out rfl
        have q1 := cell_obj (i := 1) HPY.out rfl
        have q2 := cell_obj (i := 2) HPY.out rfl
        have f0 := free_obj (i := 0) HPY.out
        have f1 := free_obj (i := 1) HPY.out
        have f2 := free_obj (i := 2) HPY.out
        have hl := cell_lt q0
        go_wp2_with fail
        clear q0 q1 q2 f0 f1 f2
        obtain ⟨wf, hwf⟩ : ∃ wf, wf = put3 wy R (intV (setOf s).length) := ⟨_, rfl⟩
        obtain ⟨e0, e1, e2⟩ := put3_cells HPY.out (intV (setOf s).length)
        have HPF := hid (put3_later HLZ.out (Nat.le_of_eq HR.out.symm) (intV (setOf s).length))
        rw [← hwf] at e0 e1 e2 HPF
        change bodyPost _ _ _ _ _ (put3 wy R (intV (setOf s).length))
        rw [← hwf]
        clear hwf
        exact bodyPost_ret (v := (intV (setOf s).length).v) (by simp [results, Tryd.results13, go_sem, e0, e1, e2]) rfl ⟨by rw [HV.out], HPF.out⟩
    have HK36 : Hid (3 ≤ kind ∧ kind ≤ 6) := hid (by have := H1.out; have := H7.out; omega)
    have hk1' : (kind == 1) = false := beq_eq_false_iff_ne.2 hk1
    have hk2' : (kind == 2) = false := beq_eq_false_iff_ne.2 hk2
    have hk7' : (kind == 7) = false := beq_eq_false_iff_ne.2 hk7
    clear hk1 hk2 hk7
    have HV : Hid (foldV kind l = (chooseR (betterR kind) s).val) := hid (by rw [HS.out]; exact (ref_choose HK36.out l).symm)
    clear H1 H7
    by_cases hs0 : s.length = 0
    · have hs : s = [] := List.eq_nil_of_length_eq_zero hs0
      subst hs
      clear hs0
      have q0 := cell_obj (i := 0) HPX.out rfl
      have q1 := cell_obj (i := 1) HPX.out rfl
      have q2 := cell_obj (i := 2) HPX.out rfl
      have f0 := free_obj (i := 0) HPX.out
      have f1 := free_obj (i := 1) HPX.out
      have f2 := free_obj (i := 2) HPX.out
      have hl := cell_lt q0
      go_wp2_with fail
      clear q0 q1 q2 f0 f1 f2
      obtain ⟨wf, hwf⟩ : ∃ wf, wf = put3 wx R nilV := ⟨_, rfl⟩
      obtain ⟨e0, e1, e2⟩ := put3_cells HPX.out nilV
      have HPF := hid (put3_later HLX.out (Nat.le_of_eq HR.out.symm) nilV)
      rw [← hwf] at e0 e1 e2 HPF
      change bodyPost _ _ _ _ _ (put3 wx R nilV)
      rw [← hwf]
      clear hwf
      exact bodyPost_ret (v := nilV.v) (by simp [results, Tryd.results13, go_sem, e0, e1, e2]) rfl ⟨by rw [HV.out]; rfl, HPF.out⟩
    · have hs1 : ¬ ((s.length : Int) = 0) := by omega
      have h0l : 0 < s.length := by omega
      obtain ⟨b1, o1, rfl, -, e1⟩ := HES.out 0 h0l
      obtain ⟨p0, p1, p2, p3⟩ := e1
      simp only [Nat.zero_mul, Nat.add_zero] at p0 p1 p2 p3
      have hl1 : b1 < wx.heap.size := cell_lt p0
      have HC0 : Hid (chooseR (betterR kind) (s.take 1) = s[0]) := hid (chooseR_one _ s h0l)
      generalize hx0 : s[0] = x0 at *
      clear hx0
      clear hs0
      go_upto_region 38 with (fail)
      obtain ⟨C, hC⟩ : ∃ C, C = wx.heap.size := ⟨_, rfl⟩
      obtain ⟨w2, hw2⟩ : ∃ w2, w2 = wx.alloc (.cells #[.int .i64 x0.time, .int .i64 x0.val.k, .int .i64 x0.val.n, .string x0.val.t] 36 (0, 0)) := ⟨_, rfl⟩
      have HC2 : Hid (w2.heap[C]? = some (.cells x0.cells.toArray 36 (0, 0))) := hid (by rw [hw2, hC]; exact obj_new _ _)
      have HL2 : Hid (Later wx w2) := hid (by rw [hw2]; exact Later.alloc _ _)
      have HCS := hid hC
      rw [← hw2, ← hC]
      clear hw2 hC p0 p1 p2 p3 hl1
      go_wp2_with fail
      obtain ⟨R5, hR5⟩ : ∃ RR_ : (Nat → Value) → World → Prop, RR_ = (fun us wz => ∃ n : Nat, us 15 = .int .i64 n ∧ 1 ≤ n ∧ n ≤ s.length ∧ wz.heap[C]? = some (.cells (chooseR (betterR kind) (s.take n)).cells.toArray 36 (0, 0)) ∧ Keeps (fun b => b ≠ C) w2 wz) := ⟨_, rfl⟩
      obtain ⟨mu5, hmu5⟩ : ∃ mu : (Nat → Value) → World → Nat, mu = (fun us _ => s.length - (intOf (us 15)).toNat) := ⟨_, rfl⟩
      have HR5 := hid hR5; have Hmu5 := hid hmu5; clear hR5 hmu5
      refine wp_loop_frame' [false, false, false, false, false, false, false, false, false, false, false, false, false, false, false, true, true, false, false, false, false, false, false, false, false, false, false, false, false, false, false, false, false, false, false, false, false, false, false, false, false, false, false, false, false, false, false, false, false, false, false, false, false, false, false, false, false, false, false, false, false, false, false, false, false, false, false, false, false, false, false, false, false, false, false, false, false, false, false, false, false, false, false, false, false, false, false, false, false, false, false, false, false, false, false, false, false, false, false, false, false, false, false, false, false, false, false, false, false, false, false, false, true, true, true, true, true, true, true, true, true, true, true, true, true, true, true, true, true, true] R5 _ mu5 HR5.out ?_ ?_
      · exact ⟨1, rfl, Nat.le_refl _, h0l, by rw [HC0.out]; exact HC2.out, Keeps.refl _ _⟩
      intro us5 wz hrel
      obtain ⟨n, h15, hn1, hn, hcell, hk⟩ := hrel
      simp only [frameOf, Nat.reduceAdd, h15]
      have Hh15 := hid h15; clear h15
      have HN1 := hid hn1; have HN5 := hid hn; have HCE := hid hcell; have HK := hid hk
      clear hn1 hn hcell hk
      by_cases hnl : n < s.length
      · have HW : Hid (wrap64 ((n : Int) + 1) = ((n + 1 : Nat) : Int)) := hid (by have := HLEN.out; have := HSL.out; unfold wrap64; omega)
        obtain ⟨b2, o2, hb, -, e2⟩ := HES.out n hnl
        simp only [Option.some.injEq, Addr.mk.injEq, and_true] at hb
        obtain ⟨rfl, rfl⟩ := hb
        have hbx : b1 < wx.heap.size := e2.lt
        obtain ⟨p0, p1, p2, p3⟩ := (e2.later HL2.out).kept (by have := HCS.out; omega) HK.out
        clear e2
        have hl1 : b1 < wz.heap.size := cell_lt p0
        have HTK : Hid (chooseR (betterR kind) (s.take (n + 1)) = if betterR kind (chooseR (betterR kind) (s.take n)) s[n] then s[n] else chooseR (betterR kind) (s.take n)) := hid (by
          rw [List.take_succ_eq_append_getElem hnl]
          exact chooseR_snoc _ _ (fun h => by have := congrArg List.length h; rw [List.length_take, List.length_nil] at this; have := HN1.out; omega) _)
        generalize s[n] = t at *
        obtain ⟨ti, tk, tn, tt⟩ := t
        generalize chooseR (betterR kind) (s.take n) = y at *
        obtain ⟨yi, yk, yn, yt⟩ := y
        have c0 := cell_obj (i := 0) HCE.out (v := .int .i64 yi) rfl
        have c1 := cell_obj (i := 1) HCE.out (v := .int .i64 yk) rfl
        have c2 := cell_obj (i := 2) HCE.out (v := .int .i64 yn) rfl
        have c3 := cell_obj (i := 3) HCE.out (v := .string yt) rfl
        have hl2 := cell_lt c0
        go_upto_region 41 with (fail)
        refine wp_region_lex (by kernel_rfl) (by kernel_rfl) Later Later.refl Later.trans (kinds [(6, fun v _ => v = .bool (betterR kind ⟨yi, ⟨yk, yn, yt⟩⟩ ⟨ti, ⟨tk, tn, tt⟩⟩))]) (kinds_still (by simp +contextual)) ?_
        simp only [numbered, Nat.reduceAdd]
        refine LexS.out ?_
        iterate 6
          first
          | (refine LexS.skip rfl ?_; simp only [Act.put, List.setIfInBounds_toArray, List.set])
          | (refine LexS.one' rfl rfl ?_
             apply Exists.intro
             refine ⟨fun w hR hF => ?_, ?_⟩
             · have hP := hR
               repeat (first | replace hP := Later.of_drew hP | replace hP := Later.of_drewN hP | replace hP := Later.of_alloc hP)
               have hcs := hR.cells
               have zc0 := hP.cell c0
               have zc1 := hP.cell c1
               have zc2 := hP.cell c2
               have zc3 := hP.cell c3
               have zp0 := hP.cell p0
               have zp1 := hP.cell p1
               have zp2 := hP.cell p2
               have zp3 := hP.cell p3
               clear hR hF hP
               go_simp
               first | done | rfl
             simp only [Act.put, List.setIfInBounds_toArray, List.set])
        refine LexS.anyEq rfl rfl (fun w hR hF => ?_) ?_
        · have hP := hR
          repeat (first | replace hP := Later.of_drew hP | replace hP := Later.of_drewN hP | replace hP := Later.of_alloc hP)
          have hcs := hR.cells
          clear hF hR
          unfold Runs
          go_simp
          unfold Yield
          refine (better_any kind ⟨yi, ⟨yk, yn, yt⟩⟩ ⟨ti, ⟨tk, tn, tt⟩⟩ _).mono ?_
          rintro e w' ⟨rfl, hL⟩
          exact ⟨_, rfl, hL, rfl⟩
        simp only [Act.put, List.setIfInBounds_toArray, List.set]
        iterate 1
          first
          | (refine LexS.skip rfl ?_; simp only [Act.put, List.setIfInBounds_toArray, List.set])
          | (refine LexS.one' rfl rfl ?_
             apply Exists.intro
             refine ⟨fun w hR hF => ?_, ?_⟩
             · have hP := hR
               repeat (first | replace hP := Later.of_drew hP | replace hP := Later.of_drewN hP | replace hP := Later.of_alloc hP)
               have hcs := hR.cells
               clear hR hF hP
               go_simp
               first | done | rfl
             simp only [Act.put, List.setIfInBounds_toArray, List.set])
        refine LexS.nil ?_
        intro w3 hR3 hF9
        clear hF9
        repeat (first | replace hR3 := Later.of_drew hR3 | replace hR3 := Later.of_drewN hR3 | replace hR3 := Later.of_alloc hR3)
        have HL3 := hid hR3
        have HC3 := hid (HL3.out.obj HCE.out)
        have HK3 := hid (HK.out.more HL3.out)
        replace p0 := hR3.cell p0
        replace p1 := hR3.cell p1
        replace p2 := hR3.cell p2
        replace p3 := hR3.cell p3
        replace hl1 : b1 < w3.heap.size := cell_lt p0
        clear hR3 c0 c1 c2 c3 hl2
        generalize betterR kind ⟨yi, ⟨yk, yn, yt⟩⟩ ⟨ti, ⟨tk, tn, tt⟩⟩ = bb at *
        cases bb with
        | true =>
          have c0 := cell_obj (i := 0) HC3.out (v := .int .i64 yi) rfl
          have c1 := cell_obj (i := 1) HC3.out (v := .int .i64 yk) rfl
          have c2 := cell_obj (i := 2) HC3.out (v := .int .i64 yn) rfl
          have c3 := cell_obj (i := 3) HC3.out (v := .string yt) rfl
          have f0 := free_obj (i := 0) HC3.out
          have f1 := free_obj (i := 1) HC3.out
          have f2 := free_obj (i := 2) HC3.out
          have f3 := free_obj (i := 3) HC3.out
          have hl2 := cell_lt c0
          go_wp2_with fail
          rw [HW.out]
          refine Round.mk' HR5.out Hmu5.out rfl ?_ ?_
          · refine ⟨n + 1, rfl, Nat.le_succ_of_le HN1.out, hnl, ?_, ?_⟩
            · rw [HTK.out]
              exact obj_setCell (i := 3) (obj_setCell (i := 2) (obj_setCell (i := 1) (obj_setCell (i := 0) HC3.out (.int .i64 ti)) (.int .i64 tk)) (.int .i64 tn)) (.string tt)
            · exact (((HK3.out.setCell (p := ⟨C, 0, none⟩) (.inl fun h => h rfl) _).setCell (p := ⟨C, 1, none⟩) (.inl fun h => h rfl) _).setCell (p := ⟨C, 2, none⟩) (.inl fun h => h rfl) _).setCell (p := ⟨C, 3, none⟩) (.inl fun h => h rfl) _
          · simp only [slots, List.getD_cons_succ, List.getD_cons_zero, Hh15.out, intOf, Int.toNat_natCast]
            omega
        | false =>
          clear p0 p1 p2 p3 hl1
          go_wp2_with fail
          rw [HW.out]
          refine Round.mk' HR5.out Hmu5.out rfl ?_ ?_
          · exact ⟨n + 1, rfl, Nat.le_succ_of_le HN1.out, hnl, by rw [HTK.out]; exact HC3.out, HK3.out⟩
          · simp only [slots, List.getD_cons_succ, List.getD_cons_zero, Hh15.out, intOf, Int.toNat_natCast]
            omega
      · have hnl' : n = s.length := by have := HN5.out; omega
        subst hnl'
        replace HCE : Hid (wz.heap[C]? = some (.cells (chooseR (betterR kind) s).cells.toArray 36 (0, 0))) := hid (by have := HCE.out; rwa [List.take_length] at this)
        generalize chooseR (betterR kind) s = y at *
        obtain ⟨yi, yk, yn, yt⟩ := y
        have c1 := cell_obj (i := 1) HCE.out (v := .int .i64 yk) rfl
        have c2 := cell_obj (i := 2) HCE.out (v := .int .i64 yn) rfl
        have c3 := cell_obj (i := 3) HCE.out (v := .string yt) rfl
        have hl2 := cell_lt c1
        have HRC : Hid (R ≠ C) := hid (by
          have h1 : R < wx.heap.size := (Array.getElem?_eq_some_iff.1 HPX.out).1
          have := HCS.out
          omega)
        have HPY := hid (HK.out.obj HRC.out (HL2.out.obj HPX.out))
        have HLZ : Hid (Later w wz) := hid (((HLX.out.keeps (fun b => b ≠ C)).trans ((HL2.out.keeps _).trans HK.out)).mono (S' := fun _ => True) (fun k hk _ => by have := HLX.out.size; have := HCS.out; omega) |>.later)
        have q0 := cell_obj (i := 0) HPY.out rfl
        have q1 := cell_obj (i := 1) HPY.out rfl
        have q2 := cell_obj (i := 2) HPY.out rfl
        have f0 := free_obj (i := 0) HPY.out
        have f1 := free_obj (i := 1) HPY.out
        have f2 := free_obj (i := 2) HPY.out
        have hl := cell_lt q0
        go_wp2_with fail
        clear q0 q1 q2 f0 f1 f2 c1 c2 c3
        obtain ⟨wf, hwf⟩ : ∃ wf, wf = put3 wz R ⟨yk, yn, yt⟩ := ⟨_, rfl⟩
        obtain ⟨e0, e1, e2⟩ := put3_cells HPY.out ⟨yk, yn, yt⟩
        have HPF := hid (put3_later HLZ.out (Nat.le_of_eq HR.out.symm) ⟨yk, yn, yt⟩)
        rw [← hwf] at e0 e1 e2 HPF
        change bodyPost _ _ _ _ _ (put3 wz R ⟨yk, yn, yt⟩)
        rw [← hwf]
        clear hwf
        exact bodyPost_ret (v := Val.v ⟨yk, yn, yt⟩) (by simp [results, Tryd.results13, go_sem, e0, e1, e2]) rfl ⟨by rw [HV.out], HPF.out⟩
end Go.Proofs.YtcmpjdnbjhkhdaaDoor
