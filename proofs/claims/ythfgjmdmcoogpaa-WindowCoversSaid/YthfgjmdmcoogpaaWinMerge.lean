/-
  PROVED HERE: the contract of window.Merge.
-/
import Derived.Test.YthfgjmdmcoogpaaWinDelete
import Derived.IntWalk
import Derived.Test.YthfgjmdmcoogpaaWinSort
namespace Go.Proofs.Ythfgjmdmcoogpaa
set_option linter.unusedSimpArgs false
set_option linter.unusedVariables false
open Go.RowKit

theorem later_keep {w0 w w' : World} {B : Nat} (hL : Later w0 w) (k : Keeps (fun b => b < B) w w') (hB : w0.heap.size ≤ B) : Later w0 w' :=
  ((hL.keeps (fun b => b < B)).trans k).mono (S' := fun _ => True) (fun k hk _ => by omega) |>.later
theorem own_lt {w : World} {B s n b : Nat} {e : TypeId} {v : Value} {xs : List Value} (h : w.ownsRow B e s v n xs) (hb : b < B) : some b ≠ v.ownBlock := fun e => by have := (ownb h b e.symm).1; omega
set_option maxRecDepth 100000 in
set_option maxHeartbeats 4000000 in
theorem wmerge_any (l : List Win) (v : Value) (w : World) (hv : WinsIn (fun _ => True) w v l) (hl : l.length * 16 ≤ 140737488355328) :
    Calls Try.prog 6 #[v] w (MergedTo w l) := by
  have HV := hid hv; have HLL := hid hl
  obtain ⟨pv, cv, rfl, -⟩ := hv
  clear hl
  go_enter Try.func6, Try.ntmps6
  go_wp2_with fail
  refine (clone_wins l _ _ HV.out HLL.out).mono ?_
  rintro e w1 ⟨v1, rfl, ho1, hL1⟩
  obtain ⟨a1, c1, rfl⟩ := OwnW.slice ho1
  have HO1 := hid ho1; have HL1 := hid hL1
  clear ho1 hL1
  go_wp2_with fail
  refine (delete_wins w.heap.size a1 c1 l _ HO1.out HLL.out HL1.out.size).mono ?_
  rintro e w2 ⟨rfl, ho2, hk2⟩
  have HL2 := hid (later_keep HL1.out hk2 (Nat.le_refl _))
  have HO2 := hid ho2
  have HFL := hid (List.length_filter_le keepW l)
  obtain ⟨F, hF⟩ : ∃ F, F = l.filter keepW := ⟨_, rfl⟩
  rw [← hF] at HO2 HFL
  rw [← hF]
  have HF := hid hF
  clear ho2 hk2 HO1 HL1 hF
  go_wp2_with fail
  refine (sort_wins w.heap.size a1 c1 F _ HO2.out (by have := HFL.out; have := HLL.out; omega)).mono ?_
  rintro e w3 ⟨rfl, S, ho3, hp3, hs3, hk3⟩
  have HL3 := hid (later_keep HL2.out (hk3.mono (S' := fun b => b < w.heap.size) fun k _ hk => own_lt HO2.out hk) (Nat.le_refl _))
  have HSL : Hid (S.length = F.length) := hid hp3.length_eq
  have HSF : Hid (Full S ∧ SameC S l) := hid (by
    refine ⟨fun x hx => full_filter l x (by rw [← HF.out]; exact hp3.mem_iff.1 hx), (SameC.of_mem fun x => hp3.mem_iff).trans ?_⟩
    rw [HF.out]
    exact sameC_filter l)
  have HSS := hid hs3
  have HO3 := hid ho3
  rw [← HSL.out] at HO3
  rw [← HSL.out]
  have HN3 : Hid (S.length ≤ l.length) := hid (by rw [HSL.out]; exact HFL.out)
  clear ho3 hp3 hs3 hk3 HO2 HL2 HSL HF HFL
  have HB3 : Hid (w.heap.size ≤ w3.heap.size) := hid HL3.out.size
  obtain ⟨p3, c3, e3, -, -, -, he3⟩ := owned_wins HO3.out
  simp only [Value.slice.injEq, true_and] at e3
  obtain ⟨rfl, rfl⟩ := e3
  have HE3 := hid he3
  have HCC := hid (OwnW.len HO3.out)
  clear he3 HO3
  go_wp2_with fail
  obtain ⟨R1, hR1⟩ : ∃ RR_ : (Nat → Value) → World → Prop, RR_ = (fun us wx => ∃ (k : Nat) (O : List Win) (a : Option Addr) (c : Nat), us 16 = .int .i64 k ∧ us 4 = .slice a O.length c ∧ k ≤ S.length ∧ OwnW w3.heap.size wx (.slice a O.length c) O ∧ Swept (S.take k) O ∧ O.length ≤ k ∧ Later w3 wx) := ⟨_, rfl⟩
  obtain ⟨mu1, hmu1⟩ : ∃ mu : (Nat → Value) → World → Nat, mu = (fun us _ => S.length - (intOf (us 16)).toNat) := ⟨_, rfl⟩
  have HR1 := hid hR1; have Hmu1 := hid hmu1; clear hR1 hmu1
  refine wp_loop_frame' [false, false, false, false, true, false, true, true, false, false, false, false, false, false, false, false, true, true, true, true, true, true, true, true, true, true, true, true, true, true, true, true, true, true, true, true, true, true, true, true, true, true, true, true, true, true, true, true, true, true, true, true] R1 _ mu1 HR1.out ?_ ?_
  · exact ⟨0, [], none, 0, rfl, rfl, Nat.zero_le _, OwnW.nil _ _, by rw [List.take_zero]; exact Swept.nil, Nat.le_refl _, Later.refl _⟩
  intro us1 wx hrel
  obtain ⟨k, O, a, c, h16, h4, hk, ho, hsw, hok, hL⟩ := hrel
  simp only [frameOf, Nat.reduceAdd, h16, h4]
  have Hh16 := hid h16; clear h16
  have Hh4 := hid h4; clear h4
  have HO := hid ho; have HK := hid hk; have HSW := hid hsw; have HOK := hid hok; have HL := hid hL
  clear ho hk hsw hok hL
  by_cases hlt : k < S.length
  · have HLT := hid hlt
    obtain ⟨b, o, rfl, -, p1, p2⟩ := HE3.out k hlt
    replace p1 := HL.out.cell p1
    replace p2 := HL.out.cell p2
    have HX : ∃ x, Hid (S[k]'HLT.out = x) := ⟨_, hid rfl⟩
    obtain ⟨x, HX⟩ := HX
    have hxf : x.1 < x.2 := HX.out ▸ HSF.out.1 _ (List.getElem_mem _)
    have htk : S.take (k + 1) = S.take k ++ [x] := by rw [← HX.out, List.take_succ_eq_append_getElem HLT.out]
    have HXF := hid hxf; have HTK := hid htk
    rw [show S[k] = x from HX.out] at p1 p2
    have hlow : ∀ v ∈ S.take k, v.1 ≤ x.1 := fun v hv => by
      obtain ⟨i, hi, rfl⟩ := List.getElem_of_mem hv
      rw [List.getElem_take, ← HX.out]
      have hi' : i < k := by rw [List.length_take] at hi; omega
      exact List.pairwise_iff_getElem.1 HSS.out i k (by have := HLT.out; omega) HLT.out hi'
    have HLO := hid hlow
    have HWK : Hid (wrap64 ((k : Int) + 1) = ((k + 1 : Nat) : Int)) := hid (by have := HLT.out; have := HN3.out; have := HLL.out; unfold wrap64; omega)
    clear hxf htk hlow
    obtain ⟨x1, x2⟩ := x
    simp only at p1 p2
    go_upto_region 9 with (fail)
    obtain ⟨T, hT⟩ : ∃ T, T = wx.heap.size := ⟨_, rfl⟩
    obtain ⟨w4, hw4⟩ : ∃ w4, w4 = wx.alloc (.cells #[.int .i64 x1, .int .i64 x2] 24 (0, 0)) := ⟨_, rfl⟩
    have hT4 : w4.heap[T]? = some (.cells #[.int .i64 x1, .int .i64 x2] 24 (0, 0)) := by rw [hw4, hT]; exact obj_new _ _
    have hA4 : Later wx w4 := by rw [hw4]; exact Later.alloc _ _
    rw [← hw4, ← hT]
    have HL4 := hid (Later.trans _ _ _ HL.out hA4)
    have HO4 := hid (owns_at HO.out hA4)
    have HT4 := hid hT4
    have HGT : Hid (∀ g, a = some ⟨g, 0, none⟩ → g ≠ T) := hid (by rintro g rfl hh; have h := (ownb HO.out g rfl).2; rw [hh, hT] at h; exact Nat.lt_irrefl _ h)
    clear hw4 hT hA4 hT4 HL HO p1 p2
    have t0 := cell_obj (i := 0) HT4.out (v := .int .i64 x1) rfl
    have t1 := cell_obj (i := 1) HT4.out (v := .int .i64 x2) rfl
    rcases (show O = [] ∨ ∃ A z, O = A ++ [z] from (List.eq_nil_or_concat O).imp id fun ⟨A, z, h⟩ => ⟨A, z, by rw [h, List.concat_eq_append]⟩) with rfl | ⟨A, z, rfl⟩
    · simp only [List.length_nil]
      refine wp_region_lex (by kernel_rfl) (by kernel_rfl) Later Later.refl Later.trans (fun _ => none) (fun _ _ _ _ _ h => by cases h) ?_
      simp only [numbered, Nat.reduceAdd]
      refine LexS.out ?_
      iterate 11
        first
        | (refine LexS.skip rfl ?_; simp only [Act.put, List.setIfInBounds_toArray, List.set])
        | (refine LexS.one' rfl rfl ?_
           apply Exists.intro
           refine ⟨fun w hR hF => ?_, ?_⟩
           · have hP := hR
             repeat (first | replace hP := Later.of_drew hP | replace hP := Later.of_drewN hP | replace hP := Later.of_alloc hP)
             have hcs := hR.cells
             clear hR hF hP
             go_simp
             first | done | rfl
           simp only [Act.put, List.setIfInBounds_toArray, List.set])
      refine LexS.nil ?_
      intro w5 hR5 hF9
      clear hF9
      repeat (first | replace hR5 := Later.of_drew hR5 | replace hR5 := Later.of_drewN hR5 | replace hR5 := Later.of_alloc hR5)
      have HL5 := hid (Later.trans _ _ _ HL4.out hR5)
      have HO5 := hid (owns_at HO4.out hR5)
      replace t0 := hR5.cell t0
      replace t1 := hR5.cell t1
      clear hR5 HT4 HL4 HO4
      go_wp2_with (at_builtin; go_loud (refine wpList_append_obj rfl _ _ 22 rfl 24 2 16 Try.underlying22 infoWn rfl (owns_at HO5.out (Later.alloc _ _)) (news := [.int .i64 x1, .int .i64 x2]) rfl (obj_at (by simp)) rfl (win_one (x1, x2)) ?c1 ?c2 ?c3 ?_))
      case c2 => simp [maxLen]
      case c3 => have := HL5.out.size; have h2 := (Later.alloc w5 (.cells #[.int .i64 x1, .int .i64 x2] 24 (0, 0))).size; omega
      intro v7 w7 hA7
      have HL7 := hid (app_later (Later.trans _ _ _ HL5.out (Later.alloc _ _)) (owns_at HO5.out (Later.alloc _ _)) hA7 (Nat.le_refl _))
      obtain ⟨a7, c7, rfl⟩ := ownsRow_slice hA7.own
      have HO7 := hid hA7.own
      clear hA7 t0 t1
      go_wp2_with fail
      try simp only [HWK.out]
      refine Round.mk' HR1.out Hmu1.out rfl ?_ ?_
      · exact ⟨k + 1, [(x1, x2)], a7, c7, rfl, rfl, HLT.out, HO7.out, by rw [HTK.out]; exact HSW.out.first HXF.out rfl, by simp, HL7.out⟩
      · rw [Hh16.out]; have := HLT.out; simp [intOf, slots]; omega
    · obtain ⟨m, hm⟩ : ∃ m, m = A.length := ⟨_, rfl⟩
      have hlen : (A ++ [z]).length = m + 1 := by rw [hm]; simp
      have hzm : m < (A ++ [z]).length := by rw [hlen]; omega
      obtain ⟨g, rfl, hgB, q1, q2, -⟩ := OwnW.cells HO4.out hzm
      have HGB := hid hgB
      have HNE : Hid (g ≠ T) := hid (HGT.out g rfl)
      have hz : (A ++ [z])[m] = z := by subst hm; simp
      rw [hz] at q1 q2
      have HMM := hid hm
      have HLE := hid hlen
      have hmw : wrap64 (((m + 1 : Nat) : Int) - 1) = (m : Int) := by have := HOK.out; have := HLT.out; have := HN3.out; have := HLL.out; unfold wrap64; omega
      have hmb : (m : Int) ≤ 9223372036854775800 := by have := HOK.out; have := HLT.out; have := HN3.out; have := HLL.out; omega
      have hmw2 : IntKind.i64.wrap (((m + 1 : Nat) : Int) - 1) = (m : Int) := (IntWalk.i64_in _ (by omega)).trans (by omega)
      have hmw3 : IntKind.i64.wrap (m : Int) = (m : Int) := IntWalk.i64_in _ (by omega)
      have hmlt : (m : Int) < (m : Int) + 1 := by omega
      clear hmb
      simp only [hlen]
      obtain ⟨z1, z2⟩ := z
      simp only at q1 q2
      clear hz hm hzm hgB
      refine wp_region_lex (by kernel_rfl) (by kernel_rfl) Later Later.refl Later.trans (kinds [(9, fun v _ => v = .bool (meetW (z1, z2) (x1, x2)))]) (kinds_still (by simp +contextual)) ?_
      simp only [numbered, Nat.reduceAdd]
      refine LexS.out ?_
      iterate 9
        first
        | (refine LexS.skip rfl ?_; simp only [Act.put, List.setIfInBounds_toArray, List.set])
        | (refine LexS.one' rfl rfl ?_
           apply Exists.intro
           refine ⟨fun w hR hF => ?_, ?_⟩
           · have hP := hR
             repeat (first | replace hP := Later.of_drew hP | replace hP := Later.of_drewN hP | replace hP := Later.of_alloc hP)
             have hcs := hR.cells
             have zq1 := hP.cell q1
             have zq2 := hP.cell q2
             have zt0 := hP.cell t0
             have zt1 := hP.cell t1
             clear hR hF hP
             go_simp
             first | done | rfl
           simp only [Act.put, List.setIfInBounds_toArray, List.set])
      refine LexS.anyEq rfl rfl (fun w hR hF => ?_) ?_
      · have hP := hR
        repeat (first | replace hP := Later.of_drew hP | replace hP := Later.of_drewN hP | replace hP := Later.of_alloc hP)
        have hcs := hR.cells
        clear hF hR
        unfold Runs
        go_simp
        unfold Yield
        refine (wmeet_any (z1, z2) (x1, x2) _).mono ?_
        rintro e w' ⟨rfl, hL⟩
        exact ⟨_, rfl, hL, rfl⟩
      simp only [Act.put, List.setIfInBounds_toArray, List.set]
      iterate 1
        first
        | (refine LexS.skip rfl ?_; simp only [Act.put, List.setIfInBounds_toArray, List.set])
        | (refine LexS.one' rfl rfl ?_
           apply Exists.intro
           refine ⟨fun w hR hF => ?_, ?_⟩
           · have hP := hR
             repeat (first | replace hP := Later.of_drew hP | replace hP := Later.of_drewN hP | replace hP := Later.of_alloc hP)
             have hcs := hR.cells
             clear hR hF hP
             go_simp
             first | done | rfl
           simp only [Act.put, List.setIfInBounds_toArray, List.set])
      refine LexS.nil ?_
      intro w5 hR5 hF9
      clear hF9
      repeat (first | replace hR5 := Later.of_drew hR5 | replace hR5 := Later.of_drewN hR5 | replace hR5 := Later.of_alloc hR5)
      have HL5 := hid (Later.trans _ _ _ HL4.out hR5)
      have HO5 := hid (owns_at HO4.out hR5)
      replace t0 := hR5.cell t0
      replace t1 := hR5.cell t1
      replace q1 := hR5.cell q1
      replace q2 := hR5.cell q2
      clear hR5 HT4 HL4 HO4
      cases hmm : meetW (z1, z2) (x1, x2) with
      | true =>
        have HME := hid hmm
        clear hmm
        have hj := OwnW.free HO5.out (m * 2 + 1)
        have HFREE := hid hj
        go_upto_region 10 with (fail)
        refine wp_region_plan (by kernel_rfl) (by kernel_rfl) [] [12, 13, 14] (by kernel_rfl) (fun _ _ d _ _ h => by cases d <;> exact h) (Later) (Later.refl) (Later.trans) (fun _ => none) (fun _ _ _ _ _ h => by cases h) ?_
        simp only [body, tail, numbered, Nat.reduceAdd, List.filter_cons, List.filter_nil, List.contains_cons, List.contains_nil, Nat.reduceBEq, Bool.or_false, Bool.or_true, Bool.false_or, Bool.true_or, Bool.not_true, Bool.not_false, Bool.and_true, Bool.and_false, Bool.true_and, Bool.false_and, if_true, if_false, reduceIte, Bool.false_eq_true, List.map_cons, List.map_nil]
        simp only [Pures]
        refine LexS.out ?_
        iterate 12
          first
          | (refine LexS.skip rfl ?_; simp only [Act.put, List.setIfInBounds_toArray, List.set])
          | (refine LexS.one' rfl rfl ?_
             apply Exists.intro
             refine ⟨fun w hR hF => ?_, ?_⟩
             · have hP := hR
               repeat (first | replace hP := Later.of_drew hP | replace hP := Later.of_drewN hP | replace hP := Later.of_alloc hP)
               have hcs := hR.cells
               have zq1 := hP.cell q1
               have zq2 := hP.cell q2
               have zt0 := hP.cell t0
               have zt1 := hP.cell t1
               clear hR hF hP
               go_simp
               first | done | rfl
             simp only [Act.put, List.setIfInBounds_toArray, List.set])
        refine LexS.nil ?_
        intro w6 hR6 hF9
        clear hF9
        repeat (first | replace hR6 := Later.of_drew hR6 | replace hR6 := Later.of_drewN hR6 | replace hR6 := Later.of_alloc hR6)
        have HL6 := hid (Later.trans _ _ _ HL5.out hR6)
        have HO6 := hid (owns_at HO5.out hR6)
        have f1 := OwnW.free HO6.out (m * 2 + 1)
        replace q2 := hR6.cell q2
        clear hR6 t0 t1 q1 HL5 HO5 hj
        change wpList _ _ _ _ _ _
        have hzx : z1 ≤ x1 := by
          obtain ⟨v, hv, e⟩ := HSW.out.low (z1, z2) (List.mem_append_right _ (List.mem_singleton.2 rfl))
          have := HLO.out v hv
          simp only at e this
          omega
        have HJO := hid (HSW.out.join hzx HXF.out HME.out)
        have HS6 : Hid (∀ b : Int, OwnW w3.heap.size (w6.setCell ⟨g, m * 2 + 1, none⟩ (.int .i64 b)) (.slice (some ⟨g, 0, none⟩) (m + 1) c) (A ++ [(z1, b)])) := hid (fun b => by
          have hlm : m < (A ++ [(z1, z2)]).length := by rw [HLE.out]; omega
          have h := OwnW.set1 HO6.out rfl hlm b
          have e1 : (A ++ [(z1, z2)])[m]'hlm = (z1, z2) := by have := HMM.out; subst this; simp
          have e2 : (A ++ [(z1, z2)]).set m (z1, b) = A ++ [(z1, b)] := by have := HMM.out; subst this; simp
          rw [e1, e2, HLE.out] at h
          exact h)
        have HLN : Hid (∀ b : Int, (A ++ [(z1, b)]).length = m + 1) := hid (fun b => by rw [HMM.out]; simp)
        have HK6 : Hid (∀ u, Later w3 (w6.setCell ⟨g, m * 2 + 1, none⟩ u)) := hid (fun u => ((HL6.out.keeps (fun _ => True)).setCell (p := ⟨g, m * 2 + 1, none⟩) (.inr HGB.out) u).later)
        have HK1 : Hid (m + 1 ≤ k) := hid (HLE.out ▸ HOK.out)
        clear hzx
        go_wp2_with fail
        try simp only [HWK.out]
        refine Round.mk' HR1.out Hmu1.out rfl ?_ ?_
        · refine ⟨k + 1, A ++ [(z1, max z2 x2)], some ⟨g, 0, none⟩, c, rfl, ?_, HLT.out, ?_, ?_, ?_, HK6.out _⟩
          · rw [HLN.out]; rfl
          · rw [HLN.out]; exact HS6.out _
          · rw [HTK.out]
            exact HJO.out
          · rw [HLN.out]; exact Nat.le_succ_of_le HK1.out
        · rw [Hh16.out]; have := HLT.out; simp [intOf, slots]; omega
      | false =>
        have HME := hid hmm
        have HAP := hid (HSW.out.apart_last (by
          obtain ⟨v, hv, e⟩ := HSW.out.low (z1, z2) (List.mem_append_right _ (List.mem_singleton.2 rfl))
          have := HLO.out v hv
          simp only at e this ⊢
          omega) HXF.out hmm)
        have HNW := hid (HSW.out.new HXF.out HAP.out)
        obtain ⟨O, hOO⟩ : ∃ O, O = A ++ [(z1, z2)] := ⟨_, rfl⟩
        rw [← hOO] at HNW HO5 HOK hlen
        simp only [← hlen]
        clear hmm q1 q2 HLE HSW HAP Hh4 HMM
        have HLE := hid hlen
        clear hlen hmw hmw2 hmw3 hmlt hOO
        go_wp2_with (at_builtin; go_loud (refine wpList_append_obj rfl _ _ 22 rfl 24 2 16 Try.underlying22 infoWn rfl (owns_at HO5.out (Later.alloc _ _)) (news := [.int .i64 x1, .int .i64 x2]) rfl (obj_at (by simp)) rfl (win_one (x1, x2)) ?d1 ?d2 ?d3 ?_))
        case d1 => have := HOK.out; have := HLT.out; have := HN3.out; have := HLL.out; omega
        case d2 => have := HOK.out; have := HLT.out; have := HN3.out; have := HLL.out; unfold maxLen; omega
        case d3 => have := HL5.out.size; have h2 := (Later.alloc w5 (.cells #[.int .i64 x1, .int .i64 x2] 24 (0, 0))).size; omega
        intro v7 w7 hA7
        have HL7 := hid (app_later (Later.trans _ _ _ HL5.out (Later.alloc _ _)) (owns_at HO5.out (Later.alloc _ _)) hA7 (Nat.le_refl _))
        obtain ⟨a7, c7, rfl⟩ := ownsRow_slice hA7.own
        have HO7 := hid hA7.own
        clear hA7 t0 t1
        go_wp2_with fail
        try simp only [HWK.out]
        refine Round.mk' HR1.out Hmu1.out rfl ?_ ?_
        · refine ⟨k + 1, O ++ [(x1, x2)], a7, c7, rfl, ?_, HLT.out, ?_, by rw [HTK.out]; exact HNW.out, by rw [List.length_append, List.length_singleton]; exact Nat.succ_le_succ HOK.out, HL7.out⟩
          · rw [List.length_append]; rfl
          · have := HO7.out
            unfold OwnW
            rw [winCells_snoc, List.length_append]
            exact this
        · rw [Hh16.out]; have := HLT.out; simp [intOf, slots]; omega
  · have hke : k = S.length := by have := HK.out; omega
    have HMG : Hid (Merged l O) := hid (by
      have h := HSW.out
      rw [hke, List.take_length] at h
      exact h.merged HSF.out.2)
    clear hke HE3
    go_wp2_with fail
    go_ret
    refine ⟨_, O, rfl, ?_, HMG.out, ?_, ?_⟩
    · exact ⟨HO.out.1, HO.out.2.imp id fun ⟨g, cap, cur, a1, a2, a3⟩ => ⟨g, cap, cur, a1, Nat.le_trans HB3.out a2, a3⟩⟩
    · have := HOK.out; have := HK.out; have := HN3.out; omega
    · exact Later.trans _ _ _ HL3.out HL.out
end Go.Proofs.Ythfgjmdmcoogpaa
