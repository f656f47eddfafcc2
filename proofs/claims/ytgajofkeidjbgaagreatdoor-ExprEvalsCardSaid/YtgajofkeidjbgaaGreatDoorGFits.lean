/-
  PROVED HERE: a part of the proof of ExprEvals: Fits, EvalAll.
-/
import Derived.Test.YtgajofkeidjbgaaGreatDoorShort
import Derived.Test.YtgajofkeidjbgaaGreatDoorGRefQuote
import Derived.Test.YtgajofkeidjbgaaGreatDoorGExprIdx
import Derived.Test.YtgajofkeidjbgaaGreatDoorGEval2
import Derived.Test.YtgajofkeidjbgaaGreatDoorGEval5
import Derived.Test.YtgajofkeidjbgaaGreatDoorGCompile
namespace Go.Proofs.YtgajofkeidjbgaaGreatDoor
set_option linter.unusedSimpArgs false
set_option linter.unusedVariables false
set_option maxHeartbeats 8000000
set_option maxRecDepth 100000
open Go.RowKit
def fitV (x : Val) (c : Col) : Bool := qbt x && (decide (x.k = 0) || decide (x.k = c.k))
def fitsP (cs : List Col) (row : List Val) : Bool := decide (row.length = cs.length) && (List.range row.length).all fun i => fitV (row.getD i qaa) (cs.getD i ⟨[],0⟩)
theorem fits_bad {cs : List Col} {row : List Val} {i : Nat} (h : i < row.length) (hb : cs.length ≤ i ∨ fitV (row.getD i qaa) (cs.getD i ⟨[],0⟩) = false) : fitsP cs row = false := by
 unfold fitsP
 rw [Bool.and_eq_false_iff]
 rcases hb with hb | hb
 ·left
  rw [decide_eq_false_iff_not]
  omega
 ·right
  rw [List.all_eq_false]
  exact ⟨i,List.mem_range.2 h,by rw [hb]; simp⟩
theorem fits_all {cs : List Col} {row : List Val} (h : ∀ i,i < row.length → i < cs.length ∧ fitV (row.getD i qaa) (cs.getD i ⟨[],0⟩) = true) : fitsP cs row = decide (row.length = cs.length) := by
 unfold fitsP
 have : (List.range row.length).all (fun i => fitV (row.getD i qaa) (cs.getD i ⟨[],0⟩)) = true := by
  rw [List.all_eq_true]
  intro i hi
  exact (h i (List.mem_range.1 hi)).2
 rw [this,Bool.and_true]
theorem fits_ok {cs : List Col} {row : List Val} (h : fitsP cs row = true) (hi : ∀ x ∈ row,qdr x) : FitsOk cs row := by
 unfold fitsP at h
 simp only [Bool.and_eq_true,decide_eq_true_eq,List.all_eq_true,List.mem_range] at h
 refine ⟨h.1,fun i h1 h2 => ?_⟩
 have := h.2 i h1
 rw [List.getD_eq_getElem?_getD,List.getElem?_eq_getElem h1,List.getD_eq_getElem?_getD,List.getElem?_eq_getElem h2] at this
 unfold fitV at this
 simp only [Option.getD_some,Bool.and_eq_true,Bool.or_eq_true,decide_eq_true_eq] at this
 exact ⟨this.1,hi _ (List.getElem_mem _),this.2⟩
theorem fits_any (rao : Option Addr) (rc : Nat) (row : List Val) (ao : Option Addr) (c : Nat) (cs : List Col) (w : World) (hr : qcx w (.slice rao row.length rc) row) (hce : ColsEl w ao cs) (hlen : row.length ≤ 140737488355328 ∧ cs.length ≤ 140737488355328) :
  Calls Tryz.prog 28 #[.slice rao row.length rc,.slice ao cs.length c] w fun e w' => e = .returned (.bool (fitsP cs row)) ∧ qag w w' := by
 have HR := hid hr; have HCE := hid hce; have HLN := hid hlen
 clear hr hce hlen
 go_enter Tryz.func28,Tryz.ntmps28
 go_wp2_with fail
 obtain ⟨R1,hR1⟩ : ∃ RR_ : (Nat → Value) → World → Prop,RR_ = (fun us wx => ∃ i : Nat,us 9 = .int .i64 (i : Int) ∧ i ≤ row.length ∧ qag w wx ∧ ∀ j,j < i → j < row.length → j < cs.length ∧ fitV (row.getD j qaa) (cs.getD j ⟨[],0⟩) = true) := ⟨_,rfl⟩
 obtain ⟨mu1,hmu1⟩ : ∃ mu : (Nat → Value) → World → Nat,mu = (fun us _ => row.length - (intOf (us 9)).toNat) := ⟨_,rfl⟩
 have HR1 := hid hR1; have Hmu1 := hid hmu1; clear hR1 hmu1
 refine qal [ff,ff,ff,ff,true,true,true,ff,ff,true,true,true,true,true,true,true,true,true,true,true,true,true,true,true,true,true,true,true,true,true,true,true,true,true,true,true,true,true,true] R1 _ mu1 HR1.out ?_ ?_
 ·exact ⟨0,rfl,Nat.zero_le _,qag.refl _,fun j h => absurd h (by omega)⟩
 intro us1 wx hrel
 obtain ⟨i,h9,hi,hL,hall⟩ := hrel
 simp only [qao,Nat.reduceAdd,h9]
 have Hh9 := hid h9; clear h9
 have HL := hid hL; have HALL := hid hall; have HI := hid hi
 clear hL hall hi
 by_cases hlt : i < row.length
 ·have HLT := hid hlt
  obtain ⟨a',c',hv,-,he⟩ := val_at HR.out
  obtain ⟨b,o,hao,p0,p1,p2⟩ := he i hlt
  simp only [Value.slice.injEq] at hv
  obtain ⟨rfl,-,rfl⟩ := hv
  subst hao
  obtain ⟨y,hy⟩ : ∃ y,row[i]'hlt = y := ⟨_,rfl⟩
  rw [hy] at p0 p1 p2
  have HGY : Hid (row.getD i qaa = y) := hid (by rw [List.getD_eq_getElem?_getD,List.getElem?_eq_getElem hlt,← hy]; rfl)
  replace p0 := HL.out.cell p0
  replace p1 := HL.out.cell p1
  replace p2 := HL.out.cell p2
  have hpl := qad p0
  obtain ⟨yk,yn,yt⟩ := y
  simp only at p0 p1 p2
  have HWK : Hid (wrap64 ((i : Int) + 1) = ((i + 1 : Nat) : Int)) := hid (by have := HLT.out; have := HLN.out; unfold wrap64; omega)
  have hii : (i : Int) < row.length := by omega
  clear hlt hy he
  go_upto_region 4 with (fail)
  obtain ⟨T,hT⟩ : ∃ T,T = wx.heap.size := ⟨_,rfl⟩
  obtain ⟨w1,hw1⟩ : ∃ w1,w1 = wx.alloc (.cells #[.int .i64 yk,.int .i64 yn,.string yt] 38) := ⟨_,rfl⟩
  have hL1 : qag wx w1 := hw1 ▸ qag.alloc _ _
  have hT1 : qcm w1 T ⟨yk,yn,yt⟩ := by unfold qcm; rw [hw1,hT]; exact qap _ _
  rw [← hw1,← hT]
  have HLX := hid (qag.trans _ _ _ HL.out hL1)
  obtain ⟨t0,t1,t2,-,-,-,tl⟩ := hT1.cells
  simp only at t0 t1 t2
  clear hw1 hT hL1 hT1 p0 p1 p2 hpl hii
  by_cases hic : i < cs.length
  ·have HIC := hid hic
   have hici : ¬ (cs.length : Int) ≤ i := by omega
   have hi0 : (0 : Int) ≤ i := by omega
   have hi1 : (i : Int) < cs.length := by omega
   obtain ⟨vb,hvb⟩ : ∃ b,qbt ⟨yk,yn,yt⟩ = b := ⟨_,rfl⟩
   have HVB := hid hvb
   obtain ⟨cb,co,hcao,-,hcc⟩ := HCE.out i hic
   subst hcao
   obtain ⟨z,hz⟩ : ∃ z,cs[i]'hic = z := ⟨_,rfl⟩
   rw [hz] at hcc
   obtain ⟨d1,d2⟩ := hcc.later HLX.out
   have hdl := qad d1
   have HZ : Hid (cs.getD i ⟨[],0⟩ = z) := hid (by rw [List.getD_eq_getElem?_getD,List.getElem?_eq_getElem hic,← hz]; rfl)
   clear hz hcc
   clear hvb hic
   cases vb with
   | false =>
     have HBAD : Hid (fitsP cs row = false) := hid (fits_bad HLT.out (.inr (by rw [HGY.out]; unfold fitV; rw [HVB.out]; rfl)))
     refine qaj (by kernel_rfl) (by kernel_rfl) qag qag.refl qag.trans (kinds [(6,fun v _ => v = .bool false)]) (qcr (by simp +contextual)) ?_
     simp only [qam,Nat.reduceAdd]
     refine LexS.out ?_
     iterate 6
      first
      | (refine LexS.skip rfl ?_; simp only [Act.put,sib,List.set])
      | (refine LexS.one' rfl rfl ?_
         apply Exists.intro
         refine ⟨fun w hR hF => ?_,?_⟩
         ·have hP := hR
          repeat (first | replace hP := qag.of_drew hP | replace hP := qag.of_drewN hP | replace hP := qag.of_alloc hP)
          have hcs := hR.cells
          have zt0 := hP.cell t0
          have zt1 := hP.cell t1
          have zt2 := hP.cell t2
          clear hR hF hP
          go_simp
          first | done | rfl
         simp only [Act.put,sib,List.set])
     refine LexS.anyEq rfl rfl (fun w hR hF => ?_) ?_
     ·have hP := hR
      repeat (first | replace hP := qag.of_drew hP | replace hP := qag.of_drewN hP | replace hP := qag.of_alloc hP)
      have hcs := hR.cells
      clear hF hR
      unfold Runs
      go_simp
      unfold Yield
      refine (valid_any ⟨yk,yn,yt⟩ _).mono ?_
      rintro e w' ⟨rfl,hL⟩
      exact ⟨_,rfl,hL,(by rw [HVB.out])⟩
     simp only [Act.put,sib,List.set]
     iterate 17
      first
      | (refine LexS.skip rfl ?_; simp only [Act.put,sib,List.set])
      | (refine LexS.one' rfl rfl ?_
         apply Exists.intro
         refine ⟨fun w hR hF => ?_,?_⟩
         ·have hP := hR
          repeat (first | replace hP := qag.of_drew hP | replace hP := qag.of_drewN hP | replace hP := qag.of_alloc hP)
          have hcs := hR.cells
          have zt0 := hP.cell t0
          have zt1 := hP.cell t1
          have zt2 := hP.cell t2
          have zd1 := hP.cell d1
          have zd2 := hP.cell d2
          clear hR hF hP
          go_simp
          first | done | rfl
         simp only [Act.put,sib,List.set])
     refine LexS.nil ?_
     intro w2 hL2 hF9
     clear hF9
     repeat (first | replace hL2 := qag.of_drew hL2 | replace hL2 := qag.of_drewN hL2 | replace hL2 := qag.of_alloc hL2)
     have HL2 := hid (qag.trans _ _ _ HLX.out hL2)
     clear hL2
     go_wp2_with fail
     refine bodyPost_ret (results_tmp rfl _ _ _) rfl ⟨?_,HL2.out⟩
     rw [HBAD.out]
     rfl
   | true =>
     by_cases hk0 : yk = 0
     ·have HGD : Hid (fitV (row.getD i qaa) (cs.getD i ⟨[],0⟩) = true) := hid (by rw [HGY.out]; unfold fitV; rw [HVB.out]; simp [hk0])
      have hq0 : (yk == 0) = true := by simpa using hk0
      have hq1 : (yk != 0) = false := by simpa using hk0
      clear hk0
      refine qaj (by kernel_rfl) (by kernel_rfl) qag qag.refl qag.trans (kinds [(6,fun v _ => v = .bool true)]) (qcr (by simp +contextual)) ?_
      simp only [qam,Nat.reduceAdd]
      refine LexS.out ?_
      iterate 6
       first
       | (refine LexS.skip rfl ?_; simp only [Act.put,sib,List.set])
       | (refine LexS.one' rfl rfl ?_
          apply Exists.intro
          refine ⟨fun w hR hF => ?_,?_⟩
          ·have hP := hR
           repeat (first | replace hP := qag.of_drew hP | replace hP := qag.of_drewN hP | replace hP := qag.of_alloc hP)
           have hcs := hR.cells
           have zt0 := hP.cell t0
           have zt1 := hP.cell t1
           have zt2 := hP.cell t2
           clear hR hF hP
           go_simp
           first | done | rfl
          simp only [Act.put,sib,List.set])
      refine LexS.anyEq rfl rfl (fun w hR hF => ?_) ?_
      ·have hP := hR
       repeat (first | replace hP := qag.of_drew hP | replace hP := qag.of_drewN hP | replace hP := qag.of_alloc hP)
       have hcs := hR.cells
       clear hF hR
       unfold Runs
       go_simp
       unfold Yield
       refine (valid_any ⟨yk,yn,yt⟩ _).mono ?_
       rintro e w' ⟨rfl,hL⟩
       exact ⟨_,rfl,hL,(by rw [HVB.out])⟩
      simp only [Act.put,sib,List.set]
      iterate 17
       first
       | (refine LexS.skip rfl ?_; simp only [Act.put,sib,List.set])
       | (refine LexS.one' rfl rfl ?_
          apply Exists.intro
          refine ⟨fun w hR hF => ?_,?_⟩
          ·have hP := hR
           repeat (first | replace hP := qag.of_drew hP | replace hP := qag.of_drewN hP | replace hP := qag.of_alloc hP)
           have hcs := hR.cells
           have zt0 := hP.cell t0
           have zt1 := hP.cell t1
           have zt2 := hP.cell t2
           have zd1 := hP.cell d1
           have zd2 := hP.cell d2
           clear hR hF hP
           go_simp
           first | done | rfl
          simp only [Act.put,sib,List.set])
      refine LexS.nil ?_
      intro w2 hL2 hF9
      clear hF9
      repeat (first | replace hL2 := qag.of_drew hL2 | replace hL2 := qag.of_drewN hL2 | replace hL2 := qag.of_alloc hL2)
      have HL2 := hid (qag.trans _ _ _ HLX.out hL2)
      clear hL2
      go_wp2_with fail
      try simp only [HWK.out]
      refine Round.mk' HR1.out Hmu1.out rfl ?_ ?_
      ·refine ⟨i + 1,rfl,HLT.out,HL2.out,fun j hj hj2 => ?_⟩
       by_cases hji : j = i
       ·subst hji; exact ⟨HIC.out,HGD.out⟩
       ·exact HALL.out j (by omega) hj2
      ·rw [Hh9.out]; have := HLT.out; simp [intOf,qas]; omega
     ·have hq0 : (yk == 0) = false := by simpa using hk0
      have hq1 : (yk != 0) = true := by simpa using hk0
      by_cases hkz : yk = z.k
      ·have HGD : Hid (fitV (row.getD i qaa) (cs.getD i ⟨[],0⟩) = true) := hid (by rw [HGY.out,HZ.out]; unfold fitV; rw [HVB.out]; simp [hkz])
       have hq2 : (yk == z.k) = true := by simpa using hkz
       have hq3 : (yk != z.k) = false := by simpa using hkz
       clear hk0 hkz
       refine qaj (by kernel_rfl) (by kernel_rfl) qag qag.refl qag.trans (kinds [(6,fun v _ => v = .bool true)]) (qcr (by simp +contextual)) ?_
       simp only [qam,Nat.reduceAdd]
       refine LexS.out ?_
       iterate 6
        first
        | (refine LexS.skip rfl ?_; simp only [Act.put,sib,List.set])
        | (refine LexS.one' rfl rfl ?_
           apply Exists.intro
           refine ⟨fun w hR hF => ?_,?_⟩
           ·have hP := hR
            repeat (first | replace hP := qag.of_drew hP | replace hP := qag.of_drewN hP | replace hP := qag.of_alloc hP)
            have hcs := hR.cells
            have zt0 := hP.cell t0
            have zt1 := hP.cell t1
            have zt2 := hP.cell t2
            clear hR hF hP
            go_simp
            first | done | rfl
           simp only [Act.put,sib,List.set])
       refine LexS.anyEq rfl rfl (fun w hR hF => ?_) ?_
       ·have hP := hR
        repeat (first | replace hP := qag.of_drew hP | replace hP := qag.of_drewN hP | replace hP := qag.of_alloc hP)
        have hcs := hR.cells
        clear hF hR
        unfold Runs
        go_simp
        unfold Yield
        refine (valid_any ⟨yk,yn,yt⟩ _).mono ?_
        rintro e w' ⟨rfl,hL⟩
        exact ⟨_,rfl,hL,(by rw [HVB.out])⟩
       simp only [Act.put,sib,List.set]
       iterate 17
        first
        | (refine LexS.skip rfl ?_; simp only [Act.put,sib,List.set])
        | (refine LexS.one' rfl rfl ?_
           apply Exists.intro
           refine ⟨fun w hR hF => ?_,?_⟩
           ·have hP := hR
            repeat (first | replace hP := qag.of_drew hP | replace hP := qag.of_drewN hP | replace hP := qag.of_alloc hP)
            have hcs := hR.cells
            have zt0 := hP.cell t0
            have zt1 := hP.cell t1
            have zt2 := hP.cell t2
            have zd1 := hP.cell d1
            have zd2 := hP.cell d2
            clear hR hF hP
            go_simp
            first | done | rfl
           simp only [Act.put,sib,List.set])
       refine LexS.nil ?_
       intro w2 hL2 hF9
       clear hF9
       repeat (first | replace hL2 := qag.of_drew hL2 | replace hL2 := qag.of_drewN hL2 | replace hL2 := qag.of_alloc hL2)
       have HL2 := hid (qag.trans _ _ _ HLX.out hL2)
       clear hL2
       go_wp2_with fail
       try simp only [HWK.out]
       refine Round.mk' HR1.out Hmu1.out rfl ?_ ?_
       ·refine ⟨i + 1,rfl,HLT.out,HL2.out,fun j hj hj2 => ?_⟩
        by_cases hji : j = i
        ·subst hji; exact ⟨HIC.out,HGD.out⟩
        ·exact HALL.out j (by omega) hj2
       ·rw [Hh9.out]; have := HLT.out; simp [intOf,qas]; omega
      ·have HBAD : Hid (fitsP cs row = false) := hid (fits_bad HLT.out (.inr (by rw [HGY.out,HZ.out]; unfold fitV; rw [HVB.out]; simp [hkz,hk0])))
       have hq2 : (yk == z.k) = false := by simpa using hkz
       have hq3 : (yk != z.k) = true := by simpa using hkz
       clear hk0 hkz
       refine qaj (by kernel_rfl) (by kernel_rfl) qag qag.refl qag.trans (kinds [(6,fun v _ => v = .bool true)]) (qcr (by simp +contextual)) ?_
       simp only [qam,Nat.reduceAdd]
       refine LexS.out ?_
       iterate 6
        first
        | (refine LexS.skip rfl ?_; simp only [Act.put,sib,List.set])
        | (refine LexS.one' rfl rfl ?_
           apply Exists.intro
           refine ⟨fun w hR hF => ?_,?_⟩
           ·have hP := hR
            repeat (first | replace hP := qag.of_drew hP | replace hP := qag.of_drewN hP | replace hP := qag.of_alloc hP)
            have hcs := hR.cells
            have zt0 := hP.cell t0
            have zt1 := hP.cell t1
            have zt2 := hP.cell t2
            clear hR hF hP
            go_simp
            first | done | rfl
           simp only [Act.put,sib,List.set])
       refine LexS.anyEq rfl rfl (fun w hR hF => ?_) ?_
       ·have hP := hR
        repeat (first | replace hP := qag.of_drew hP | replace hP := qag.of_drewN hP | replace hP := qag.of_alloc hP)
        have hcs := hR.cells
        clear hF hR
        unfold Runs
        go_simp
        unfold Yield
        refine (valid_any ⟨yk,yn,yt⟩ _).mono ?_
        rintro e w' ⟨rfl,hL⟩
        exact ⟨_,rfl,hL,(by rw [HVB.out])⟩
       simp only [Act.put,sib,List.set]
       iterate 17
        first
        | (refine LexS.skip rfl ?_; simp only [Act.put,sib,List.set])
        | (refine LexS.one' rfl rfl ?_
           apply Exists.intro
           refine ⟨fun w hR hF => ?_,?_⟩
           ·have hP := hR
            repeat (first | replace hP := qag.of_drew hP | replace hP := qag.of_drewN hP | replace hP := qag.of_alloc hP)
            have hcs := hR.cells
            have zt0 := hP.cell t0
            have zt1 := hP.cell t1
            have zt2 := hP.cell t2
            have zd1 := hP.cell d1
            have zd2 := hP.cell d2
            clear hR hF hP
            go_simp
            first | done | rfl
           simp only [Act.put,sib,List.set])
       refine LexS.nil ?_
       intro w2 hL2 hF9
       clear hF9
       repeat (first | replace hL2 := qag.of_drew hL2 | replace hL2 := qag.of_drewN hL2 | replace hL2 := qag.of_alloc hL2)
       have HL2 := hid (qag.trans _ _ _ HLX.out hL2)
       clear hL2
       go_wp2_with fail
       refine bodyPost_ret (results_tmp rfl _ _ _) rfl ⟨?_,HL2.out⟩
       rw [HBAD.out]
       rfl
  ·have hici : (cs.length : Int) ≤ i := by omega
   have HBAD : Hid (fitsP cs row = false) := hid (fits_bad HLT.out (.inl (by omega)))
   clear hic
   refine qaj (by kernel_rfl) (by kernel_rfl) qag qag.refl qag.trans (fun _ => none) (fun _ _ _ _ _ h => by cases h) ?_
   simp only [qam,Nat.reduceAdd]
   refine LexS.out ?_
   iterate 24
    first
    | (refine LexS.skip rfl ?_; simp only [Act.put,sib,List.set])
    | (refine LexS.one' rfl rfl ?_
       apply Exists.intro
       refine ⟨fun w hR hF => ?_,?_⟩
       ·have hP := hR
        repeat (first | replace hP := qag.of_drew hP | replace hP := qag.of_drewN hP | replace hP := qag.of_alloc hP)
        have hcs := hR.cells
        have zt0 := hP.cell t0
        clear hR hF hP
        go_simp
        first | done | rfl
       simp only [Act.put,sib,List.set])
   refine LexS.nil ?_
   intro w2 hL2 hF9
   clear hF9
   repeat (first | replace hL2 := qag.of_drew hL2 | replace hL2 := qag.of_drewN hL2 | replace hL2 := qag.of_alloc hL2)
   have HL2 := hid (qag.trans _ _ _ HLX.out hL2)
   clear hL2
   go_wp2_with fail
   refine bodyPost_ret (results_tmp rfl _ _ _) rfl ⟨?_,HL2.out⟩
   rw [HBAD.out]
   rfl
 ·obtain rfl : i = row.length := by have := HI.out; omega
  have HF : Hid (fitsP cs row = decide (row.length = cs.length)) := hid (fits_all fun j hj => HALL.out j hj hj)
  obtain ⟨bl,hbl⟩ : ∃ b,decide (row.length = cs.length) = b := ⟨_,rfl⟩
  have hbe : ((row.length : Int) == (cs.length : Int)) = bl := by rw [← hbl,Bool.eq_iff_iff,beq_iff_eq,decide_eq_true_eq]; omega
  have HBL := hid hbl
  have hii : ¬ (row.length : Int) < row.length := by omega
  clear hlt hbl
  go_wp2_with fail
  refine bodyPost_ret (results_tmp rfl _ _ _) rfl ⟨?_,HL.out⟩
  rw [HF.out,HBL.out]
  try simp [hbe]
def evalR (cs : List Col) (row : List Val) (r : Except Fault Ex) : Except Int Val := match qep cs r with
 | .error f => .error f.1
 | .ok kx => if fitsP cs row = true then .ok (qby cs row kx.2) else .error 4
theorem check_ok {cs : List Col} {r : Except Fault Ex} {kx : Int × Ex} (h : qep cs r = .ok kx) : r = .ok kx.2 ∧ colsP cs = true ∧ kindP cs kx.2 = .ok kx.1 := by
 unfold qep at h
 cases r with
 | error f => cases h
 | ok x =>
   simp only at h
   split at h
   ·rename_i hc
    cases hk : kindP cs x with
    | error f => rw [hk] at h; cases h
    | ok k =>
      rw [hk] at h
      cases h
      exact ⟨rfl,hc,hk⟩
   ·cases h
theorem ceval_any (cs : List Col) (row : List Val) (hc : ColsOk cs) (hf : FitsOk cs row) (x : Ex) (k : Int) (kv : Int) (S : Nat → Prop) (ao : Option Addr) (c : Nat) (v : Value) (w : World) (hn : qbm (qIdx cs) S w v x) (hr : qcx w (.slice ao row.length c) row) (hk : kindP cs x = .ok k) (ho : qef x) (hcost : qbj x ≤ 1000000) :
  Calls Tryz.prog 29 #[.agg #[.int .i64 kv,v],.slice ao row.length c] w (qar (qby cs row x) w) := by
 obtain ⟨N,rfl⟩ := hn.iface
 obtain ⟨w1,hw1⟩ : ∃ w1,w1 = (w.alloc (.cells #[.int .i64 kv,.iface (nodeT x) (.pointer (some ⟨N,0,none⟩))] 81)).alloc (.cells #[.int .i64 0,.int .i64 0,.string ⟨#[]⟩] 38) := ⟨_,rfl⟩
 have hL1 : qag w w1 := hw1 ▸ ((qag.alloc _ _).alloc' _)
 have hO1 : w1.heap[w.heap.size]? = some (.cells #[.int .i64 kv,.iface (nodeT x) (.pointer (some ⟨N,0,none⟩))] 81 (0,0)) := by rw [hw1]; exact (qag.alloc _ _).obj (qap w _)
 have hR1 : qcm w1 (w.heap.size + 1) qaa := by unfold qcm; rw [hw1]; exact qcp (by simp)
 have H := hid (ev_all hc hf x k S ao c _ w1 (qbm.keep (hL1.keeps S) (fun _ h => h) _ _ hn) (vals_go hr hL1) hk ho hcost)
 have q1 : w1.cell? ⟨w.heap.size,1,none⟩ = some (.iface (nodeT x) (.pointer (some ⟨N,0,none⟩))) := qac (i := 1) hO1 rfl
 have ql := qad q1
 have HL1 := hid hL1; have HR1 := hid hR1
 obtain ⟨r,hr'⟩ : ∃ r,qby cs row x = r := ⟨_,rfl⟩
 rw [hr'] at H ⊢
 clear hn hr hk ho hcost hL1 hO1 hR1 hr' hc hf
 go_enter Tryz.func29,Tryz.ntmps29
 go_upto_region 1 with (fail)
 rw [← hw1]
 clear hw1
 go_wp2_with fail
 refine H.out.mono ?_
 rintro e w2 ⟨rfl,hL2⟩
 have HL2 := hid (qag.trans _ _ _ HL1.out hL2)
 have HR2 := hid (HR1.out.later hL2)
 obtain ⟨c0,c1,c2,f0,f1,f2,cl⟩ := HR2.out.cells
 simp only [qaa] at c0 c1 c2
 rw [vv r]
 clear hL2 q1 ql
 go_wp2_with fail
 exact bodyPost_ret (qaf rfl rfl (HR2.out.set r)) rfl ⟨rfl,qae HL2.out (by omega) _⟩
def EvalTo (cs : List Col) (row : List Val) (s : List UInt8) (w : World) (e : Ending) (w' : World) : Prop := qag w w' ∧ ∃ r,TextR true s r ∧ match evalR cs row r with
 | .error f => e = .returned (.tuple #[qaa.v,errV f])
 | .ok v => e = .returned (.tuple #[v.v,.nilIface])
structure RowArg (w : World) (ao : Option Addr) (c : Nat) (row : List Val) : Prop where
 el : qcx w (.slice ao row.length c) row
 len : row.length ≤ 140737488355328
 ok : ∀ x ∈ row,qdr x
theorem RowArg.later {w w' : World} {ao : Option Addr} {c : Nat} {row : List Val} (h : RowArg w ao c row) (k : qag w w') : RowArg w' ao c row := ⟨vals_go h.el k,h.len,h.ok⟩
theorem results_pair {fn : Func} {t u : Tmp} (h : fn.results = #[.cell t 38,.tmp u]) {tmps : Array Value} {w : World} {R : Nat} {x : Val} {ev : Value} (ht : tmps.getD t undef = .pointer (some ⟨R,0,none⟩)) (hu : tmps.getD u undef = ev) (hv : qcm w R x) : (results fn tmps).run Tryz.prog w = .ok (.tuple #[x.v,ev]) w := by
 obtain ⟨h0,h1,h2,-⟩ := hv.cells
 have ht' : tmps[t]?.getD undef = .pointer (some ⟨R,0,none⟩) := by simpa using ht
 have hu' : tmps[u]?.getD undef = ev := by simpa using hu
 simp [results,h,ht',hu',go_sem,h0,h1,h2,vv]
theorem eval_any (s : List UInt8) (ao : Option Addr) (c : Nat) (cs : List Col) (rao : Option Addr) (rc : Nat) (row : List Val) (w : World) (hE : qea w) (hT : PowTab w) (hS : qdx w) (ha : ColsArg w ao c cs) (hr : RowArg w rao rc row) :
  Calls Tryz.prog 12 #[.string (qah s),.slice ao cs.length c,.slice rao row.length rc] w (EvalTo cs row s w) := by
 have HA := hid ha; have HR := hid hr
 obtain ⟨w1,hw1,hL1,hR1⟩ := qei w
 have H := hid (compile_any s ao c cs w1 (hE.later hL1) (hT.later hL1) (hS.later hL1) (ha.later hL1))
 have HL1 := hid hL1; have HR1 := hid hR1
 clear hE hT hS ha hr hL1 hR1
 go_enter Tryz.func12,Tryz.ntmps12
 go_upto_region 1 with (fail)
 rw [← hw1]
 clear hw1
 go_wp2_with fail
 refine H.out.mono ?_
 rintro e w2 ⟨hL2,r,hr,hm⟩
 have HL2 := hid (qag.trans _ _ _ HL1.out hL2); have HRR := hid hr
 have HR2 := hid (HR1.out.later hL2)
 cases hc : qep cs r with
 | error f =>
   rw [hc] at hm
   obtain rfl := hm
   have HEV : Hid (evalR cs row r = .error f.1) := hid (by unfold evalR; rw [hc])
   unfold errV
   clear hc hr hL2
   go_upto_region 2 with (fail)
   obtain ⟨w3,hw3⟩ : ∃ w3,w3 = w2.alloc (.cells #[.int .i64 0,.nilIface] 81) := ⟨_,rfl⟩
   have hL3 : qag w2 w3 := hw3 ▸ qag.alloc _ _
   rw [← hw3]
   have HL3 := hid (qag.trans _ _ _ HL2.out hL3)
   have HR3 := hid (HR2.out.later hL3)
   obtain ⟨c0,c1,c2,f0,f1,f2,cl⟩ := HR3.out.cells
   simp only [qaa] at c0 c1 c2
   clear hw3 hL3
   go_wp2_with fail
   refine bodyPost_ret (results_pair rfl rfl rfl (HR3.out.set qaa)) rfl ⟨qae HL3.out (Nat.le_refl _) qaa,r,HRR.out,?_⟩
   rw [HEV.out]
   rfl
 | ok kx =>
   rw [hc] at hm
   obtain ⟨v,rfl,hn⟩ := hm
   obtain ⟨rfl,hcp,hkp⟩ := check_ok hc
   obtain ⟨N,rfl⟩ := hn.iface
   have HN := hid hn; have HCP := hid hcp; have HKP := hid hkp; have HC := hid hc
   have HOK := hid (text_ok hr)
   have HCO : Hid (qbj kx.2 ≤ 1000000) := hid (Nat.le_trans (text_cost hr) (by omega))
   clear hc hr hL2 hn hcp hkp
   go_upto_region 2 with (fail)
   obtain ⟨C,hC⟩ : ∃ C,C = w2.heap.size := ⟨_,rfl⟩
   obtain ⟨w3,hw3⟩ : ∃ w3,w3 = w2.alloc (.cells #[.int .i64 kx.1,.iface (nodeT kx.2) (.pointer (some ⟨N,0,none⟩))] 81) := ⟨_,rfl⟩
   have hL3 : qag w2 w3 := hw3 ▸ qag.alloc _ _
   have hO3 : w3.heap[C]? = some (.cells #[.int .i64 kx.1,.iface (nodeT kx.2) (.pointer (some ⟨N,0,none⟩))] 81 (0,0)) := by rw [hw3,hC]; exact qap _ _
   rw [← hw3,← hC]
   have HL3 := hid (qag.trans _ _ _ HL2.out hL3)
   have HR3 := hid (HR2.out.later hL3)
   have HO3 := hid hO3
   have HN3 := hid (qbm.keep (hL3.keeps (fun _ => True)) (fun _ _ => trivial) _ _ HN.out)
   clear hw3 hC hL3 hO3
   go_wp2_with fail
   refine (fits_any rao rc row ao c cs w3 (HR.out.later HL3.out).el (HA.out.later HL3.out).el ⟨HR.out.len,HA.out.cap.2⟩).mono ?_
   rintro e w4 ⟨rfl,hL4⟩
   have HL4 := hid (qag.trans _ _ _ HL3.out hL4)
   have HR4 := hid (HR3.out.later hL4)
   have HO4 := hid (hL4.obj HO3.out)
   have HN4 := hid (qbm.keep (hL4.keeps (fun _ => True)) (fun _ _ => trivial) _ _ HN3.out)
   obtain ⟨fb,hfb⟩ : ∃ b,fitsP cs row = b := ⟨_,rfl⟩
   rw [hfb]
   have HFB := hid hfb
   clear hL4 hfb
   cases fb with
   | false =>
     have HEV : Hid (evalR cs row (.ok kx.2) = .error 4) := hid (by unfold evalR; rw [HC.out]; simp only; rw [if_neg (by rw [HFB.out]; simp)])
     obtain ⟨c0,c1,c2,f0,f1,f2,cl⟩ := HR4.out.cells
     simp only [qaa] at c0 c1 c2
     go_wp2_with fail
     refine bodyPost_ret (results_pair rfl rfl rfl (HR4.out.set qaa)) rfl ⟨qae HL4.out (Nat.le_refl _) qaa,_,HRR.out,?_⟩
     rw [HEV.out]
     rfl
   | true =>
     have HEV : Hid (evalR cs row (.ok kx.2) = .ok (qby cs row kx.2)) := hid (by unfold evalR; rw [HC.out]; simp only; rw [if_pos HFB.out])
     have p0 : w4.cell? ⟨C,0,none⟩ = some (.int .i64 kx.1) := qac (i := 0) HO4.out rfl
     have p1 : w4.cell? ⟨C,1,none⟩ = some (.iface (nodeT kx.2) (.pointer (some ⟨N,0,none⟩))) := qac (i := 1) HO4.out rfl
     have pl := qad p0
     go_wp2_with fail
     refine (ceval_any cs row (colsP_ok HCP.out) (fits_ok HFB.out HR.out.ok) kx.2 kx.1 kx.1 _ rao rc _ w4 HN4.out (HR.out.later HL4.out).el HKP.out HOK.out HCO.out).mono ?_
     rintro e w5 ⟨rfl,hL5⟩
     have HL5 := hid (qag.trans _ _ _ HL4.out hL5)
     have HR5 := hid (HR4.out.later hL5)
     obtain ⟨c0,c1,c2,f0,f1,f2,cl⟩ := HR5.out.cells
     simp only [qaa] at c0 c1 c2
     obtain ⟨y,hy⟩ : ∃ y,qby cs row kx.2 = y := ⟨_,rfl⟩
     rw [hy] at HEV ⊢
     rw [vv y]
     clear hL5 p0 p1 pl hy
     go_wp2_with fail
     refine bodyPost_ret (results_pair rfl rfl rfl (HR5.out.set y)) rfl ⟨qae HL5.out (Nat.le_refl _) y,_,HRR.out,?_⟩
     rw [HEV.out]
     rfl
end Go.Proofs.YtgajofkeidjbgaaGreatDoor
