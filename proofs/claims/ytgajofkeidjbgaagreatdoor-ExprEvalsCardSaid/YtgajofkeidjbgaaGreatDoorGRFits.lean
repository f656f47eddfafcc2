/-
  PROVED HERE: a part of the proof of ExprEvals: RFits, BeforeV.
-/
import Derived.Test.YtgajofkeidjbgaaGreatDoorShort
import Derived.Test.YtgajofkeidjbgaaGreatDoorGFits
import Derived.Test.YtgajofkeidjbgaaGreatDoorGCompV
import Derived.Test.YtgajofkeidjbgaaGreatDoorGRefQuote
namespace Go.Proofs.YtgajofkeidjbgaaGreatDoor
set_option linter.unusedSimpArgs false
set_option linter.unusedVariables false
set_option maxHeartbeats 8000000
set_option maxRecDepth 100000
open Go.RowKit
theorem rfits_any (rao : Option Addr) (rc : Nat) (row : List Val) (ao : Option Addr) (c : Nat) (cs : List Col) (w : World) (hr : qcx w (.slice rao row.length rc) row) (hce : ColsEl w ao cs) (hlen : row.length ≤ 140737488355328 ∧ cs.length ≤ 140737488355328) :
  Calls Tryz.prog 15 #[.slice rao row.length rc,.slice ao cs.length c] w fun e w' => e = .returned (.bool (fitsP cs row)) ∧ qag w w' := by
 have HR := hid hr; have HCE := hid hce; have HLN := hid hlen
 clear hr hce hlen
 by_cases hne : row.length = cs.length
 case neg =>
  have HBAD : Hid (fitsP cs row = false) := hid (by unfold fitsP; rw [decide_eq_false hne]; rfl)
  have hq : ((row.length : Int) == (cs.length : Int)) = false := by rw [beq_eq_false_iff_ne]; omega
  have hq' : ((row.length : Int) != (cs.length : Int)) = true := by rw [bne,hq]; rfl
  clear hne
  go_enter Tryz.func15,Tryz.ntmps15
  go_wp2_with fail
  refine bodyPost_ret (results_tmp rfl _ _ _) rfl ⟨?_,qag.refl _⟩
  rw [HBAD.out]
  rfl
 have HNE := hid hne
 have hq : ((row.length : Int) == (cs.length : Int)) = true := by rw [beq_iff_eq]; omega
 have hq' : ((row.length : Int) != (cs.length : Int)) = false := by rw [bne,hq]; rfl
 clear hne
 go_enter Tryz.func15,Tryz.ntmps15
 go_wp2_with fail
 clear hq hq'
 obtain ⟨R1,hR1⟩ : ∃ RR_ : (Nat → Value) → World → Prop,RR_ = (fun us wx => ∃ i : Nat,us 5 = .int .i64 (i : Int) ∧ i ≤ row.length ∧ qag w wx ∧ ∀ j,j < i → j < row.length → fitV (row.getD j qaa) (cs.getD j ⟨[],0⟩) = true) := ⟨_,rfl⟩
 obtain ⟨mu1,hmu1⟩ : ∃ mu : (Nat → Value) → World → Nat,mu = (fun us _ => row.length - (intOf (us 5)).toNat) := ⟨_,rfl⟩
 have HR1 := hid hR1; have Hmu1 := hid hmu1; clear hR1 hmu1
 refine qal [ff,ff,ff,ff,true,true,true,ff,ff,ff,ff,ff,true,true,true,true,true,true,true,true,true,true,true,true,true,true,true,true,true,true,true,true,true,true,true,true,true,true,true,true,true,true,true,true,true,true] R1 _ mu1 HR1.out ?_ ?_
 ·exact ⟨0,rfl,Nat.zero_le _,qag.refl _,fun j h => absurd h (by omega)⟩
 intro us1 wx hrel
 obtain ⟨i,h5,hi,hL,hall⟩ := hrel
 simp only [qao,Nat.reduceAdd,h5]
 have Hh5 := hid h5; clear h5
 have HL := hid hL; have HALL := hid hall; have HI := hid hi
 clear hL hall hi
 by_cases hlt : i < row.length
 ·have HLT := hid hlt
  obtain ⟨a',c',hv,-,he⟩ := val_at HR.out
  obtain ⟨b,o,hao,p0,p1,p2⟩ := he i hlt
  simp only [Value.slice.injEq] at hv
  obtain ⟨rfl,-,rfl⟩ := hv
  subst hao
  obtain ⟨y,hy⟩ : ∃ y,row[i]'hlt = y := ⟨_,rfl⟩
  rw [hy] at p0 p1 p2
  have HGY : Hid (row.getD i qaa = y) := hid (by rw [List.getD_eq_getElem?_getD,List.getElem?_eq_getElem hlt,← hy]; rfl)
  replace p0 := HL.out.cell p0
  replace p1 := HL.out.cell p1
  replace p2 := HL.out.cell p2
  have hpl := qad p0
  obtain ⟨yk,yn,yt⟩ := y
  simp only at p0 p1 p2
  have HWK : Hid (wrap64 ((i : Int) + 1) = ((i + 1 : Nat) : Int)) := hid (by have := HLT.out; have := HLN.out; unfold wrap64; omega)
  have hii : (i : Int) < row.length := by omega
  have hic : i < cs.length := by have := HNE.out; omega
  have hi0 : (0 : Int) ≤ i := by omega
  have hi1 : (i : Int) < cs.length := by omega
  obtain ⟨vb,hvb⟩ : ∃ b,qbt ⟨yk,yn,yt⟩ = b := ⟨_,rfl⟩
  have HVB := hid hvb
  clear hvb hy he
  go_wp2_with fail
  refine (rvalid_any ⟨yk,yn,yt⟩ wx).mono ?_
  rintro e w2 ⟨rfl,hL2⟩
  have HL2 := hid (qag.trans _ _ _ HL.out hL2)
  rw [HVB.out]
  replace p0 := hL2.cell p0
  replace p1 := hL2.cell p1
  replace p2 := hL2.cell p2
  replace hpl := qad p0
  obtain ⟨cb,co,hcao,-,hcc⟩ := HCE.out i hic
  subst hcao
  obtain ⟨z,hz⟩ : ∃ z,cs[i]'hic = z := ⟨_,rfl⟩
  rw [hz] at hcc
  obtain ⟨d1,d2⟩ := hcc.later HL2.out
  have hdl := qad d1
  have HZ : Hid (cs.getD i ⟨[],0⟩ = z) := hid (by rw [List.getD_eq_getElem?_getD,List.getElem?_eq_getElem hic,← hz]; rfl)
  clear hz hcc hic hL2
  cases vb with
  | false =>
    have HBAD : Hid (fitsP cs row = false) := hid (fits_bad HLT.out (.inr (by rw [HGY.out]; unfold fitV; rw [HVB.out]; rfl)))
    go_upto_region 7 with (fail)
    refine qaj (by kernel_rfl) (by kernel_rfl) qag qag.refl qag.trans (fun _ => none) (fun _ _ _ _ _ h => by cases h) ?_
    simp only [qam,Nat.reduceAdd]
    refine LexS.out ?_
    iterate 23
     first
     | (refine LexS.skip rfl ?_; simp only [Act.put,sib,List.set])
     | (refine LexS.one' rfl rfl ?_
        apply Exists.intro
        refine ⟨fun w hR hF => ?_,?_⟩
        ·have hP := hR
         repeat (first | replace hP := qag.of_drew hP | replace hP := qag.of_drewN hP | replace hP := qag.of_alloc hP)
         have hcs := hR.cells
         have zp0 := hP.cell p0
         have zd1 := hP.cell d1
         have zd2 := hP.cell d2
         clear hR hF hP
         go_simp
         first | done | rfl
        simp only [Act.put,sib,List.set])
    refine LexS.nil ?_
    intro w3 hL3 hF9
    clear hF9
    repeat (first | replace hL3 := qag.of_drew hL3 | replace hL3 := qag.of_drewN hL3 | replace hL3 := qag.of_alloc hL3)
    have HL3 := hid (qag.trans _ _ _ HL2.out hL3)
    clear hL3 p0 p1 p2 d1 d2 hpl hdl
    go_wp2_with fail
    refine bodyPost_ret (results_tmp rfl _ _ _) rfl ⟨?_,HL3.out⟩
    rw [HBAD.out]
    rfl
  | true =>
    by_cases hk0 : yk = 0
    ·have HGD : Hid (fitV (row.getD i qaa) (cs.getD i ⟨[],0⟩) = true) := hid (by rw [HGY.out]; unfold fitV; rw [HVB.out]; simp [hk0])
     have hq0 : (yk == 0) = true := by simpa using hk0
     have hq1 : (yk != 0) = false := by simpa using hk0
     clear hk0
     go_upto_region 7 with (fail)
     refine qaj (by kernel_rfl) (by kernel_rfl) qag qag.refl qag.trans (fun _ => none) (fun _ _ _ _ _ h => by cases h) ?_
     simp only [qam,Nat.reduceAdd]
     refine LexS.out ?_
     iterate 23
      first
      | (refine LexS.skip rfl ?_; simp only [Act.put,sib,List.set])
      | (refine LexS.one' rfl rfl ?_
         apply Exists.intro
         refine ⟨fun w hR hF => ?_,?_⟩
         ·have hP := hR
          repeat (first | replace hP := qag.of_drew hP | replace hP := qag.of_drewN hP | replace hP := qag.of_alloc hP)
          have hcs := hR.cells
          have zp0 := hP.cell p0
          have zd1 := hP.cell d1
          have zd2 := hP.cell d2
          clear hR hF hP
          go_simp
          first | done | rfl
         simp only [Act.put,sib,List.set])
     refine LexS.nil ?_
     intro w3 hL3 hF9
     clear hF9
     repeat (first | replace hL3 := qag.of_drew hL3 | replace hL3 := qag.of_drewN hL3 | replace hL3 := qag.of_alloc hL3)
     have HL3 := hid (qag.trans _ _ _ HL2.out hL3)
     clear hL3 p0 p1 p2 d1 d2 hpl hdl
     go_wp2_with fail
     try simp only [HWK.out]
     refine Round.mk' HR1.out Hmu1.out rfl ?_ ?_
     ·refine ⟨i + 1,rfl,HLT.out,HL3.out,fun j hj hj2 => ?_⟩
      by_cases hji : j = i
      ·subst hji; exact HGD.out
      ·exact HALL.out j (by omega) hj2
     ·rw [Hh5.out]; have := HLT.out; simp [intOf,qas]; omega
    ·have hq0 : (yk == 0) = false := by simpa using hk0
     have hq1 : (yk != 0) = true := by simpa using hk0
     by_cases hkz : yk = z.k
     ·have HGD : Hid (fitV (row.getD i qaa) (cs.getD i ⟨[],0⟩) = true) := hid (by rw [HGY.out,HZ.out]; unfold fitV; rw [HVB.out]; simp [hkz])
      have hq2 : (yk == z.k) = true := by simpa using hkz
      have hq3 : (yk != z.k) = false := by simpa using hkz
      clear hk0 hkz
      go_upto_region 7 with (fail)
      refine qaj (by kernel_rfl) (by kernel_rfl) qag qag.refl qag.trans (fun _ => none) (fun _ _ _ _ _ h => by cases h) ?_
      simp only [qam,Nat.reduceAdd]
      refine LexS.out ?_
      iterate 23
       first
       | (refine LexS.skip rfl ?_; simp only [Act.put,sib,List.set])
       | (refine LexS.one' rfl rfl ?_
          apply Exists.intro
          refine ⟨fun w hR hF => ?_,?_⟩
          ·have hP := hR
           repeat (first | replace hP := qag.of_drew hP | replace hP := qag.of_drewN hP | replace hP := qag.of_alloc hP)
           have hcs := hR.cells
           have zp0 := hP.cell p0
           have zd1 := hP.cell d1
           have zd2 := hP.cell d2
           clear hR hF hP
           go_simp
           first | done | rfl
          simp only [Act.put,sib,List.set])
      refine LexS.nil ?_
      intro w3 hL3 hF9
      clear hF9
      repeat (first | replace hL3 := qag.of_drew hL3 | replace hL3 := qag.of_drewN hL3 | replace hL3 := qag.of_alloc hL3)
      have HL3 := hid (qag.trans _ _ _ HL2.out hL3)
      clear hL3 p0 p1 p2 d1 d2 hpl hdl
      go_wp2_with fail
      try simp only [HWK.out]
      refine Round.mk' HR1.out Hmu1.out rfl ?_ ?_
      ·refine ⟨i + 1,rfl,HLT.out,HL3.out,fun j hj hj2 => ?_⟩
       by_cases hji : j = i
       ·subst hji; exact HGD.out
       ·exact HALL.out j (by omega) hj2
      ·rw [Hh5.out]; have := HLT.out; simp [intOf,qas]; omega
     ·have HBAD : Hid (fitsP cs row = false) := hid (fits_bad HLT.out (.inr (by rw [HGY.out,HZ.out]; unfold fitV; rw [HVB.out]; simp [hkz,hk0])))
      have hq2 : (yk == z.k) = false := by simpa using hkz
      have hq3 : (yk != z.k) = true := by simpa using hkz
      clear hk0 hkz
      go_upto_region 7 with (fail)
      refine qaj (by kernel_rfl) (by kernel_rfl) qag qag.refl qag.trans (fun _ => none) (fun _ _ _ _ _ h => by cases h) ?_
      simp only [qam,Nat.reduceAdd]
      refine LexS.out ?_
      iterate 23
       first
       | (refine LexS.skip rfl ?_; simp only [Act.put,sib,List.set])
       | (refine LexS.one' rfl rfl ?_
          apply Exists.intro
          refine ⟨fun w hR hF => ?_,?_⟩
          ·have hP := hR
           repeat (first | replace hP := qag.of_drew hP | replace hP := qag.of_drewN hP | replace hP := qag.of_alloc hP)
           have hcs := hR.cells
           have zp0 := hP.cell p0
           have zd1 := hP.cell d1
           have zd2 := hP.cell d2
           clear hR hF hP
           go_simp
           first | done | rfl
          simp only [Act.put,sib,List.set])
      refine LexS.nil ?_
      intro w3 hL3 hF9
      clear hF9
      repeat (first | replace hL3 := qag.of_drew hL3 | replace hL3 := qag.of_drewN hL3 | replace hL3 := qag.of_alloc hL3)
      have HL3 := hid (qag.trans _ _ _ HL2.out hL3)
      clear hL3 p0 p1 p2 d1 d2 hpl hdl
      go_wp2_with fail
      refine bodyPost_ret (results_tmp rfl _ _ _) rfl ⟨?_,HL3.out⟩
      rw [HBAD.out]
      rfl
 ·obtain rfl : i = row.length := by have := HI.out; omega
  have HF : Hid (fitsP cs row = true) := hid (by rw [fits_all fun j hj => ⟨by have := HNE.out; omega,HALL.out j hj hj⟩]; exact decide_eq_true HNE.out)
  have hii : ¬ (row.length : Int) < row.length := by omega
  clear hlt
  go_wp2_with fail
  refine bodyPost_ret (results_tmp rfl _ _ _) rfl ⟨?_,HL.out⟩
  rw [HF.out]
  rfl
end Go.Proofs.YtgajofkeidjbgaaGreatDoor
namespace Go.Proofs.YtgajofkeidjbgaaGreatDoor
set_option linter.unusedSimpArgs false
set_option linter.unusedVariables false
open Go.ChangeShapes Go.WideShapes Go.ChangeAt Go.RowKit
attribute [local go_sem high] qdq qdp
theorem qbi (x y : Val) (w : World) :
  Calls Tryz.prog 61 #[x.v,y.v] w fun e w' => e = .returned (.bool (beforeV x y)) ∧ qag w w' := by
 obtain ⟨k1,n1,t1⟩ := x
 obtain ⟨k2,n2,t2⟩ := y
 by_cases hk : k1 = k2
 ·by_cases hn : n1 = n2
  ·subst hk hn
   have HR : Hid (beforeV ⟨k1,n1,t1⟩ ⟨k1,n1,t2⟩ = Op.bytesLess t1.toList t2.toList) := hid (by simp [beforeV,str])
   go_enter Tryz.func61,Tryz.ntmps61
   go_wp2
   go_ret
   exact ⟨qbu HR.out.symm,((qag.refl _).alloc' _).alloc' _⟩
  ·subst hk
   have HR : Hid (beforeV ⟨k1,n1,t1⟩ ⟨k1,n2,t2⟩ = decide (n1 < n2)) := hid (by simp [beforeV,hn])
   have hn' : (n1 != n2) = true := by simpa using hn
   clear hn
   go_enter Tryz.func61,Tryz.ntmps61
   go_wp2
   go_ret
   exact ⟨qbu HR.out.symm,((qag.refl _).alloc' _).alloc' _⟩
 ·have HR : Hid (beforeV ⟨k1,n1,t1⟩ ⟨k2,n2,t2⟩ = decide (k1 < k2)) := hid (by simp [beforeV,hk])
  have hn' : (k1 != k2) = true := by simpa using hk
  clear hk
  go_enter Tryz.func61,Tryz.ntmps61
  go_wp2
  go_ret
  exact ⟨qbu HR.out.symm,((qag.refl _).alloc' _).alloc' _⟩
end Go.Proofs.YtgajofkeidjbgaaGreatDoor
