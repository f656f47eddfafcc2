/-
  PROVED HERE: a part of the proof of ExprEvals: ExprCols, ParCost.
-/
import Derived.Test.YtgajofkeidjbgaaGreatDoorShort
import Derived.Test.YtgajofkeidjbgaaGreatDoorGExprIdx
import Derived.Test.YtgajofkeidjbgaaGreatDoorGRefParse
import Derived.Test.YtgajofkeidjbgaaGreatDoorGLevelOf
import Derived.Test.YtgajofkeidjbgaaGreatDoorGParText
namespace Go.Proofs.YtgajofkeidjbgaaGreatDoor
set_option linter.unusedSimpArgs false
set_option linter.unusedVariables false
set_option maxHeartbeats 4000000
set_option maxRecDepth 100000
open Go.RowKit
def goP : List Col → List Col → Bool
 | _,[] => true
 | pre,c :: r => (namedP c.s && (decide (1 ≤ c.k ∧ c.k ≤ 3) && !(pre.any fun d => d.s == c.s))) && goP (pre ++ [c]) r
def colsP (cs : List Col) : Bool := goP [] cs && decide (cs.length ≤ 8)
theorem go_step {cs : List Col} {i : Nat} (h : i < cs.length) : goP (cs.take i) (cs.drop i) = ((namedP cs[i].s && (decide (1 ≤ cs[i].k ∧ cs[i].k ≤ 3) && !((cs.take i).any fun d => d.s == cs[i].s))) && goP (cs.take (i + 1)) (cs.drop (i + 1))) := by
 rw [List.drop_eq_getElem_cons h,List.take_succ_eq_append_getElem h]
 rfl
theorem colsP_ok {cs : List Col} (h : colsP cs = true) : ColsOk cs := by
 unfold colsP at h
 have h1 : ∀ (r pre : List Col),goP pre r = true → ∀ c ∈ r,K3 c.k := by
  intro r
  induction r with
  | nil => intro pre _ c hc; cases hc
  | cons d r ih =>
    intro pre h c hc
    unfold goP at h
    simp only [Bool.and_eq_true,decide_eq_true_eq] at h
    rcases List.mem_cons.1 hc with rfl | hc
    ·have := h.1.2.1; unfold K3; omega
    ·exact ih _ h.2 c hc
 rw [Bool.and_eq_true] at h
 exact h1 cs [] h.1
theorem columns_any (ao : Option Addr) (c : Nat) (cs : List Col) (w : World) (hel : ColsEl w ao cs) (hlen : cs.length ≤ c ∧ cs.length ≤ 140737488355328) (hs : ∀ x ∈ cs,x.s.length ≤ 140737488355328) :
  Calls Tryz.prog 54 #[.slice ao cs.length c] w fun e w' => e = .returned (.bool (colsP cs)) ∧ qag w w' := by
 have HEL := hid hel; have HLN := hid hlen; have HS := hid hs
 clear hel hlen hs
 go_enter Tryz.func54,Tryz.ntmps54
 go_wp2_with fail
 obtain ⟨R1,hR1⟩ : ∃ RR_ : (Nat → Value) → World → Prop,RR_ = (fun us wx => ∃ i : Nat,us 8 = .int .i64 (i : Int) ∧ i ≤ cs.length ∧ goP [] cs = goP (cs.take i) (cs.drop i) ∧ qag w wx) := ⟨_,rfl⟩
 obtain ⟨mu1,hmu1⟩ : ∃ mu : (Nat → Value) → World → Nat,mu = (fun us _ => cs.length - (intOf (us 8)).toNat) := ⟨_,rfl⟩
 have HR1 := hid hR1; have Hmu1 := hid hmu1; clear hR1 hmu1
 refine qal [ff,ff,true,true,true,true,ff,ff,true,true,true,true,true,true,true,true,true,true,true,true,true,true,true,true,true,true,true,true,true,true,true,true,true,true,true,true] R1 _ mu1 HR1.out ?_ ?_
 ·exact ⟨0,rfl,Nat.zero_le _,rfl,qag.refl _⟩
 intro us1 wx hrel
 obtain ⟨i,h8,hi,hgo,hL⟩ := hrel
 simp only [qao,Nat.reduceAdd,h8]
 have Hh8 := hid h8; clear h8
 have HI := hid hi; have HGO := hid hgo; have HL := hid hL
 clear hi hgo hL
 by_cases hlt : i < cs.length
 ·have HLT := hid hlt
  have HSTEP := hid (HGO.out.trans (go_step HLT.out))
  obtain ⟨b,o,rfl,-,hc⟩ := HEL.out i hlt
  obtain ⟨y,hy⟩ : ∃ y,cs[i]'HLT.out = y := ⟨_,rfl⟩
  rw [hy] at hc HSTEP
  have HYS : Hid (y.s.length ≤ 140737488355328) := hid (HS.out y (hy ▸ List.getElem_mem _))
  obtain ⟨p1,p2⟩ := hc.later HL.out
  have hg := qad p1
  have HWK : Hid (wrap64 ((i : Int) + 1) = ((i + 1 : Nat) : Int)) := hid (by have := HLT.out; have := HLN.out; unfold wrap64; omega)
  clear hy hc
  go_upto_region 4 with (fail)
  obtain ⟨T,hT⟩ : ∃ T,T = wx.heap.size := ⟨_,rfl⟩
  obtain ⟨w2,hw2⟩ : ∃ w2,w2 = wx.alloc (.cells #[.string (qah y.s),.int .i64 y.k] 35) := ⟨_,rfl⟩
  have hL2 : qag wx w2 := hw2 ▸ qag.alloc _ _
  have hT2 : w2.heap[T]? = some (.cells #[.string (qah y.s),.int .i64 y.k] 35 (0,0)) := by rw [hw2,hT]; exact qap _ _
  rw [← hw2,← hT]
  have HL2 := hid (qag.trans _ _ _ HL.out hL2)
  have HT2 := hid hT2
  have t0 : w2.cell? ⟨T,0,none⟩ = some (.string (qah y.s)) := qac (i := 0) hT2 rfl
  have htl := qad t0
  clear hT hw2 hL2 hT2 p1 p2 hg
  go_wp2_with fail
  refine (named_any y.s w2 HYS.out).mono ?_
  rintro e w3 ⟨rfl,hL3⟩
  have HL3 := hid (qag.trans _ _ _ HL2.out hL3)
  have hT3 := hL3.obj HT2.out
  have t0 : w3.cell? ⟨T,0,none⟩ = some (.string (qah y.s)) := qac (i := 0) hT3 rfl
  have t1 : w3.cell? ⟨T,1,none⟩ = some (.int .i64 y.k) := qac (i := 1) hT3 rfl
  have htl := qad t0
  have HT0 := hid t0
  obtain ⟨bn,hbn⟩ : ∃ b,namedP y.s = b := ⟨_,rfl⟩
  rw [hbn] at HSTEP ⊢
  clear hL3 hT3 hbn
  cases bn with
  | false =>
    go_wp2_with fail
    refine bodyPost_ret (results_tmp rfl _ _ _) rfl ⟨?_,HL3.out⟩
    unfold colsP
    rw [HSTEP.out]
    rfl
  | true =>
    by_cases hk1 : y.k < 1
    ·have HK : Hid (decide (1 ≤ y.k ∧ y.k ≤ 3) = false) := hid (decide_eq_false (by omega))
     go_wp2_with fail
     refine bodyPost_ret (results_tmp rfl _ _ _) rfl ⟨?_,HL3.out⟩
     unfold colsP
     rw [HSTEP.out,HK.out]
     simp
    ·by_cases hk3 : 3 < y.k
     ·have HK : Hid (decide (1 ≤ y.k ∧ y.k ≤ 3) = false) := hid (decide_eq_false (by omega))
      go_wp2_with fail
      refine bodyPost_ret (results_tmp rfl _ _ _) rfl ⟨?_,HL3.out⟩
      unfold colsP
      rw [HSTEP.out,HK.out]
      simp
     ·have HK : Hid (decide (1 ≤ y.k ∧ y.k ≤ 3) = true) := hid (decide_eq_true (by omega))
      have hic : (i : Int) ≤ c := by have := HLN.out.1; omega
      have hi0 : (0 : Int) ≤ i := by omega
      have HCT := hid (containsc 82 (enters_of Tryz.func82 (by kernel_rfl) rfl) #[.pointer (some ⟨T,0,none⟩)] (some ⟨b,o,none⟩) c (cs.take i) w3 (fun d => d.s == y.s) (cols_later (cols_take HEL.out i) HL3.out) (by rw [List.length_take]; have := HLN.out; omega)
       (fun x _ w' hw' => columns1_any x y.s T w' (hw'.cell HT0.out)))
      rw [List.length_take,Nat.min_eq_left (Nat.le_of_lt HLT.out)] at HCT
      go_wp2_with fail
      refine HCT.out.mono ?_
      rintro e w4 ⟨rfl,hL4⟩
      have HL4 := hid (qag.trans _ _ _ HL3.out hL4)
      obtain ⟨ba,hba⟩ : ∃ b,((cs.take i).any fun d => d.s == y.s) = b := ⟨_,rfl⟩
      rw [hba] at HSTEP ⊢
      clear hL4 hba HCT t0 t1 htl hic hi0
      cases ba with
      | true =>
        go_wp2_with fail
        refine bodyPost_ret (results_tmp rfl _ _ _) rfl ⟨?_,HL4.out⟩
        unfold colsP
        rw [HSTEP.out,HK.out]
        rfl
      | false =>
        go_wp2_with fail
        try simp only [HWK.out]
        refine Round.mk' HR1.out Hmu1.out rfl ?_ ?_
        ·exact ⟨i + 1,rfl,HLT.out,by rw [HSTEP.out,HK.out]; rfl,HL4.out⟩
        ·rw [Hh8.out]; have := HLT.out; simp [intOf,qas]; omega
 ·have hie : i = cs.length := by have := HI.out; omega
  have HALL : Hid (goP [] cs = true) := hid (by rw [HGO.out,List.drop_eq_nil_of_le (by omega)]; rfl)
  go_wp2_with fail
  refine bodyPost_ret (results_tmp rfl _ _ _) rfl ⟨?_,HL.out⟩
  unfold colsP
  rw [HALL.out]
  have : decide ((cs.length : Int) ≤ 8) = decide (cs.length ≤ 8) := by rw [decide_eq_decide]; omega
  simp [this]
theorem rcolumns_any (ao : Option Addr) (c : Nat) (cs : List Col) (w : World) (hel : ColsEl w ao cs) (hlen : cs.length ≤ 140737488355328) (hs : ∀ x ∈ cs,x.s.length ≤ 140737488355328) :
  Calls Tryz.prog 30 #[.slice ao cs.length c] w fun e w' => e = .returned (.bool (colsP cs)) ∧ qag w w' := by
 have HEL := hid hel; have HLN := hid hlen; have HS := hid hs
 clear hel hlen hs
 go_enter Tryz.func30,Tryz.ntmps30
 go_wp2_with fail
 obtain ⟨R1,hR1⟩ : ∃ RR_ : (Nat → Value) → World → Prop,RR_ = (fun us wx => ∃ i : Nat,us 3 = .int .i64 (i : Int) ∧ i ≤ cs.length ∧ goP [] cs = goP (cs.take i) (cs.drop i) ∧ qag w wx) := ⟨_,rfl⟩
 obtain ⟨mu1,hmu1⟩ : ∃ mu : (Nat → Value) → World → Nat,mu = (fun us _ => cs.length - (intOf (us 3)).toNat) := ⟨_,rfl⟩
 have HR1 := hid hR1; have Hmu1 := hid hmu1; clear hR1 hmu1
 refine qal [ff,ff,true,true,true,true,true,true,true,true,true,true,true,true,true,true,true,true,true,true,true,true,true,true,true,true,true,true,true,true,true,true,true,true,true,true,true,true,true,true,true,true,true,true,true,true,true,true,true,true,true,true] R1 _ mu1 HR1.out ?_ ?_
 ·exact ⟨0,rfl,Nat.zero_le _,rfl,qag.refl _⟩
 intro us1 wx hrel
 obtain ⟨i,h3,hi,hgo,hL⟩ := hrel
 simp only [qao,Nat.reduceAdd,h3]
 have Hh3 := hid h3; clear h3
 have HI := hid hi; have HGO := hid hgo; have HL := hid hL
 clear hi hgo hL
 by_cases hlt : i < cs.length
 ·have HLT := hid hlt
  have HSTEP := hid (HGO.out.trans (go_step HLT.out))
  obtain ⟨b,o,rfl,-,hc⟩ := HEL.out i hlt
  obtain ⟨y,hy⟩ : ∃ y,cs[i]'HLT.out = y := ⟨_,rfl⟩
  rw [hy] at hc HSTEP
  have HYS : Hid (y.s.length ≤ 140737488355328) := hid (HS.out y (hy ▸ List.getElem_mem _))
  obtain ⟨p1,p2⟩ := hc.later HL.out
  have hg := qad p1
  have HP1 := hid p1
  have HWK : Hid (wrap64 ((i : Int) + 1) = ((i + 1 : Nat) : Int)) := hid (by have := HLT.out; have := HLN.out; unfold wrap64; omega)
  clear hy hc
  go_wp2_with fail
  refine (rnamed_any y.s wx HYS.out).mono ?_
  rintro e w3 ⟨rfl,hw3⟩
  subst w3
  obtain ⟨bn,hbn⟩ : ∃ b,namedP y.s = b := ⟨_,rfl⟩
  rw [hbn] at HSTEP ⊢
  clear hbn
  cases bn with
  | false =>
    go_wp2_with fail
    refine bodyPost_ret (results_tmp rfl _ _ _) rfl ⟨?_,HL.out⟩
    unfold colsP
    rw [HSTEP.out]
    rfl
  | true =>
    by_cases hk1 : y.k < 1
    ·have HK : Hid (decide (1 ≤ y.k ∧ y.k ≤ 3) = false) := hid (decide_eq_false (by omega))
     go_wp2_with fail
     refine bodyPost_ret (results_tmp rfl _ _ _) rfl ⟨?_,HL.out⟩
     unfold colsP
     rw [HSTEP.out,HK.out]
     simp
    ·by_cases hk3 : 3 < y.k
     ·have HK : Hid (decide (1 ≤ y.k ∧ y.k ≤ 3) = false) := hid (decide_eq_false (by omega))
      go_wp2_with fail
      refine bodyPost_ret (results_tmp rfl _ _ _) rfl ⟨?_,HL.out⟩
      unfold colsP
      rw [HSTEP.out,HK.out]
      simp
     ·have HK : Hid (decide (1 ≤ y.k ∧ y.k ≤ 3) = true) := hid (decide_eq_true (by omega))
      go_wp2_with fail
      clear hk1 hk3 p1 p2 hg
      obtain ⟨R2,hR2⟩ : ∃ RR_ : (Nat → Value) → World → Prop,RR_ = (fun us wq => ∃ k : Nat,us 5 = .int .i64 (k : Int) ∧ k ≤ i ∧ ((cs.take k).any fun d => d.s == y.s) = false ∧ qag w wq) := ⟨_,rfl⟩
      obtain ⟨mu2,hmu2⟩ : ∃ mu : (Nat → Value) → World → Nat,mu = (fun us _ => i - (intOf (us 5)).toNat) := ⟨_,rfl⟩
      have HR2 := hid hR2; have Hmu2 := hid hmu2; clear hR2 hmu2
      refine qal [ff,ff,true,ff,ff,true,ff,ff,ff,ff,ff,ff,ff,ff,ff,ff,ff,ff,ff,ff,ff,ff,ff,ff,ff,ff,ff,ff,ff,ff,ff,ff,ff,ff,ff,ff,true,true,true,true,true,true,true,true,true,true,true,true,true,true,true,true] R2 _ mu2 HR2.out ?_ ?_
      ·exact ⟨0,rfl,Nat.zero_le _,rfl,HL.out⟩
      intro us2 wq hrel
      obtain ⟨k,h5,hk,hany,hLq⟩ := hrel
      simp only [qao,Nat.reduceAdd,h5]
      have Hh5 := hid h5; clear h5
      have HKI := hid hk; have HAN := hid hany; have HLQ := hid hLq
      clear hk hany hLq
      by_cases hki : k < i
      ·have HKT := hid hki
       have hkc : k < cs.length := by have := HLT.out; omega
       have HKC := hid hkc
       obtain ⟨b',o',hb,-,hcx⟩ := HEL.out k hkc
       simp only [Option.some.injEq,Addr.mk.injEq,and_true] at hb
       obtain ⟨rfl,rfl⟩ := hb
       obtain ⟨z,hz⟩ : ∃ z,cs[k]'hkc = z := ⟨_,rfl⟩
       rw [hz] at hcx
       have HZ := hid hz
       have q1 := (hcx.later HLQ.out).1
       have q2 : wq.cell? ⟨b,o + i * 2,none⟩ = some (.string (qah y.s)) := by
        obtain ⟨b',o',hb,-,hcy⟩ := HEL.out i HLT.out
        simp only [Option.some.injEq,Addr.mk.injEq,and_true] at hb
        obtain ⟨rfl,rfl⟩ := hb
        have h1 := (hcy.later HL.out).1.symm.trans HP1.out
        have h2 := (hcy.later HLQ.out).1
        rw [h2]
        simpa using h1
       have hki' : (k : Int) < i := by omega
       have hkl : (k : Int) < cs.length := by omega
       have hil : (i : Int) < cs.length := by omega
       have HWK2 : Hid (wrap64 ((k : Int) + 1) = ((k + 1 : Nat) : Int)) := hid (by have := HLT.out; have := HLN.out; have := HKT.out; unfold wrap64; omega)
       obtain ⟨bs,hbs⟩ : ∃ b,(z.s == y.s) = b := ⟨_,rfl⟩
       have hse : ((qah z.s).toList == (qah y.s).toList) = bs := by rw [qan,qan]; exact hbs
       have HNX : Hid (((cs.take (k + 1)).any fun d => d.s == y.s) = bs) := hid (by
        rw [List.take_succ_eq_append_getElem HKC.out,List.any_append,HAN.out,HZ.out]
        simp only [List.any_cons,List.any_nil,Bool.or_false,Bool.false_or]
        exact hbs)
       clear hz hcx hbs hki
       go_upto_region 10 with (fail)
       refine qaj (by kernel_rfl) (by kernel_rfl) qag qag.refl qag.trans (fun _ => none) (fun _ _ _ _ _ h => by cases h) ?_
       simp only [qam,Nat.reduceAdd]
       refine LexS.out ?_
       iterate 11
        first
        | (refine LexS.skip rfl ?_; simp only [Act.put,sib,List.set])
        | (refine LexS.one' rfl rfl ?_
           apply Exists.intro
           refine ⟨fun w hR hF => ?_,?_⟩
           ·have hP := hR
            repeat (first | replace hP := qag.of_drew hP | replace hP := qag.of_drewN hP | replace hP := qag.of_alloc hP)
            have hcs := hR.cells
            have zq1 := hP.cell q1
            have zq2 := hP.cell q2
            clear hR hF hP
            go_simp
            first | done | rfl
           simp only [Act.put,sib,List.set])
       refine LexS.nil ?_
       intro w5 hL5 hF9
       clear hF9
       repeat (first | replace hL5 := qag.of_drew hL5 | replace hL5 := qag.of_drewN hL5 | replace hL5 := qag.of_alloc hL5)
       have HL5 := hid (qag.trans _ _ _ HLQ.out hL5)
       clear hL5 q1 q2
       cases bs with
       | true =>
         go_wp2_with fail
         refine bodyPost_ret (results_tmp rfl _ _ _) rfl ⟨?_,HL5.out⟩
         have hany : ((cs.take i).any fun d => d.s == y.s) = true := by
          rw [List.any_eq_true]
          exact ⟨cs[k]'HKC.out,by rw [List.mem_take_iff_getElem]; exact ⟨k,by have := HKT.out; have := HLT.out; omega,rfl⟩,by
           have h := HNX.out
           rw [List.take_succ_eq_append_getElem HKC.out,List.any_append,HAN.out] at h
           simpa using h⟩
         unfold colsP
         rw [HSTEP.out,HK.out,hany]
         rfl
       | false =>
         go_wp2_with fail
         try simp only [HWK2.out]
         refine Round.mk' HR2.out Hmu2.out rfl ?_ ?_
         ·exact ⟨k + 1,rfl,HKT.out,HNX.out,HL5.out⟩
         ·rw [Hh5.out]; have := HKT.out; simp [intOf,qas]; omega
      ·have hke : k = i := by have := HKI.out; omega
       subst hke
       have hki' : ¬ (k : Int) < k := by omega
       go_wp2_with fail
       try simp only [HWK.out]
       refine Round.mk' HR1.out Hmu1.out rfl ?_ ?_
       ·exact ⟨k + 1,rfl,HLT.out,by rw [HSTEP.out,HK.out,HAN.out]; rfl,HLQ.out⟩
       ·rw [Hh3.out]; have := HLT.out; simp [intOf,qas]; omega
 ·have hie : i = cs.length := by have := HI.out; omega
  have HALL : Hid (goP [] cs = true) := hid (by rw [HGO.out,List.drop_eq_nil_of_le (by omega)]; rfl)
  go_wp2_with fail
  refine bodyPost_ret (results_tmp rfl _ _ _) rfl ⟨?_,HL.out⟩
  unfold colsP
  rw [HALL.out]
  have : decide ((cs.length : Int) ≤ 8) = decide (cs.length ≤ 8) := by rw [decide_eq_decide]; omega
  simp [this]
end Go.Proofs.YtgajofkeidjbgaaGreatDoor
namespace Go.Proofs.YtgajofkeidjbgaaGreatDoor
set_option linter.unusedSimpArgs false
set_option linter.unusedVariables false
open Go Go.RowKit
def qbp (l : List Tok) : Nat := match l with
 | [] => 0
 | t :: l => t.t.length + 8 + qbp l
def costJ : Job → Nat
 | .loop _ x => qbj x
 | .args f _ acc => f.length + 2 + qck acc + (if acc = [] then 2 else 0)
 | _ => 0
theorem qdm {l : List Tok} (h : l ≠ []) : qbp l = (hdT l).t.length + 8 + qbp l.tail := by
 cases l with
 | nil => exact absurd rfl h
 | cons t l => rfl
theorem weight_tail_le (l : List Tok) : qbp l.tail ≤ qbp l := by
 cases l with
 | nil => exact Nat.le_refl _
 | cons t l => show qbp l ≤ t.t.length + 8 + qbp l; omega
theorem isW_ne {l : List Tok} {x : List UInt8} (h : isW (hdT l) x = true) (hx : x ≠ []) : l ≠ [] := by
 intro e
 subst e
 unfold isW at h
 simp only [Bool.and_eq_true,beq_iff_eq] at h
 exact hx h.1.symm
theorem isW_len {t : Tok} {x : List UInt8} (h : isW t x = true) : t.t.length = x.length := by
 unfold isW at h
 simp only [Bool.and_eq_true,beq_iff_eq] at h
 rw [h.1]
theorem costs_add (l : List Ex) (x : Ex) : qck (l ++ [x]) = qck l + 2 + qbj x := by
 induction l with
 | nil => show qck [x] = _; unfold qck; unfold qck; omega
 | cons y l ih =>
   show qck (y :: (l ++ [x])) = _
   conv => lhs; unfold qck
   conv => rhs; unfold qck
   rw [ih]; omega
theorem read_show {s : List UInt8} {v : Val} (h : qci s = some v) : qbs v = s := by
 unfold qci at h
 split at h
 ·rename_i hs
  obtain rfl := Option.some.inj h
  exact hs
 ·cases h
theorem any_ne {L : Nat} {l : List Tok} (h : (qaw L).any (isW (hdT l)) = true) : l ≠ [] := by
 intro e
 subst e
 have := lvl_op h
 exact absurd this (by decide)
theorem parse_cost : ∀ (n : Nat) (j : Job) (d : Nat) (l : List Tok) (x : Ex) (r : List Tok),(match j with | .climb _ => False | .cloop _ _ _ _ => False | _ => True) → qai true n j d l = some (.ok (x,r)) → qbj x + qbp r ≤ qbp l + costJ j
 | 0,_,_,_,_,_,_,h => by unfold qai at h; cases h
 | n + 1,j,d,l,x,r,hj,h => by
   have ih := parse_cost n
   unfold qai at h
   cases j with
   | climb q => exact hj.elim
   | cloop q m f y0 => exact hj.elim
   | bin L =>
     simp only at h
     show _ ≤ qbp l + 0
     split at h
     ·exact ih _ _ _ _ _ trivial h
     ·split at h
      ·rename_i hw
       split at h
       ·cases h
       ·cases hc : qai true n (.bin 2) (d + 1) l.tail with
        | none => rw [hc] at h; cases h
        | some v =>
          rw [hc] at h
          cases v with
          | error e => cases h
          | ok y =>
            obtain ⟨y,r1⟩ := y
            have i1 := ih _ _ _ _ _ trivial hc
            cases h
            have h1 := qdm (isW_ne hw.2 (by decide))
            have h2 : costJ (.bin 2) = 0 := rfl
            have h3 : qbj (.un false (hdT l).p y) = 6 + qbj y := by conv => lhs; unfold qbj
            have h4 := isW_len hw.2
            simp only [List.length_cons,List.length_nil] at h4
            show qbj (.un false (hdT l).p y) + qbp r1 ≤ _
            omega
      ·cases hc : qai true n (.bin (L + 1)) d l with
       | none => rw [hc] at h; cases h
       | some v =>
         rw [hc] at h
         cases v with
         | error e => cases h
         | ok y =>
           obtain ⟨y,r1⟩ := y
           have i1 := ih _ _ _ _ _ trivial hc
           have i2 := ih _ _ _ _ _ trivial h
           have h2 : costJ (.bin (L + 1)) = 0 := rfl
           have h3 : costJ (.loop L y) = qbj y := rfl
           have i2' : qbj x + qbp r ≤ qbp r1 + qbj y := i2
           omega
   | loop L y0 =>
     simp only at h
     show _ ≤ qbp l + qbj y0
     split at h
     ·rename_i hop
      have h1 := qdm (any_ne hop)
      cases hc : qai true n (.bin (L + 1)) d l.tail with
      | none => rw [hc] at h; cases h
      | some v =>
        rw [hc] at h
        cases v with
        | error e => cases h
        | ok y =>
          obtain ⟨y,r1⟩ := y
          have i1 := ih _ _ _ _ _ trivial hc
          have h2 : costJ (.bin (L + 1)) = 0 := rfl
          have h3 : qbj (.bin (hdT l).t (hdT l).p y0 y) = (hdT l).t.length + 4 + qbj y0 + qbj y := by conv => lhs; unfold qbj
          change (if L = 2 then PR.ok (Ex.bin (hdT l).t (hdT l).p y0 y,r1) else qai true n (.loop L (.bin (hdT l).t (hdT l).p y0 y)) d r1) = some (.ok (x,r)) at h
          split at h
          ·cases h
           omega
          ·have i2 : qbj x + qbp r ≤ qbp r1 + qbj (.bin (hdT l).t (hdT l).p y0 y) := ih _ _ _ _ _ trivial h
           omega
     ·cases h; omega
   | args f p acc =>
     simp only at h
     show _ ≤ qbp l + (f.length + 2 + qck acc + (if acc = [] then 2 else 0))
     split at h
     ·cases h
      have h1 := weight_tail_le l
      have h3 : qbj (.call f p acc) = f.length + 2 + qck acc := by conv => lhs; unfold qbj
      omega
     ·split at h
      ·cases h
      ·rename_i hcm
       cases hc : qai true n (topJ true) d (if acc = [] then l else l.tail) with
       | none => rw [hc] at h; cases h
       | some v =>
         rw [hc] at h
         cases v with
         | error e => cases h
         | ok y =>
           obtain ⟨y,r1⟩ := y
           have i1 : qbj y + qbp r1 ≤ qbp (if acc = [] then l else l.tail) + 0 := ih _ _ _ _ _ trivial hc
           have i2 : qbj x + qbp r ≤ qbp r1 + (f.length + 2 + qck (acc ++ [y]) + (if acc ++ [y] = [] then 2 else 0)) := ih _ _ _ _ _ trivial h
           rw [if_neg (by simp),costs_add] at i2
           by_cases ha : acc = []
           ·rw [if_pos ha] at i1 ⊢
            omega
           ·rw [if_neg ha] at i1 ⊢
            have hw : isW (hdT l) qdz = true := by
             refine Decidable.byContradiction fun hn => hcm ⟨ha,hn⟩
            have h1 := qdm (isW_ne hw (by decide))
            omega
   | un =>
     simp only at h
     show _ ≤ qbp l + 0
     split at h
     ·rename_i hw
      split at h
      ·cases h
      ·cases hc : qai true n .un (d + 1) l.tail with
       | none => rw [hc] at h; cases h
       | some v =>
         rw [hc] at h
         cases v with
         | error e => cases h
         | ok y =>
           obtain ⟨y,r1⟩ := y
           have i1 : qbj y + qbp r1 ≤ qbp l.tail + 0 := ih _ _ _ _ _ trivial hc
           cases h
           have h1 := qdm (isW_ne hw (by decide))
           have h3 : qbj (.un true (hdT l).p y) = 6 + qbj y := by conv => lhs; unfold qbj
           show qbj (.un true (hdT l).p y) + qbp r1 ≤ _
           omega
     ·split at h
      ·split at h
       ·cases h
       ·cases hc : qai true n (topJ true) (d + 1) l.tail with
        | none => rw [hc] at h; cases h
        | some v =>
          rw [hc] at h
          cases v with
          | error e => cases h
          | ok y =>
            obtain ⟨y,r1⟩ := y
            have i1 : qbj y + qbp r1 ≤ qbp l.tail + 0 := ih _ _ _ _ _ trivial hc
            change (if isW (hdT r1) qbl = true then PR.ok (y,r1.tail) else PR.err 1 (hdT r1).p) = some (.ok (x,r)) at h
            split at h
            ·cases h
             have h1 := weight_tail_le l
             have h2 := weight_tail_le r1
             omega
            ·cases h
      ·split at h
       ·rename_i hk
        have hne : l ≠ [] := fun e => by subst e; rcases hk with h | h <;> exact absurd h (by decide)
        have h1 := qdm hne
        cases hr : qci (hdT l).t with
        | none => rw [hr] at h; cases h
        | some v =>
          rw [hr] at h
          cases h
          have h3 : qbj (.lit v) = (hdT l).t.length := by
           show (qbs v).length = _
           rw [read_show hr]
          omega
       ·split at h
        ·rename_i ht
         have hne : l ≠ [] := fun e => by subst e; rcases ht with h | h <;> exact absurd h (by decide)
         have h1 := qdm hne
         cases h
         have h3 : qbj (.lit ⟨2,if (hdT l).t = qed then 1 else 0,⟨#[]⟩⟩) = (hdT l).t.length := by
          show (qbs _).length = _
          rcases ht with ht | ht
          ·rw [ht,if_pos rfl]; decide +kernel
          ·rw [ht,if_neg (by decide)]; decide +kernel
         omega
        ·split at h
         ·rename_i hk
          have hne : l ≠ [] := fun e => by subst e; exact absurd hk.1 (by decide)
          have h1 := qdm hne
          split at h
          ·cases h
          ·split at h
           ·rename_i hq
            have h2 := qdm (isW_ne hq (by decide))
            split at h
            ·cases h
            ·have i1 : qbj x + qbp r ≤ qbp l.tail.tail + ((hdT l).t.length + 2 + qck [] + (if ([] : List Ex) = [] then 2 else 0)) := ih _ _ _ _ _ trivial h
             rw [if_pos rfl,show qck [] = 0 by unfold qck; rfl] at i1
             omega
           ·cases h
            have h3 : qbj (.name (hdT l).t (hdT l).p) = (hdT l).t.length := by conv => lhs; unfold qbj
            omega
         ·cases h
theorem weight_lex : ∀ (n p : Nat) (s : List UInt8) (l : List Tok),lexX n p s = .ok l → s.length ≤ n → qbp l ≤ s.length * 9 + 8
 | n,p,[],l,h,_ => by
   unfold lexX at h
   cases h
   show 0 + 8 + 0 ≤ _
   omega
 | 0,p,c :: s,l,h,hl => absurd hl (by simp)
 | n + 1,p,c :: s,l,h,hl => by
   simp only [List.length_cons] at hl ⊢
   unfold lexX at h
   split at h
   ·have := weight_lex n _ _ _ h (by omega)
    omega
   ·cases ht : qds c s with
    | none => rw [ht] at h; cases h
    | some x =>
      obtain ⟨k,m⟩ := x
      rw [ht] at h
      simp only at h
      have hm := tokAt_len ht
      cases hr : lexX n (p + m) ((c :: s).drop m) with
      | error e => rw [hr] at h; cases h
      | ok l' =>
        rw [hr] at h
        cases h
        have ih := weight_lex n _ _ _ hr (by simp only [List.length_drop,List.length_cons]; omega)
        simp only [List.length_drop,List.length_cons] at ih
        show ((c :: s).take m).length + 8 + qbp l' ≤ _
        simp only [List.length_take,List.length_cons]
        omega
theorem text_cost {s : List UInt8} {x : Ex} (h : TextR true s (.ok x)) : qbj x ≤ 2000 := by
 unfold TextR at h
 split at h
 ·cases h
 ·rename_i hs
  cases hx : lexX s.length 0 s with
  | error p => rw [hx] at h; cases h
  | ok l =>
    rw [hx] at h
    obtain ⟨q,⟨n,hn⟩,h2⟩ := h
    have hw := weight_lex _ _ _ _ hx (Nat.le_refl _)
    unfold doneR at h2
    cases q with
    | error e => cases h2
    | ok y =>
      obtain ⟨y,r⟩ := y
      simp only at h2
      split at h2
      ·cases h2
       have := parse_cost n _ 0 l x r trivial hn
       have h3 : costJ (topJ true) = 0 := rfl
       omega
      ·cases h2
end Go.Proofs.YtgajofkeidjbgaaGreatDoor
