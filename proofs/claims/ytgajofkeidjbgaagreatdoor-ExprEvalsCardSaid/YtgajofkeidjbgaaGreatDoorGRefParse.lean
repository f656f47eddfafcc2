/-
  PROVED HERE: a part of the proof of ExprEvals: RefParse, ExprNamed.
-/
import Derived.Test.YtgajofkeidjbgaaGreatDoorShort
import Derived.Test.YtgajofkeidjbgaaGreatDoorGParText
import Derived.Test.YtgajofkeidjbgaaGreatDoorGRefLex2
import Derived.Test.YtgajofkeidjbgaaGreatDoorGApp
import Derived.Test.YtgajofkeidjbgaaGreatDoorGParOk
import Derived.Test.YtgajofkeidjbgaaGreatDoorGRefE
namespace Go.Proofs.YtgajofkeidjbgaaGreatDoor
set_option linter.unusedSimpArgs false
set_option linter.unusedVariables false
set_option maxHeartbeats 4000000
set_option maxRecDepth 100000
open Go.RowKit
theorem end_d {t : Tok} (h : TokOk t) : ((t.d.k.toNat : Int) != 101) = !decide (t.k = 0) := by
 have h1 : ((t.d.k.toNat : Int) == 101) = decide (t.k = 0) := by
  refine (qdb t.d.k 101 (by omega)).trans ?_
  rw [decide_eq_decide]
  show (if t.k = 0 then 101 else t.k) = _ ↔ _
  by_cases hk : t.k = 0
  ·rw [if_pos hk]; exact ⟨fun _ => hk,fun _ => rfl⟩
  ·rw [if_neg hk]
   refine ⟨fun e => ?_,fun e => absurd e hk⟩
   exfalso
   rcases h with ⟨h,_⟩ | ⟨h,_⟩ | ⟨h,_⟩ | ⟨h,_⟩ | ⟨h,_⟩ <;> rw [h] at e <;> exact absurd e (by decide)
 rw [bne,h1]
def RParseTo (w : World) (s : List UInt8) (e : Ending) (w' : World) : Prop := qag w w' ∧ ∃ r,TextR false s r ∧ match r with
 | .error f => e = .returned (.tuple #[.pointer none,.int .i64 f.1,.int .i64 (f.2 : Int)]) ∧ f.1 ≠ 0
 | .ok x => ∃ B,e = .returned (.tuple #[.pointer (some ⟨B,0,none⟩),.int .i64 0,.int .i64 0]) ∧ EIn (fun b => w.heap.size ≤ b) w' (.pointer (some ⟨B,0,none⟩)) x
theorem rparse_any (s : List UInt8) (w : World) : Calls Tryz.prog 9 #[.string (qah s)] w (RParseTo w s) := by
 have hsz : (qah s).size = s.length := qax _
 go_enter Tryz.func9,Tryz.ntmps9
 by_cases hl : 200 < s.length
 ·have hl' : (200 : Int) < (qah s).size := by omega
  have HL := hid hl
  clear hl
  go_wp2_with fail
  refine bodyPost_ret (results_tmp3 rfl _ _ _) rfl ⟨qag.refl _,.error (5,0),?_,rfl,(by decide : (5 : Int) ≠ 0)⟩
  unfold TextR
  rw [if_pos HL.out]
 ·have hl' : ¬ (200 : Int) < (qah s).size := by omega
  have HL := hid hl
  clear hl hsz
  go_wp2_with fail
  refine (tokens_any s w (by have := HL.out; omega)).mono ?_
  rintro e w1 ⟨hL1,hm⟩
  have HL1 := hid hL1
  clear hL1
  cases hx : lexX s.length 0 s with
  | error p =>
    rw [hx] at hm
    have HX := hid hx
    simp only at hm
    subst hm
    have hp : (0 : Int) ≤ (p : Int) := by omega
    clear hx
    go_wp2_with fail
    refine bodyPost_ret (results_tmp3 rfl _ _ _) rfl ⟨HL1.out,.error (1,p),?_,rfl,(by decide : (1 : Int) ≠ 0)⟩
    unfold TextR
    rw [if_neg HL.out,HX.out]
  | ok l =>
    rw [hx] at hm
    obtain ⟨v,rfl,hown⟩ := hm
    have HX := hid hx
    have hle := lex_end (by have := HL.out; omega) hx
    have HLE := hid hle
    obtain ⟨g,c,rfl,hg,htk⟩ := rtoks_own hown hle.1.2.1
    have HG := hid hg; have HTK := hid htk
    clear hx hown hle hg htk
    go_wp2_with fail
    obtain ⟨R,hR⟩ : ∃ R,R = w1.heap.size := ⟨_,rfl⟩
    obtain ⟨w2,hw2⟩ : ∃ w2,w2 = w1.alloc (.cells #[.slice (some ⟨g,0,none⟩) l.length c,.int .i64 0,.int .i64 0,.int .i64 0,.int .i64 0] 68) := ⟨_,rfl⟩
    have hL2 : qag w1 w2 := hw2 ▸ qag.alloc _ _
    have HR2 : Hid (RAt w2 R ⟨g,0,c⟩ l 0 0 0 0) := hid ⟨by rw [hw2,hR]; exact qap _ _,by have := HG.out; show g < R; omega,fun j hj => (HTK.out j hj).kept (S := fun _ => True) trivial (hL2.keeps _)⟩
    have HRW : Hid (w.heap.size ≤ R ∧ w2.heap.size = R + 1) := hid ⟨by rw [hR]; exact HL1.out.size,by rw [hw2,hR]; simp⟩
    have HL2 := hid (qag.trans _ _ _ HL1.out hL2)
    rw [← hw2,← hR]
    clear hw2 hR hL2
    refine ((reading_all R ⟨g,0,c⟩ l (by have := HLE.out.2; have := HL.out; omega) l.length 0 (by omega) HLE.out.1 0 w2 HR2.out (by omega)).2 0 (by omega)).mono ?_
    rintro e w3 ⟨hk3,rs,B,hr,rfl,hm⟩
    have HL3 := hid (later_of HL2.out hk3 HRW.out.1)
    have HTX : Hid (TextR false s (doneR rs)) := hid (by
     unfold TextR
     rw [if_neg HL.out,HX.out]
     exact ⟨rs,hr,rfl⟩)
    have HK3 := hid hk3
    clear hk3 hr
    cases rs with
    | error f =>
      obtain ⟨hf0,j,-,hj,hr3⟩ := hm
      have HF := hid hf0
      obtain ⟨-,-,-,c3,c4,-,hlt⟩ := hr3.cells
      have hne : (f.1 == 0) = false := by simpa using hf0
      have hne' : (f.1 != 0) = true := by simpa using hf0
      clear hf0 hr3 hj
      go_upto_region 8 with (fail)
      refine qaj (by kernel_rfl) (by kernel_rfl) qag qag.refl qag.trans (fun _ => none) (fun _ _ _ _ _ h => by cases h) ?_
      simp only [qam,Nat.reduceAdd]
      refine LexS.out ?_
      iterate 19
       first
       | (refine LexS.skip rfl ?_; simp only [Act.put,sib,List.set])
       | (refine LexS.one' rfl rfl ?_
          apply Exists.intro
          refine ⟨fun w hR hF => ?_,?_⟩
          ·have hP := hR
           repeat (first | replace hP := qag.of_drew hP | replace hP := qag.of_drewN hP | replace hP := qag.of_alloc hP)
           have hcs := hR.cells
           have zc3 := hP.cell c3
           clear hR hF hP
           go_simp
           first | done | rfl
          simp only [Act.put,sib,List.set])
      refine LexS.nil ?_
      intro w4 hL4 hF9
      clear hF9
      repeat (first | replace hL4 := qag.of_drew hL4 | replace hL4 := qag.of_drewN hL4 | replace hL4 := qag.of_alloc hL4)
      have HL4 := hid (qag.trans _ _ _ HL3.out hL4)
      replace c3 := hL4.cell c3
      replace c4 := hL4.cell c4
      replace hlt : R < w4.heap.size := qad c3
      clear hL4
      go_upto_region 11 with (fail)
      refine qaj (by kernel_rfl) (by kernel_rfl) qag qag.refl qag.trans (fun _ => none) (fun _ _ _ _ _ h => by cases h) ?_
      simp only [qam,Nat.reduceAdd]
      refine LexS.out ?_
      iterate 11
       first
       | (refine LexS.skip rfl ?_; simp only [Act.put,sib,List.set])
       | (refine LexS.one' rfl rfl ?_
          apply Exists.intro
          refine ⟨fun w hR hF => ?_,?_⟩
          ·have hP := hR
           repeat (first | replace hP := qag.of_drew hP | replace hP := qag.of_drewN hP | replace hP := qag.of_alloc hP)
           have hcs := hR.cells
           have zc3 := hP.cell c3
           have zc4 := hP.cell c4
           clear hR hF hP
           go_simp
           first | done | rfl
          simp only [Act.put,sib,List.set])
      refine LexS.nil ?_
      intro w5 hL5 hF9
      clear hF9
      repeat (first | replace hL5 := qag.of_drew hL5 | replace hL5 := qag.of_drewN hL5 | replace hL5 := qag.of_alloc hL5)
      have HL5 := hid (qag.trans _ _ _ HL4.out hL5)
      clear hL5 c3 c4 hlt
      go_wp2_with fail
      exact bodyPost_ret (results_tmp3 rfl _ _ _) rfl ⟨HL5.out,.error f,HTX.out,rfl,HF.out⟩
    | ok x =>
      obtain ⟨hx,j,-,hdrop,hr3,he⟩ := hm
      obtain ⟨x,r⟩ := x
      simp only at hx hdrop he
      obtain ⟨t2,r2,rfl,htk,-⟩ := he.cons
      have hj : j < l.length := by
       rcases Nat.lt_or_ge j l.length with h | h
       ·exact h
       ·rw [List.drop_eq_nil_of_le h] at hdrop; cases hdrop
      have hlj : l[j] = t2 := by
       rw [List.drop_eq_getElem_cons hj] at hdrop
       exact (List.cons.inj hdrop).1
      have tt := (hr3.2.2 j hj)
      rw [hlj] at tt
      simp only [Nat.zero_add] at tt
      obtain ⟨c0,c1,-,c3,-,-,hlt⟩ := hr3.cells
      simp only at c0
      have hed := end_d htk
      have HX2 := hid hx; have HR3 := hid hr3; have HJ := hid hj; have HLJ := hid hlj
      have hii : (j : Int) < (l.length : Int) := by omega
      clear hx hdrop hr3 he hlj htk
      by_cases hk : t2.k = 0
      ·have HKZ := hid hk
       replace hed : ((t2.d.k.toNat : Int) != 101) = false := by rw [hed,decide_eq_true hk]; rfl
       clear hk
       have t0 := tt.1
       clear tt
       go_upto_region 8 with (fail)
       refine qaj (by kernel_rfl) (by kernel_rfl) qag qag.refl qag.trans (fun _ => none) (fun _ _ _ _ _ h => by cases h) ?_
       simp only [qam,Nat.reduceAdd]
       refine LexS.out ?_
       iterate 19
        first
        | (refine LexS.skip rfl ?_; simp only [Act.put,sib,List.set])
        | (refine LexS.one' rfl rfl ?_
           apply Exists.intro
           refine ⟨fun w hR hF => ?_,?_⟩
           ·have hP := hR
            repeat (first | replace hP := qag.of_drew hP | replace hP := qag.of_drewN hP | replace hP := qag.of_alloc hP)
            have hcs := hR.cells
            have zc0 := hP.cell c0
            have zc1 := hP.cell c1
            have zc3 := hP.cell c3
            have zt0 := hP.cell t0
            clear hR hF hP
            go_simp
            first | done | rfl
           simp only [Act.put,sib,List.set])
       refine LexS.nil ?_
       intro w4 hL4 hF9
       clear hF9
       repeat (first | replace hL4 := qag.of_drew hL4 | replace hL4 := qag.of_drewN hL4 | replace hL4 := qag.of_alloc hL4)
       have HL4 := hid (qag.trans _ _ _ HL3.out hL4)
       have HX4 : Hid (EIn (fun b => w.heap.size ≤ b) w4 (.pointer (some ⟨B,0,none⟩)) x) := hid (EIn.mono (fun b _ h => by have := h.2; have := HRW.out; omega) _ _ (EIn.kept (S := fun b => b ≠ R ∧ w2.heap.size ≤ b) (hL4.keeps (fun _ => True)) (fun _ _ => trivial) _ _ HX2.out))
       replace c3 := hL4.cell c3
       replace hlt := qad c3
       clear hL4 c0 c1 t0 hii hed
       go_wp2_with fail
       refine bodyPost_ret (results_tmp3 rfl _ _ _) rfl ⟨HL4.out,.ok x,?_,B,rfl,HX4.out⟩
       have h := HTX.out
       unfold doneR at h
       simp only at h
       rw [show hdT (t2 :: r2) = t2 from rfl,if_pos HKZ.out] at h
       exact h
      ·have HKZ := hid hk
       replace hed : ((t2.d.k.toNat : Int) != 101) = true := by rw [hed,decide_eq_false hk]; rfl
       clear hk
       have t0 := tt.1
       have t2' := tt.2.2
       clear tt
       go_upto_region 8 with (fail)
       refine qaj (by kernel_rfl) (by kernel_rfl) qag qag.refl qag.trans (fun _ => none) (fun _ _ _ _ _ h => by cases h) ?_
       simp only [qam,Nat.reduceAdd]
       refine LexS.out ?_
       iterate 19
        first
        | (refine LexS.skip rfl ?_; simp only [Act.put,sib,List.set])
        | (refine LexS.one' rfl rfl ?_
           apply Exists.intro
           refine ⟨fun w hR hF => ?_,?_⟩
           ·have hP := hR
            repeat (first | replace hP := qag.of_drew hP | replace hP := qag.of_drewN hP | replace hP := qag.of_alloc hP)
            have hcs := hR.cells
            have zc0 := hP.cell c0
            have zc1 := hP.cell c1
            have zc3 := hP.cell c3
            have zt0 := hP.cell t0
            clear hR hF hP
            go_simp
            first | done | rfl
           simp only [Act.put,sib,List.set])
       refine LexS.nil ?_
       intro w4 hL4 hF9
       clear hF9
       repeat (first | replace hL4 := qag.of_drew hL4 | replace hL4 := qag.of_drewN hL4 | replace hL4 := qag.of_alloc hL4)
       have HR4 := hid (HR3.out.later hL4)
       have HL4 := hid (qag.trans _ _ _ HL3.out hL4)
       replace c0 := hL4.cell c0
       replace c1 := hL4.cell c1
       replace t2' := hL4.cell t2'
       clear hL4 c3 t0 hlt
       go_upto_region 9 with (fail)
       refine wp_region_held_drew (S := fun w => w.cell? ⟨R,0,none⟩ = some (.slice (some ⟨g,0,none⟩) l.length c) ∧ w.cell? ⟨R,1,none⟩ = some (.int .i64 (j : Int)) ∧ w.cell? ⟨g,j * 3 + 2,none⟩ = some (.int .i64 (t2.p : Int)))
        (by kernel_rfl) ⟨(qag.drew w4).cell c0,(qag.drew w4).cell c1,(qag.drew w4).cell t2'⟩ (fun hS => ?_)
       clear c0 c1 t2'
       refine tH 0 (.pointer (some ⟨R,0,none⟩)) rfl (by kernel_rfl) (fun _ _ _ h => h) ⟨by rfl,?_⟩ hS ?_
       ·intro w hS
        clear hS
        go_simp
       try simp only [Act.put,sib,List.set]
       refine tH 1 (.pointer (some ⟨R,0,none⟩)) rfl (by kernel_rfl) (fun _ _ _ h => h) ⟨by rfl,?_⟩ hS ?_
       ·intro w hS
        clear hS
        go_simp
       try simp only [Act.put,sib,List.set]
       refine tH 5 (.pointer (some ⟨R,0,none⟩)) rfl (by kernel_rfl) (fun _ _ _ h => h) ⟨by rfl,?_⟩ hS ?_
       ·intro w hS
        clear hS
        go_simp
       try simp only [Act.put,sib,List.set]
       refine tH 2 (.pointer (some ⟨R,0,none⟩)) rfl (by kernel_rfl) (fun _ _ _ h => h) ⟨by rfl,?_⟩ hS ?_
       ·rintro w ⟨h0,-⟩
        try (have := qad h0)
        go_simp
       try simp only [Act.put,sib,List.set]
       refine tH 6 (.pointer (some ⟨R,0,none⟩)) rfl (by kernel_rfl) (fun _ _ _ h => h) ⟨by rfl,?_⟩ hS ?_
       ·rintro w ⟨h0,-⟩
        try (have := qad h0)
        go_simp
       try simp only [Act.put,sib,List.set]
       refine tH 3 (.pointer (some ⟨R,0,none⟩)) rfl (by kernel_rfl) (fun _ _ _ h => h) ⟨by rfl,?_⟩ hS ?_
       ·rintro w ⟨h0,-⟩
        try (have := qad h0)
        go_simp
       try simp only [Act.put,sib,List.set]
       refine tH 7 (.pointer (some ⟨R,1,none⟩)) rfl (by kernel_rfl) (fun _ _ _ h => h) ⟨by rfl,?_⟩ hS ?_
       ·rintro w ⟨h0,-⟩
        try (have := qad h0)
        go_simp
       try simp only [Act.put,sib,List.set]
       refine tH 4 (.slice (some ⟨g,0,none⟩) l.length c) rfl (by kernel_rfl) (fun _ _ _ h => h) ⟨by rfl,?_⟩ hS ?_
       ·rintro w ⟨h0,-⟩
        try (have := qad h0)
        go_simp
       try simp only [Act.put,sib,List.set]
       refine tH 8 (.int .i64 (j : Int)) rfl (by kernel_rfl) (fun _ _ _ h => h) ⟨by rfl,?_⟩ hS ?_
       ·rintro w ⟨-,h0,-⟩
        try (have := qad h0)
        go_simp
       try simp only [Act.put,sib,List.set]
       refine tH 9 (.pointer (some ⟨g,j * 3,none⟩)) rfl (by kernel_rfl) (fun _ _ _ h => h) ⟨by rfl,?_⟩ hS ?_
       ·intro w hS
        clear hS
        go_simp
       try simp only [Act.put,sib,List.set]
       refine tH 10 (.pointer (some ⟨g,j * 3 + 2,none⟩)) rfl (by kernel_rfl) (fun _ _ _ h => h) ⟨by rfl,?_⟩ hS ?_
       ·rintro w ⟨-,-,h0⟩
        try (have := qad h0)
        go_simp
       try simp only [Act.put,sib,List.set]
       refine tH 11 (.int .i64 (t2.p : Int)) rfl (by kernel_rfl) (fun _ _ _ h => h) ⟨by rfl,?_⟩ hS ?_
       ·rintro w ⟨-,-,h0⟩
        try (have := qad h0)
        go_simp
       try simp only [Act.put,sib,List.set]
       refine wpAnyH_ready (rs := [12]) (by kernel_rfl) (by simp) (AllReadyH.cons rfl (fun K hK => ?_) AllReadyH.nil)
       go_simp
       refine (rfail_any R ⟨g,0,c⟩ l j 0 0 0 1 t2.p w4.drew (HR4.out.later (qag.drew w4)) (by decide)).mono ?_
       rintro en w5 ⟨rfl,hk5,h5⟩
       rw [if_pos rfl] at h5
       have HK5 := hid hk5
       have HR5 := hid h5
       have ht5 := h5.2.2 j HJ.out
       rw [HLJ.out] at ht5
       simp only [Nat.zero_add] at ht5
       have hS5 : w5.cell? ⟨R,0,none⟩ = some (.slice (some ⟨g,0,none⟩) l.length c) ∧ w5.cell? ⟨R,1,none⟩ = some (.int .i64 (j : Int)) ∧ w5.cell? ⟨g,j * 3 + 2,none⟩ = some (.int .i64 (t2.p : Int)) := ⟨h5.cells.1,h5.cells.2.1,ht5.2.2⟩
       clear hk5 h5 ht5 hS
       refine hK.out _ _ hS5 (fun hS => ?_)
       clear hK K
       try simp only [Act.put,sib,List.set]
       refine wpAnyH_done (by kernel_rfl) ?_ _
       clear hS hS5
       obtain ⟨-,-,-,c3,c4,-,hlt⟩ := HR5.out.cells
       go_upto_region 11 with (fail)
       refine qaj (by kernel_rfl) (by kernel_rfl) qag qag.refl qag.trans (fun _ => none) (fun _ _ _ _ _ h => by cases h) ?_
       simp only [qam,Nat.reduceAdd]
       refine LexS.out ?_
       iterate 11
        first
        | (refine LexS.skip rfl ?_; simp only [Act.put,sib,List.set])
        | (refine LexS.one' rfl rfl ?_
           apply Exists.intro
           refine ⟨fun w hR hF => ?_,?_⟩
           ·have hP := hR
            repeat (first | replace hP := qag.of_drew hP | replace hP := qag.of_drewN hP | replace hP := qag.of_alloc hP)
            have hcs := hR.cells
            have zc3 := hP.cell c3
            have zc4 := hP.cell c4
            clear hR hF hP
            go_simp
            first | done | rfl
           simp only [Act.put,sib,List.set])
       refine LexS.nil ?_
       intro w6 hL6 hF9
       clear hF9
       repeat (first | replace hL6 := qag.of_drew hL6 | replace hL6 := qag.of_drewN hL6 | replace hL6 := qag.of_alloc hL6)
       have HL6 := hid hL6
       clear hL6 c3 c4 hlt
       go_wp2_with fail
       refine bodyPost_ret (results_tmp3 rfl _ _ _) rfl ⟨qag.trans _ _ _ (later_of (HL4.out.drew') HK5.out HRW.out.1) HL6.out,.error (1,t2.p),?_,rfl,(by decide : (1 : Int) ≠ 0)⟩
       have h := HTX.out
       unfold doneR at h
       simp only at h
       rw [show hdT (t2 :: r2) = t2 from rfl,if_neg HKZ.out] at h
       exact h
def chOk : Nat → List UInt8 → Bool
 | _,[] => true
 | i,c :: r => (qcs c || (decide (i ≠ 0) && qde c)) && chOk (i + 1) r
def namedP (s : List UInt8) : Bool := chOk 0 s && (decide (0 < s.length) && (decide (s.length ≤ 12) && !decide (s ∈ qes)))
theorem ch_step {s : List UInt8} {i : Nat} (h : i < s.length) : chOk i (s.drop i) = ((qcs s[i] || (decide (i ≠ 0) && qde s[i])) && chOk (i + 1) (s.drop (i + 1))) := by
 rw [List.drop_eq_getElem_cons h]
 rfl
theorem named_any (s : List UInt8) (w : World) (hs : s.length ≤ 140737488355328) : Calls Tryz.prog 83 #[.string (qah s)] w fun e w' => e = .returned (.bool (namedP s)) ∧ qag w w' := by
 have HS := hid hs
 have hss : (qah s).size = s.length := qax s
 clear hs
 go_enter Tryz.func83,Tryz.ntmps83
 go_wp2_with fail
 refine (words_any w).mono ?_
 rintro e w1 ⟨b,rfl,hstr,hL1⟩
 have HL1 := hid hL1; have HSTR := hid hstr
 clear hL1 hstr
 go_wp2_with fail
 obtain ⟨R1,hR1⟩ : ∃ RR_ : (Nat → Value) → World → Prop,RR_ = (fun us wx => ∃ i : Nat,us 8 = .int .i64 (i : Int) ∧ i ≤ s.length ∧ chOk 0 s = chOk i (s.drop i) ∧ wx = w1) := ⟨_,rfl⟩
 obtain ⟨mu1,hmu1⟩ : ∃ mu : (Nat → Value) → World → Nat,mu = (fun us _ => s.length - (intOf (us 8)).toNat) := ⟨_,rfl⟩
 have HR1 := hid hR1; have Hmu1 := hid hmu1; clear hR1 hmu1
 refine qal [ff,ff,true,ff,true,ff,ff,ff,true,true,true,true,true,true,true,true,true,true,true,true,true,true,true,true,true,true,true,true] R1 _ mu1 HR1.out ?_ ?_
 ·exact ⟨0,rfl,Nat.zero_le _,rfl,rfl⟩
 intro us1 wx hrel
 obtain ⟨i,h8,hi,hch,hwx⟩ := hrel
 simp only [qao,Nat.reduceAdd,h8]
 have Hh8 := hid h8; clear h8
 subst hwx
 have HI := hid hi; have HCH := hid hch
 clear hi hch
 by_cases hlt : i < s.length
 ·have HLT := hid hlt
  have hlt' : (i : Int) < s.length := by omega
  obtain ⟨c,hc⟩ : ∃ c,s[i]'hlt = c := ⟨_,rfl⟩
  have HC := hid hc
  have hidx : ∀ (h : i < (qah s).size),(qah s)[i]'h = c := fun h => hc
  have hj0 : (0 : Int) ≤ i := by omega
  have HWK : Hid (wrap64 ((i : Int) + 1) = ((i + 1 : Nat) : Int)) := hid (by have := HS.out; have := HLT.out; unfold wrap64; omega)
  have HST : Hid (chOk 0 s = ((qcs c || (decide (i ≠ 0) && qde c)) && chOk (i + 1) (s.drop (i + 1)))) := hid (by rw [HCH.out,ch_step HLT.out,HC.out])
  clear hc
  go_wp2_with fail
  refine (letter_any c _).mono ?_
  rintro e w' ⟨rfl,hw'⟩
  subst w'
  obtain ⟨bl,hbl⟩ : ∃ b,qcs c = b := ⟨_,rfl⟩
  rw [hbl] at HST ⊢
  clear hbl
  cases bl with
  | true =>
    go_wp2_with fail
    try simp only [HWK.out]
    refine Round.mk' HR1.out Hmu1.out rfl ?_ ?_
    ·exact ⟨i + 1,rfl,HLT.out,by rw [HST.out]; rfl,rfl⟩
    ·rw [Hh8.out]; have := HLT.out; simp [intOf,qas]; omega
  | false =>
    by_cases h0 : i = 0
    ·have h0i : ((i : Int) == 0) = true := by rw [h0]; rfl
     have H0 := hid h0
     clear h0
     go_wp2_with fail
     refine bodyPost_ret (results_tmp rfl _ _ _) rfl ⟨?_,HL1.out⟩
     unfold namedP
     rw [HST.out,H0.out]
     rfl
    ·have h0i : ((i : Int) == 0) = false := by rw [beq_eq_false_iff_ne]; omega
     have H0 := hid h0
     clear h0
     go_wp2_with fail
     refine (digit_any c _).mono ?_
     rintro e w' ⟨rfl,hw'⟩
     subst w'
     obtain ⟨bd,hbd⟩ : ∃ b,qde c = b := ⟨_,rfl⟩
     rw [hbd] at HST ⊢
     clear hbd
     cases bd with
     | true =>
       go_wp2_with fail
       try simp only [HWK.out]
       refine Round.mk' HR1.out Hmu1.out rfl ?_ ?_
       ·exact ⟨i + 1,rfl,HLT.out,by rw [HST.out]; simp [H0.out],rfl⟩
       ·rw [Hh8.out]; have := HLT.out; simp [intOf,qas]; omega
     | false =>
       go_wp2_with fail
       refine bodyPost_ret (results_tmp rfl _ _ _) rfl ⟨?_,HL1.out⟩
       unfold namedP
       rw [HST.out]
       simp
 ·have hlt' : ¬ (i : Int) < s.length := by omega
  have HALL : Hid (chOk 0 s = true) := hid (by rw [HCH.out,List.drop_eq_nil_of_le (by omega)]; rfl)
  clear hlt
  by_cases hz : 0 < s.length
  ·have hz' : (0 : Int) < s.length := by omega
   have HZ := hid hz
   by_cases h12 : s.length ≤ 12
   ·have h12' : (s.length : Int) ≤ 12 := by omega
    have H12 := hid h12
    clear h12 hz
    go_wp2_with fail
    have HCL : Hid (∀ j,j < (qes.map qah).length → wx.cell? ⟨b,0 + j,none⟩ = some (.string ((qes.map qah).getD j ByteArray.empty))) := hid (fun j hj => by
     have hj' : j < qes.length := by simpa using hj
     have h := HSTR.out j hj'
     rw [h,List.getD_eq_getElem?_getD,List.getElem?_map,List.getElem?_eq_getElem hj']
     rfl)
    refine (Tryz.slices_Contains_string b 0 6 6 (qes.map qah) (qah s) wx (by decide) (by omega) HCL.out).mono ?_
    rintro e w' ⟨rfl,hw'⟩
    subst w'
    rw [words_has s]
    go_wp2_with fail
    refine bodyPost_ret (results_tmp rfl _ _ _) rfl ⟨?_,HL1.out⟩
    unfold namedP
    rw [HALL.out,decide_eq_true HZ.out,decide_eq_true H12.out]
    rfl
   ·have h12' : ¬ (s.length : Int) ≤ 12 := by omega
    have H12 := hid h12
    clear h12 hz
    go_wp2_with fail
    refine bodyPost_ret (results_tmp rfl _ _ _) rfl ⟨?_,HL1.out⟩
    unfold namedP
    rw [HALL.out,decide_eq_false H12.out]
    simp
  ·have hz' : ¬ (0 : Int) < s.length := by omega
   have HZ := hid hz
   clear hz
   go_wp2_with fail
   refine bodyPost_ret (results_tmp rfl _ _ _) rfl ⟨?_,HL1.out⟩
   unfold namedP
   rw [HALL.out,decide_eq_false HZ.out]
   simp
theorem rnamed_any (s : List UInt8) (w : World) (hs : s.length ≤ 140737488355328) : Calls Tryz.prog 58 #[.string (qah s)] w fun e w' => e = .returned (.bool (namedP s)) ∧ w' = w := by
 have HS := hid hs
 have hss : (qah s).size = s.length := qax s
 clear hs
 go_enter Tryz.func58,Tryz.ntmps58
 go_wp2_with fail
 obtain ⟨R1,hR1⟩ : ∃ RR_ : (Nat → Value) → World → Prop,RR_ = (fun us wx => ∃ i : Nat,us 3 = .int .i64 (i : Int) ∧ i ≤ s.length ∧ chOk 0 s = chOk i (s.drop i) ∧ wx = w) := ⟨_,rfl⟩
 obtain ⟨mu1,hmu1⟩ : ∃ mu : (Nat → Value) → World → Nat,mu = (fun us _ => s.length - (intOf (us 3)).toNat) := ⟨_,rfl⟩
 have HR1 := hid hR1; have Hmu1 := hid hmu1; clear hR1 hmu1
 refine qal [ff,ff,true,true,true,true,ff,true,true,true,true,true,true,true,true,true,true,true,true,true,true,true,true,true,true,true,true,true,true,true,true] R1 _ mu1 HR1.out ?_ ?_
 ·exact ⟨0,rfl,Nat.zero_le _,rfl,rfl⟩
 intro us1 wx hrel
 obtain ⟨i,h3,hi,hch,hwx⟩ := hrel
 simp only [qao,Nat.reduceAdd,h3]
 have Hh3 := hid h3; clear h3
 subst hwx
 have HI := hid hi; have HCH := hid hch
 clear hi hch
 by_cases hlt : i < s.length
 ·have HLT := hid hlt
  have hlt' : (i : Int) < s.length := by omega
  obtain ⟨c,hc⟩ : ∃ c,s[i]'hlt = c := ⟨_,rfl⟩
  have HC := hid hc
  have hidx : ∀ (h : i < (qah s).size),(qah s)[i]'h = c := fun h => hc
  have hj0 : (0 : Int) ≤ i := by omega
  have HWK : Hid (wrap64 ((i : Int) + 1) = ((i + 1 : Nat) : Int)) := hid (by have := HS.out; have := HLT.out; unfold wrap64; omega)
  have HST : Hid (chOk 0 s = ((qcs c || (decide (i ≠ 0) && qde c)) && chOk (i + 1) (s.drop (i + 1)))) := hid (by rw [HCH.out,ch_step HLT.out,HC.out])
  clear hc
  go_wp2_with fail
  refine (rletter_any c _).mono ?_
  rintro e w' ⟨rfl,hw'⟩
  subst w'
  obtain ⟨bl,hbl⟩ : ∃ b,qcs c = b := ⟨_,rfl⟩
  rw [hbl] at HST ⊢
  clear hbl
  go_wp2_with fail
  refine (rdigit_any c _).mono ?_
  rintro e w' ⟨rfl,hw'⟩
  subst w'
  obtain ⟨bd,hbd⟩ : ∃ b,qde c = b := ⟨_,rfl⟩
  rw [hbd] at HST ⊢
  clear hbd
  cases bl with
  | true =>
    go_wp2_with fail
    try simp only [HWK.out]
    refine Round.mk' HR1.out Hmu1.out rfl ?_ ?_
    ·exact ⟨i + 1,rfl,HLT.out,by rw [HST.out]; rfl,rfl⟩
    ·rw [Hh3.out]; have := HLT.out; simp [intOf,qas]; omega
  | false =>
    by_cases h0 : i = 0
    ·have h0i : ((i : Int) == 0) = true := by rw [h0]; rfl
     have H0 := hid h0
     clear h0
     go_wp2_with fail
     refine bodyPost_ret (results_tmp rfl _ _ _) rfl ⟨?_,rfl⟩
     unfold namedP
     rw [HST.out,H0.out]
     rfl
    ·have h0i : ((i : Int) == 0) = false := by rw [beq_eq_false_iff_ne]; omega
     have H0 := hid h0
     clear h0
     cases bd with
     | true =>
       go_wp2_with fail
       try simp only [HWK.out]
       refine Round.mk' HR1.out Hmu1.out rfl ?_ ?_
       ·exact ⟨i + 1,rfl,HLT.out,by rw [HST.out]; simp [H0.out],rfl⟩
       ·rw [Hh3.out]; have := HLT.out; simp [intOf,qas]; omega
     | false =>
       go_wp2_with fail
       refine bodyPost_ret (results_tmp rfl _ _ _) rfl ⟨?_,rfl⟩
       unfold namedP
       rw [HST.out]
       simp
 ·have hlt' : ¬ (i : Int) < s.length := by omega
  have HALL : Hid (chOk 0 s = true) := hid (by rw [HCH.out,List.drop_eq_nil_of_le (by omega)]; rfl)
  clear hlt
  go_wp2_with fail
  refine (word_any s wx).mono ?_
  rintro e w' ⟨rfl,hw'⟩
  subst w'
  by_cases hz : 0 < s.length
  ·have hz' : (0 : Int) < s.length := by omega
   have HZ := hid hz
   by_cases h12 : s.length ≤ 12
   ·have h12' : (s.length : Int) ≤ 12 := by omega
    have H12 := hid h12
    clear h12 hz
    go_wp2_with fail
    refine bodyPost_ret (results_tmp rfl _ _ _) rfl ⟨?_,rfl⟩
    unfold namedP
    rw [HALL.out,decide_eq_true HZ.out,decide_eq_true H12.out]
    rfl
   ·have h12' : ¬ (s.length : Int) ≤ 12 := by omega
    have H12 := hid h12
    clear h12 hz
    go_wp2_with fail
    refine bodyPost_ret (results_tmp rfl _ _ _) rfl ⟨?_,rfl⟩
    unfold namedP
    rw [HALL.out,decide_eq_false H12.out]
    simp
  ·have hz' : ¬ (0 : Int) < s.length := by omega
   have HZ := hid hz
   clear hz
   go_wp2_with fail
   refine bodyPost_ret (results_tmp rfl _ _ _) rfl ⟨?_,rfl⟩
   unfold namedP
   rw [HALL.out,decide_eq_false HZ.out]
   simp
end Go.Proofs.YtgajofkeidjbgaaGreatDoor
