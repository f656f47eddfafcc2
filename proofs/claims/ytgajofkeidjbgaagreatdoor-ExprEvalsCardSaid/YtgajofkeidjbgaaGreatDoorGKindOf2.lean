/-
  PROVED HERE: a part of the proof of ExprEvals: KindOf2, MapRaw, MapKey, ExprFuncs.
-/
import Derived.Test.YtgajofkeidjbgaaGreatDoorShort
import Derived.Test.YtgajofkeidjbgaaGreatDoorGLevelOf
import Derived.Test.YtgajofkeidjbgaaGreatDoorRows
import Derived.Test.YtgajofkeidjbgaaGreatDoorGData
import Derived.Maps.OwnSet
import Derived.Maps.Range
import Derived.Sort.KeysCollected
import Derived.StringKeys
import Derived.DeepKeys4
import Derived.Test.YtgajofkeidjbgaaGreatDoorGExprKind
import Derived.Test.YtgajofkeidjbgaaGreatDoorGParCall
namespace Go.Proofs.YtgajofkeidjbgaaGreatDoor
set_option linter.unusedSimpArgs false
set_option linter.unusedVariables false
set_option maxHeartbeats 8000000
set_option maxRecDepth 100000
open Go.RowKit
attribute [local go_sem high] as_un as_bin no_un_lit no_un_name no_bin_lit no_bin_name no_bin_un
theorem kd_un (cs : List Col) (neg : Bool) (p : Nat) (x : Ex) (hx : KdC cs x) : KdC cs (.un neg p x) := by
 intro B ao c v w hn hel hlen ho hcost hB
 unfold qbm at hn
 obtain ⟨N,u,hNB,rfl,hobj,hnx⟩ := hn
 unfold qef at ho
 unfold qbj at hcost
 have HX := hid (hx B ao c u w hnx hel hlen ho (by omega) hB)
 have HN := hid hNB; have HOBJ := hid hobj
 obtain ⟨sv,hsv⟩ : ∃ s,s = qah (opW neg) := ⟨_,rfl⟩
 rw [← hsv] at hobj
 have c0 : w.cell? ⟨N,0,none⟩ = some (.string sv) := qac (i := 0) hobj rfl
 have c2 : w.cell? ⟨N,2,none⟩ = some u := qac (i := 2) hobj rfl
 have hlt := qad c0
 clear hel hlen ho hcost hB hNB hobj hnx hx
 cases neg with
 | true =>
   have e1 : (sv.toList == [110,111,116]) = false := by rw [hsv,qan]; rfl
   clear hsv
   go_enter Tryz.func55,Tryz.ntmps55
   go_wp2_with fail
   refine HX.out.mono ?_
   rintro e w1 ⟨hk,hm⟩
   have HK := hid hk
   have HO1 := hid (hk.obj HOBJ.out (by decide))
   have HM : Hid (kindP cs x = kindP cs x) := hid rfl
   cases hkp : kindP cs x with
   | error f =>
     rw [hkp] at hm
     simp only at hm
     have hfl := hm
     unfold qbr at hm
     subst hm
     simp only [Exit.then,Exit.inBlock]
     refine ⟨rfl,HK.out,?_⟩
     unfold kindP
     rw [hkp]
     exact hfl
   | ok k =>
     rw [hkp] at hm
     obtain ⟨rfl,hn1⟩ := hm
     have HN1 := hid hn1; have HKP := hid hkp
     have q1 : w1.cell? ⟨N,1,none⟩ = some (.int .i64 (p : Int)) := qac (i := 1) HO1.out rfl
     have ql := qad q1
     clear hk hn1 hkp c0 c2 hlt
     by_cases hk1 : k = 1
     ·subst hk1
      go_wp2_with fail
      refine bodyPost_ret (results_tmp rfl _ _ _) rfl ⟨HK.out,?_⟩
      unfold kindP
      rw [HKP.out]
      refine ⟨rfl,?_⟩
      unfold qbm
      exact ⟨N,u,HN.out,rfl,HO1.out,HN1.out⟩
     ·have HK1 := hid hk1
      go_wp2_with fail
      refine (qbn 3 p _).mono ?_
      rintro e w' ⟨hfl,hw'⟩
      subst w'
      have hfl' := hfl
      unfold qbr at hfl
      subst hfl
      simp only [Exit.then,Exit.inBlock]
      refine ⟨rfl,HK.out,?_⟩
      unfold kindP
      rw [HKP.out]
      simp only [if_true]
      rw [if_neg HK1.out]
      exact hfl'
 | false =>
   have e1 : (sv.toList == [110,111,116]) = true := by rw [hsv,qan]; rfl
   clear hsv
   go_enter Tryz.func55,Tryz.ntmps55
   go_wp2_with fail
   refine HX.out.mono ?_
   rintro e w1 ⟨hk,hm⟩
   have HK := hid hk
   have HO1 := hid (hk.obj HOBJ.out (by decide))
   cases hkp : kindP cs x with
   | error f =>
     rw [hkp] at hm
     simp only at hm
     have hfl := hm
     unfold qbr at hm
     subst hm
     simp only [Exit.then,Exit.inBlock]
     refine ⟨rfl,HK.out,?_⟩
     unfold kindP
     rw [hkp]
     exact hfl
   | ok k =>
     rw [hkp] at hm
     obtain ⟨rfl,hn1⟩ := hm
     have HN1 := hid hn1; have HKP := hid hkp
     have q1 : w1.cell? ⟨N,1,none⟩ = some (.int .i64 (p : Int)) := qac (i := 1) HO1.out rfl
     have ql := qad q1
     clear hk hn1 hkp c0 c2 hlt
     by_cases hk1 : k = 2
     ·subst hk1
      go_wp2_with fail
      refine bodyPost_ret (results_tmp rfl _ _ _) rfl ⟨HK.out,?_⟩
      unfold kindP
      rw [HKP.out]
      refine ⟨rfl,?_⟩
      unfold qbm
      exact ⟨N,u,HN.out,rfl,HO1.out,HN1.out⟩
     ·have HK1 := hid hk1
      go_wp2_with fail
      refine (qbn 3 p _).mono ?_
      rintro e w' ⟨hfl,hw'⟩
      subst w'
      have hfl' := hfl
      unfold qbr at hfl
      subst hfl
      simp only [Exit.then,Exit.inBlock]
      refine ⟨rfl,HK.out,?_⟩
      unfold kindP
      rw [HKP.out]
      simp only [Bool.false_eq_true,if_false]
      rw [if_neg HK1.out]
      exact hfl'
def wantK (o : List UInt8) (a : Int) : Int × Int := if qct o < 2 then (2,2) else if qct o = 2 then (a,2) else if o = catW then (3,3) else (1,1)
theorem binK_want (o : List UInt8) (a b : Int) : binK o a b = if a = (wantK o a).1 ∧ b = (wantK o a).1 then some (wantK o a).2 else none := by
 unfold binK wantK
 split
 ·rfl
 ·split
  ·simp
  ·split <;> rfl
theorem kd_bin (cs : List Col) (o : List UInt8) (p : Nat) (x y : Ex) (hx : KdC cs x) (hy : KdC cs y) : KdC cs (.bin o p x y) := by
 intro B ao c v w hn hel hlen ho hcost hB
 unfold qbm at hn
 obtain ⟨N,u1,u2,hNB,rfl,hobj,hn1,hn2⟩ := hn
 unfold qef at ho
 have HX := hid hx; have HY := hid hy; have HN1 := hid hn1; have HN2 := hid hn2; have HEL := hid hel; have HLN := hid hlen; have HO := hid ho; have HB := hid hB
 have HN := hid hNB; have HOBJ := hid hobj
 have HCO : Hid (qbj x ≤ 1000000 ∧ qbj y ≤ 1000000) := hid (by unfold qbj at hcost; omega)
 clear hel hlen ho hcost hB hNB hobj hn1 hn2 hx hy
 go_enter Tryz.func55,Tryz.ntmps55
 go_upto_region 22 with (fail)
 have hC : ∀ w',NmKeep B cs w w' → w'.cell? ⟨N,2,none⟩ = some u1 ∧ w'.cell? ⟨N,3,none⟩ = some u2 := fun w' k => ⟨qac (i := 2) (k.obj HOBJ.out (by decide)) rfl,qac (i := 3) (k.obj HOBJ.out (by decide)) rfl⟩
 have HC := hid hC
 clear hC
 have HLD := hid (NmKeep.later (B := B) (cs := cs) (qag.drew w))
 refine wp_region_held_drew (S := fun w => w.cell? ⟨N,2,none⟩ = some u1 ∧ w.cell? ⟨N,3,none⟩ = some u2) (by kernel_rfl) (HC.out _ HLD.out) (fun hS => ?_)
 refine tH 0 (.pointer (some ⟨N,0,none⟩)) rfl (by kernel_rfl) (fun _ _ _ h => h) ⟨by rfl,?_⟩ hS ?_
 ·intro w hS
  clear hS
  go_simp
 try simp only [Act.put,sib,List.set]
 refine tH 4 (.slice ao cs.length c) rfl (by kernel_rfl) (fun _ _ _ h => h) ⟨by rfl,?_⟩ hS ?_
 ·intro w hS
  clear hS
  go_simp
 try simp only [Act.put,sib,List.set]
 refine tH 6 (.pointer (some ⟨N,0,none⟩)) rfl (by kernel_rfl) (fun _ _ _ h => h) ⟨by rfl,?_⟩ hS ?_
 ·intro w hS
  clear hS
  go_simp
 try simp only [Act.put,sib,List.set]
 refine tH 10 (.slice ao cs.length c) rfl (by kernel_rfl) (fun _ _ _ h => h) ⟨by rfl,?_⟩ hS ?_
 ·intro w hS
  clear hS
  go_simp
 try simp only [Act.put,sib,List.set]
 refine tH 1 (.pointer (some ⟨N,0,none⟩)) rfl (by kernel_rfl) (fun _ _ _ h => h) ⟨by rfl,?_⟩ hS ?_
 ·rintro w ⟨h0,-⟩
  try (have := qad h0)
  go_simp
 try simp only [Act.put,sib,List.set]
 refine tH 7 (.pointer (some ⟨N,0,none⟩)) rfl (by kernel_rfl) (fun _ _ _ h => h) ⟨by rfl,?_⟩ hS ?_
 ·rintro w ⟨h0,-⟩
  try (have := qad h0)
  go_simp
 try simp only [Act.put,sib,List.set]
 refine tH 2 (.pointer (some ⟨N,2,none⟩)) rfl (by kernel_rfl) (fun _ _ _ h => h) ⟨by rfl,?_⟩ hS ?_
 ·rintro w ⟨h0,-⟩
  try (have := qad h0)
  go_simp
 try simp only [Act.put,sib,List.set]
 refine tH 8 (.pointer (some ⟨N,3,none⟩)) rfl (by kernel_rfl) (fun _ _ _ h => h) ⟨by rfl,?_⟩ hS ?_
 ·rintro w ⟨h0,-⟩
  try (have := qad h0)
  go_simp
 try simp only [Act.put,sib,List.set]
 refine tH 3 u1 rfl (by kernel_rfl) (fun _ _ _ h => h) ⟨by rfl,?_⟩ hS ?_
 ·rintro w ⟨h0,-⟩
  try (have := qad h0)
  go_simp
 try simp only [Act.put,sib,List.set]
 refine tH 9 u2 rfl (by kernel_rfl) (fun _ _ _ h => h) ⟨by rfl,?_⟩ hS ?_
 ·rintro w ⟨-,h0⟩
  try (have := qad h0)
  go_simp
 try simp only [Act.put,sib,List.set]
 refine wpAnyH_ready (rs := [5]) (by kernel_rfl) (by simp) (AllReadyH.cons rfl (fun K hK => ?_) AllReadyH.nil)
 go_simp
 refine (HX.out B ao c u1 w.drew (qbm.kept (fun s p i h => qMay_set h) HLD.out _ _ HN1.out) (HEL.out.named HLD.out) HLN.out HO.out.2.1 HCO.out.1 (Nat.le_trans HB.out HLD.out.size)).mono ?_
 rintro e w1 ⟨hk1,hm1⟩
 have HK1 := hid (HLD.out.trans hk1)
 cases hkx : kindP cs x with
 | error f =>
   rw [hkx] at hm1
   simp only at hm1
   have hfl := hm1
   unfold qbr at hm1
   subst hm1
   refine ⟨rfl,HK1.out,?_⟩
   unfold kindP
   rw [hkx]
   exact hfl
 | ok ka =>
 rw [hkx] at hm1
 obtain ⟨rfl,hq1⟩ := hm1
 have HKX := hid hkx; have HQ1 := hid hq1
 clear hk1 hkx hq1 hS
 refine hK.out _ _ (HC.out _ HK1.out) (fun hS => ?_)
 clear hK K
 try simp only [Act.put,sib,List.set]
 refine wpAnyH_ready (rs := [11]) (by kernel_rfl) (by simp) (AllReadyH.cons rfl (fun K hK => ?_) AllReadyH.nil)
 go_simp
 refine (HY.out B ao c u2 w1 (qbm.kept (fun s p i h => qMay_set h) HK1.out _ _ HN2.out) (HEL.out.named HK1.out) HLN.out HO.out.2.2 HCO.out.2 (Nat.le_trans HB.out HK1.out.size)).mono ?_
 rintro e w2 ⟨hk2,hm2⟩
 have HK2 := hid (HK1.out.trans hk2)
 have HQ2 := hid (qbm.kept (fun s p i h => qIdx_set h) hk2 _ _ HQ1.out)
 cases hky : kindP cs y with
 | error f =>
   rw [hky] at hm2
   simp only at hm2
   have hfl := hm2
   unfold qbr at hm2
   subst hm2
   refine ⟨rfl,HK2.out,?_⟩
   unfold kindP
   rw [HKX.out]
   simp only
   rw [hky]
   exact hfl
 | ok kb =>
 rw [hky] at hm2
 obtain ⟨rfl,hq2⟩ := hm2
 have HKY := hid hky; have HR2 := hid hq2
 clear hk2 hky hq2 hS
 refine hK.out _ _ (HC.out _ HK2.out) (fun hS => ?_)
 clear hK K
 try simp only [Act.put,sib,List.set]
 refine tH 12 (.int .i64 ka) rfl (by kernel_rfl) (fun _ _ _ h => h) ⟨by rfl,?_⟩ hS ?_
 ·intro w hS
  clear hS
  go_simp
 try simp only [Act.put,sib,List.set]
 refine tH 13 (.int .i64 kb) rfl (by kernel_rfl) (fun _ _ _ h => h) ⟨by rfl,?_⟩ hS ?_
 ·intro w hS
  clear hS
  go_simp
 try simp only [Act.put,sib,List.set]
 clear hS
 refine wpAnyH_done (by kernel_rfl) ?_ _
 try simp only [Act.put,sib,List.set]
 have HP : Hid (kindP cs (.bin o p x y) = if ka = (wantK o ka).1 ∧ kb = (wantK o ka).1 then .ok (wantK o ka).2 else .error (3,p)) := hid (by
  conv => lhs; unfold kindP
  rw [HKX.out,HKY.out]
  simp only
  rw [binK_want]
  by_cases hq : ka = (wantK o ka).1 ∧ kb = (wantK o ka).1
  ·rw [if_pos hq,if_pos hq]
  ·rw [if_neg hq,if_neg hq])
 obtain ⟨w3,hw3⟩ : ∃ w3,w3 = w2 := ⟨_,rfl⟩
 have hL3 : qag w2 w3 := hw3 ▸ qag.refl w2
 have HK3 := hid (HK2.out.trans (NmKeep.later (B := B) (cs := cs) hL3))
 have HQ3 := hid (qbm.kept (fun s p i h => qIdx_set h) (NmKeep.later (B := B) (cs := cs) hL3) _ _ HQ2.out)
 have HR3 := hid (qbm.kept (fun s p i h => qIdx_set h) (NmKeep.later (B := B) (cs := cs) hL3) _ _ HR2.out)
 rw [← hw3]
 clear hL3 hw3
 have q0 : w3.cell? ⟨N,0,none⟩ = some (.string (qah o)) := qac (i := 0) (HK3.out.obj HOBJ.out (by decide)) rfl
 have ql := qad q0
 go_wp2_with fail
 refine (levelOf_any o HO.out.1 w3).mono ?_
 rintro e w4 ⟨rfl,hL4⟩
 have HK4 := hid (HK3.out.trans (NmKeep.later (B := B) (cs := cs) hL4))
 have HQ4 := hid (qbm.kept (fun s p i h => qIdx_set h) (NmKeep.later (B := B) (cs := cs) hL4) _ _ HQ3.out)
 have HR4 := hid (qbm.kept (fun s p i h => qIdx_set h) (NmKeep.later (B := B) (cs := cs) hL4) _ _ HR3.out)
 have q1 : w4.cell? ⟨N,1,none⟩ = some (.int .i64 (p : Int)) := qac (i := 1) (HK4.out.obj HOBJ.out (by decide)) rfl
 clear q0 ql hL4
 have q0 : w4.cell? ⟨N,0,none⟩ = some (.string (qah o)) := qac (i := 0) (HK4.out.obj HOBJ.out (by decide)) rfl
 have ql := qad q0
 obtain ⟨lv,hlv⟩ : ∃ n,qct o = n := ⟨_,rfl⟩
 rw [hlv]
 obtain ⟨bc,hbc⟩ : ∃ b,decide (o = catW) = b := ⟨_,rfl⟩
 have e1 : ((qah o).toList == [43,43]) = bc := by rw [qan,← hbc,Bool.eq_iff_iff]; simp
 have HW : Hid (wantK o ka = if lv < 2 then (2,2) else if lv = 2 then (ka,2) else if bc = true then (3,3) else (1,1)) := hid (by unfold wantK; rw [hlv,← hbc]; simp only [decide_eq_true_eq])
 have HNODE : Hid (qbm (qIdx cs) (fun b => B ≤ b) w4 (.iface 140 (.pointer (some ⟨N,0,none⟩))) (.bin o p x y)) := hid (by
  unfold qbm
  exact ⟨N,u1,u2,HN.out,rfl,HK4.out.obj HOBJ.out (by decide),HQ4.out,HR4.out⟩)
 clear hlv hbc
 by_cases h1 : lv < 2
 ·have h1i : (lv : Int) < 2 := by omega
  have HWW : Hid (wantK o ka = (2,2)) := hid (by rw [HW.out]; rw [if_pos h1])
  clear HW
  by_cases ha : ka = 2
  ·subst ha
   by_cases hb : kb = 2
   ·subst hb
    go_wp2_with fail
    refine bodyPost_ret (results_tmp rfl _ _ _) rfl ⟨HK4.out,?_⟩
    rw [HP.out,HWW.out,if_pos ⟨rfl,rfl⟩]
    exact ⟨rfl,HNODE.out⟩
   ·have HBN := hid hb
    go_wp2_with fail
    refine (qbn 3 p _).mono ?_
    rintro e w' ⟨hfl,hw'⟩
    subst w'
    have hfl' := hfl
    unfold qbr at hfl
    subst hfl
    simp only [Exit.then,Exit.inBlock]
    refine ⟨rfl,HK4.out,?_⟩
    rw [HP.out,HWW.out,if_neg (by rintro ⟨h1,h2⟩; exact HBN.out h2)]
    exact hfl'
  ·have HAN := hid ha
   go_wp2_with fail
   refine (qbn 3 p _).mono ?_
   rintro e w' ⟨hfl,hw'⟩
   subst w'
   have hfl' := hfl
   unfold qbr at hfl
   subst hfl
   simp only [Exit.then,Exit.inBlock]
   refine ⟨rfl,HK4.out,?_⟩
   rw [HP.out,HWW.out,if_neg (by rintro ⟨h1,h2⟩; exact HAN.out h1)]
   exact hfl'
 ·have h1i : ¬ (lv : Int) < 2 := by omega
  by_cases h2 : lv = 2
  ·have h2i : (lv : Int) = 2 := by omega
   have HWW : Hid (wantK o ka = (ka,2)) := hid (by rw [HW.out]; rw [if_neg h1,if_pos h2])
   clear HW
   by_cases hb : kb = ka
   ·subst hb
    go_wp2_with fail
    refine bodyPost_ret (results_tmp rfl _ _ _) rfl ⟨HK4.out,?_⟩
    rw [HP.out,HWW.out,if_pos ⟨rfl,rfl⟩]
    exact ⟨rfl,HNODE.out⟩
   ·have HBN := hid hb
    go_wp2_with fail
    refine (qbn 3 p _).mono ?_
    rintro e w' ⟨hfl,hw'⟩
    subst w'
    have hfl' := hfl
    unfold qbr at hfl
    subst hfl
    simp only [Exit.then,Exit.inBlock]
    refine ⟨rfl,HK4.out,?_⟩
    rw [HP.out,HWW.out,if_neg (by rintro ⟨h1,h2⟩; exact HBN.out h2)]
    exact hfl'
  ·have h2i : ¬ (lv : Int) = 2 := by omega
   cases bc with
   | true =>
     have HWW : Hid (wantK o ka = (3,3)) := hid (by rw [HW.out]; rw [if_neg h1,if_neg h2]; rfl)
     clear HW
     by_cases ha : ka = 3
     ·subst ha
      by_cases hb : kb = 3
      ·subst hb
       go_wp2_with fail
       refine bodyPost_ret (results_tmp rfl _ _ _) rfl ⟨HK4.out,?_⟩
       rw [HP.out,HWW.out,if_pos ⟨rfl,rfl⟩]
       exact ⟨rfl,HNODE.out⟩
      ·have HBN := hid hb
       go_wp2_with fail
       refine (qbn 3 p _).mono ?_
       rintro e w' ⟨hfl,hw'⟩
       subst w'
       have hfl' := hfl
       unfold qbr at hfl
       subst hfl
       simp only [Exit.then,Exit.inBlock]
       refine ⟨rfl,HK4.out,?_⟩
       rw [HP.out,HWW.out,if_neg (by rintro ⟨h1,h2⟩; exact HBN.out h2)]
       exact hfl'
     ·have HAN := hid ha
      go_wp2_with fail
      refine (qbn 3 p _).mono ?_
      rintro e w' ⟨hfl,hw'⟩
      subst w'
      have hfl' := hfl
      unfold qbr at hfl
      subst hfl
      simp only [Exit.then,Exit.inBlock]
      refine ⟨rfl,HK4.out,?_⟩
      rw [HP.out,HWW.out,if_neg (by rintro ⟨h1,h2⟩; exact HAN.out h1)]
      exact hfl'
   | false =>
     have HWW : Hid (wantK o ka = (1,1)) := hid (by rw [HW.out]; rw [if_neg h1,if_neg h2]; rfl)
     clear HW
     by_cases ha : ka = 1
     ·subst ha
      by_cases hb : kb = 1
      ·subst hb
       go_wp2_with fail
       refine bodyPost_ret (results_tmp rfl _ _ _) rfl ⟨HK4.out,?_⟩
       rw [HP.out,HWW.out,if_pos ⟨rfl,rfl⟩]
       exact ⟨rfl,HNODE.out⟩
      ·have HBN := hid hb
       go_wp2_with fail
       refine (qbn 3 p _).mono ?_
       rintro e w' ⟨hfl,hw'⟩
       subst w'
       have hfl' := hfl
       unfold qbr at hfl
       subst hfl
       simp only [Exit.then,Exit.inBlock]
       refine ⟨rfl,HK4.out,?_⟩
       rw [HP.out,HWW.out,if_neg (by rintro ⟨h1,h2⟩; exact HBN.out h2)]
       exact hfl'
     ·have HAN := hid ha
      go_wp2_with fail
      refine (qbn 3 p _).mono ?_
      rintro e w' ⟨hfl,hw'⟩
      subst w'
      have hfl' := hfl
      unfold qbr at hfl
      subst hfl
      simp only [Exit.then,Exit.inBlock]
      refine ⟨rfl,HK4.out,?_⟩
      rw [HP.out,HWW.out,if_neg (by rintro ⟨h1,h2⟩; exact HAN.out h1)]
      exact hfl'
end Go.Proofs.YtgajofkeidjbgaaGreatDoor
namespace Go.Proofs.YtgajofkeidjbgaaGreatDoor
set_option linter.unusedSimpArgs false
set_option linter.unusedVariables false
set_option maxHeartbeats 4000000
set_option maxRecDepth 100000
open Go Go.RowKit Go.Maps
def rawR (v : Value) : Option (DataW Value × List MemPlace) := some (.held v,[])
theorem rawR_inv {v : Value} {d : DataW Value} {ps : List MemPlace} (h : rawR v = some (d,ps)) : d = .held v := by
 simp only [rawR,Option.some.injEq,Prod.mk.injEq] at h
 exact h.1.symm
def nilS : Value := .slice none 0 0
def MapAt (w : World) (M n : Nat) (f : List UInt8 → Option Value) : Prop :=
 ∃ D : DataW Value,w.ownsMap Tryz.prog 9 rawR M n D ∧ ∀ k,Maps.has D (.string k) = (f k).isSome ∧ ∀ z,D.atKey (.string k) z = match f k with
   | some v => .held v
   | none => z
theorem lawS : Keyed Tryz.prog 9 := string_keyed Tryz.underlying9
theorem keyS (k : List UInt8) (h : k.length ≤ maxLen) : keyOf Tryz.prog 9 (.string (qah k)) = some (.string k) := by
 have := WideMaps.keyOf_string_mk Tryz.underlying9 (s := qah k) (by rw [qax]; exact h)
 exact this
theorem MapAt.lt {w : World} {M n : Nat} {f : List UInt8 → Option Value} (h : MapAt w M n f) : M < w.heap.size := let ⟨_,h,_⟩ := h; h.lt
theorem MapAt.kept {S : Nat → Prop} {w w' : World} {M n : Nat} {f : List UInt8 → Option Value} (h : MapAt w M n f) (k : Keeps S w w') (hs : S M) : MapAt w' M n f := by
 obtain ⟨D,⟨es,clock,hb,F,hz,hD⟩,hf⟩ := h
 exact ⟨D,⟨es,clock,k.obj hs hb,F,hz,hD⟩,hf⟩
theorem MapAt.later {w w' : World} {M n : Nat} {f : List UInt8 → Option Value} (h : MapAt w M n f) (k : qag w w') : MapAt w' M n f := h.kept (k.keeps fun _ => True) trivial
theorem MapAt.mono {w : World} {M n m : Nat} {f : List UInt8 → Option Value} (h : MapAt w M n f) (hn : n ≤ m) : MapAt w M m f := let ⟨D,h,hf⟩ := h; ⟨D,h.mono hn,hf⟩
theorem MapAt.made (w : World) : MapAt (w.alloc (.map #[] 0)) w.heap.size 0 (fun _ => none) := ⟨.map [],World.ownsMap_made _ _ _ _,fun k => ⟨rfl,fun z => rfl⟩⟩
section
variable {mt et : TypeId} (ht : Tryz.prog.underlying mt = some (.map 9 et)) (hz : ∀ w,(zeroValue et).run Tryz.prog w = .ok (.slice none 0 0) w)
include ht
variable {w : World} {M n : Nat} {f : List UInt8 → Option Value} {ops : Array Oper} {rest : List Oper} {o : Oper} {a : Act} {Q : Exit → Act → World → Prop}
include hz in
theorem MapAt.look (hM : MapAt w M n f) (k : List UInt8) (hk : k.length ≤ maxLen) : (Instr.lookup mt (.map (some M)) (.string (qah k)) true).run Tryz.prog w = .ok (.tuple #[(f k).getD nilS,.bool (f k).isSome]) w := by
 obtain ⟨D,hown,hf⟩ := hM
 obtain ⟨v,ps,hrun,hv⟩ := hown.look_ok lawS ht (hz w) (zd := .held nilS) (zp := []) rfl (keyS k hk)
 rw [hrun]
 have h1 := rawR_inv hv
 obtain ⟨h2,h3⟩ := hf k
 rw [h3] at h1
 rw [h2]
 cases hfk : f k with
 | none =>
   rw [hfk] at h1
   simp only [DataW.held.injEq] at h1
   rw [← h1]
   rfl
 | some u =>
   rw [hfk] at h1
   simp only [DataW.held.injEq] at h1
   rw [← h1]
   rfl
include hz in
include hz in
end
theorem MapAt.keys {w : World} {M n : Nat} {f : List UInt8 → Option Value} (h : MapAt w M n f) {L : List (List UInt8)} (hn : L.Nodup) (hL : ∀ x,x ∈ L ↔ (f x).isSome = true) :
  ∃ D : DataW Value,w.ownsMap Tryz.prog 9 rawR M n D ∧ L.Perm (strKeys D) ∧ Maps.size D = L.length := by
 obtain ⟨D,hown,hf⟩ := h
 obtain ⟨es,rfl,hap,hlit⟩ := hown.entries lawS
 obtain ⟨es',he,hk⟩ := hown.keysOf
 injection he with he
 subst he
 have hp : L.Perm (strKeys (.map es : DataW Value)) := perm_strKeys hap (fun p hp => by
  obtain ⟨key,hkey⟩ := hk p hp
  obtain ⟨x,-,hx,-⟩ := Maps.keyOf_str Tryz.underlying9 hkey
  exact ⟨x,hx⟩) hn (fun x => by rw [hL,(hf x).1])
 refine ⟨_,hown,hp,?_⟩
 rw [hp.length_eq]
 show es.length = (es.map _).length
 rw [List.length_map]
structure MapKey (KT : TypeId) (K : Type) where
 kv : K → Value
 kl : K → Lit
 ok : K → Prop
 keyed : Keyed Tryz.prog KT
 key : ∀ k,ok k → keyOf Tryz.prog KT (kv k) = some (kl k)
 inj : ∀ k k',kl k = kl k' → k = k'
 lit : ∀ k,WideAt.IsKeyLit (kl k)
section
variable {KT : TypeId} {K : Type} (I : MapKey KT K)
def MapIn (w : World) (M n : Nat) (f : K → Option Value) : Prop :=
 ∃ D : DataW Value,w.ownsMap Tryz.prog KT rawR M n D ∧ ∀ k,Maps.has D (I.kl k) = (f k).isSome ∧ ∀ z,D.atKey (I.kl k) z = match f k with
   | some v => .held v
   | none => z
def updK [DecidableEq K] (f : K → Option Value) (k : K) (o : Option Value) : K → Option Value := fun x => if x = k then o else f x
variable {I}
theorem MapIn.lt {w : World} {M n : Nat} {f : K → Option Value} (h : MapIn I w M n f) : M < w.heap.size := let ⟨_,h,_⟩ := h; h.lt
theorem MapIn.kept {S : Nat → Prop} {w w' : World} {M n : Nat} {f : K → Option Value} (h : MapIn I w M n f) (k : Keeps S w w') (hs : S M) : MapIn I w' M n f := by
 obtain ⟨D,⟨es,clock,hb,F,hz,hD⟩,hf⟩ := h
 exact ⟨D,⟨es,clock,k.obj hs hb,F,hz,hD⟩,hf⟩
theorem MapIn.later {w w' : World} {M n : Nat} {f : K → Option Value} (h : MapIn I w M n f) (k : qag w w') : MapIn I w' M n f := h.kept (k.keeps fun _ => True) trivial
theorem MapIn.mono {w : World} {M n m : Nat} {f : K → Option Value} (h : MapIn I w M n f) (hn : n ≤ m) : MapIn I w M m f := let ⟨D,h,hf⟩ := h; ⟨D,h.mono hn,hf⟩
theorem key_ne {k x : K} (h : x ≠ k) : I.kl x ≠ I.kl k := fun e => h (I.inj _ _ e)
theorem MapIn.made (w : World) : MapIn I (w.alloc (.map #[] 0)) w.heap.size 0 (fun _ => none) := ⟨.map [],World.ownsMap_made _ _ _ _,fun k => ⟨rfl,fun z => rfl⟩⟩
variable {mt et : TypeId} {zv : Value} (ht : Tryz.prog.underlying mt = some (.map KT et)) (hz : ∀ w,(zeroValue et).run Tryz.prog w = .ok zv w)
include ht
variable {w : World} {M n : Nat} {f : K → Option Value} {ops : Array Oper} {rest : List Oper} {o : Oper} {a : Act} {Q : Exit → Act → World → Prop}
include hz in
theorem MapIn.look (hM : MapIn I w M n f) (k : K) (hk : I.ok k) : (Instr.lookup mt (.map (some M)) (I.kv k) true).run Tryz.prog w = .ok (.tuple #[(f k).getD zv,.bool (f k).isSome]) w := by
 obtain ⟨D,hown,hf⟩ := hM
 obtain ⟨v,ps,hrun,hv⟩ := hown.look_ok I.keyed ht (hz w) (zd := .held zv) (zp := []) rfl (I.key k hk)
 rw [hrun]
 have h1 := rawR_inv hv
 obtain ⟨h2,h3⟩ := hf k
 rw [h3] at h1
 rw [h2]
 cases hfk : f k with
 | none => rw [hfk] at h1; simp only [DataW.held.injEq] at h1; rw [← h1]; rfl
 | some u => rw [hfk] at h1; simp only [DataW.held.injEq] at h1; rw [← h1]; rfl
include hz in
theorem MapIn.look1 (hM : MapIn I w M n f) (k : K) (hk : I.ok k) : (Instr.lookup mt (.map (some M)) (I.kv k) false).run Tryz.prog w = .ok ((f k).getD zv) w := by
 obtain ⟨D,hown,hf⟩ := hM
 obtain ⟨v,ps,hrun,hv⟩ := hown.lookup I.keyed ht (hz w) (zd := .held zv) (zp := []) rfl (I.key k hk)
 rw [hrun]
 have h1 := rawR_inv hv
 rw [(hf k).2] at h1
 cases hfk : f k with
 | none => rw [hfk] at h1; simp only [DataW.held.injEq] at h1; rw [← h1]; rfl
 | some u => rw [hfk] at h1; simp only [DataW.held.injEq] at h1; rw [← h1]; rfl
theorem qdw [DecidableEq K] (hg : o.guard = none) (m x v : Operand) (hop : o.op = Op.mapUpdate mt m x v) (hm : a.eval m = .map (some M)) (hM : MapIn I w M n f) (hn : n < maxLen) (k : K) (hk : I.ok k) (hx : a.eval x = I.kv k) (u : Value) (hv : a.eval v = u)
  (hK : ∀ w',MapIn I w' M (n + 1) (updK f k (some u)) → Keeps (fun b => b ≠ M) w w' → wpList Tryz.prog ops Q rest (a.put o.dst undef) w') : wpList Tryz.prog ops Q (o :: rest) a w := by
 obtain ⟨D,hown,hf⟩ := hM
 refine wpList_mapUpdate_own w hg m x v mt hop KT et I.keyed ht rawR M n D hm hown hn _ u (I.kl k) hx hv (I.key k hk) (.held u) [] rfl fun w' h' hg' => ?_
 refine hK w' ⟨_,h',fun y => ?_⟩ ((Keeps.of_grown hg').mono fun b _ hb e => hb (Option.some.inj e))
 unfold updK
 by_cases hy : y = k
 ·subst hy
  rw [if_pos rfl]
  exact ⟨Maps.has_put_same hown.isMap (I.lit y) _,fun z => Maps.atKey_put_same hown.isMap (I.lit y) _ z⟩
 ·rw [if_neg hy,Maps.has_put_other (key_ne hy)]
  exact ⟨(hf y).1,fun z => by rw [Maps.atKey_put_other (key_ne hy)]; exact (hf y).2 z⟩
end
theorem wpList_ins {P : Program} {ops : Array Oper} {rest : List Oper} {o : Oper} {a : Act} {w : World} {Q : Exit → Act → World → Prop} {mt : TypeId} {m x v : Operand} (hop : o.op = Op.insert mt m x v)
  (h : wpList P ops Q ({ o with op := Op.mapUpdate mt m x v } :: rest) a w) : wpList P ops Q (o :: rest) a w := by
 obtain ⟨d,op,ty,pos,aft,gd⟩ := o
 simp only at hop
 subst hop
 exact h
theorem strict_any (F : FuncId) (w : World) : Calls Tryz.prog 107 #[.func (.func F) #[] #[]] w fun e w' => e = .returned (.func (.func 126) #[] #[.pointer (some ⟨w.heap.size,0,none⟩)]) ∧ w' = w.alloc (.cells #[.func (.func F) #[] #[]] 84) := by
 go_enter Tryz.func107,Tryz.ntmps107
 go_wp2_with fail
 exact bodyPost_ret (results_tmp rfl _ _ _) rfl ⟨rfl,rfl⟩
def strI : MapKey 9 (List UInt8) := ⟨fun k => .string (qah k),fun k => .string k,fun k => k.length ≤ maxLen,lawS,keyS,fun k k' h => by injection h,fun k => trivial⟩
def KRow (w : World) (b : Nat) (ar : List Int) : Prop := w.heap[b]? = some (.cells (ar.map fun k => Value.int .i64 k).toArray 33 (0,0))
def fnF (f : List UInt8) : FuncId := if f = lenW then 108 else if f = absW then 109 else if f = cutW then 110 else if f = qbv then 111 else if f = coalW then 112 else 113
def isStrict (f : List UInt8) : Prop := f = lenW ∨ f = absW ∨ f = cutW
instance (f : List UInt8) : Decidable (isStrict f) := by unfold isStrict; infer_instance
def EvV (w : World) (f : List UInt8) (ev : Value) : Prop :=
 if isStrict f then ∃ K,ev = .func (.func 126) #[] #[.pointer (some ⟨K,0,none⟩)] ∧ w.heap[K]? = some (.cells #[.func (.func (fnF f)) #[] #[]] 84 (0,0)) else ev = .func (.func (fnF f)) #[] #[]
def ShapeAt (w : World) (f : List UInt8) (ar : List Int) (out : Int) (v : Value) : Prop := ∃ b ev,v = .agg #[.slice (some ⟨b,0,none⟩) ar.length ar.length,.int .i64 out,ev] ∧ KRow w b ar ∧ EvV w f ev
theorem ShapeAt.kept {w w' : World} {f : List UInt8} {ar : List Int} {out : Int} {v : Value} (M : Nat) (hM : ∃ es n,w.heap[M]? = some (.map es n)) (h : ShapeAt w f ar out v) (k : Keeps (fun b => b ≠ M) w w') : ShapeAt w' f ar out v := by
 obtain ⟨es,n,hm⟩ := hM
 obtain ⟨b,ev,h1,h2,h3⟩ := h
 have hb : b ≠ M := fun e => by unfold KRow at h2; rw [e,hm] at h2; cases h2
 refine ⟨b,ev,h1,k.obj hb h2,?_⟩
 unfold EvV at h3 ⊢
 split at h3
 ·rename_i hs
  rw [if_pos hs]
  obtain ⟨K,e1,e2⟩ := h3
  have hK : K ≠ M := fun e => by rw [e,hm] at e2; cases e2
  exact ⟨K,e1,k.obj hK e2⟩
 ·rename_i hs
  rw [if_neg hs]
  exact h3
theorem ShapeAt.later {w w' : World} {f : List UInt8} {ar : List Int} {out : Int} {v : Value} (h : ShapeAt w f ar out v) (k : qag w w') : ShapeAt w' f ar out v := by
 obtain ⟨b,ev,h1,h2,h3⟩ := h
 refine ⟨b,ev,h1,k.obj h2,?_⟩
 unfold EvV at h3 ⊢
 split at h3
 ·rename_i hs
  rw [if_pos hs]
  obtain ⟨K,e1,e2⟩ := h3
  exact ⟨K,e1,k.obj e2⟩
 ·rename_i hs
  rw [if_neg hs]
  exact h3
theorem MapIn.obj {w : World} {M n : Nat} {f : List UInt8 → Option Value} (h : MapIn strI w M n f) : ∃ es c,w.heap[M]? = some (.map es c) := by
 obtain ⟨D,⟨es,clock,hb,-⟩,-⟩ := h
 exact ⟨es,clock,hb⟩
theorem qeb {w wp w1 : World} {M : Nat} (h : qag w wp) (hM : w.heap.size ≤ M) (k : Keeps (fun b => b ≠ M) wp w1) : qag w w1 := (((h.keeps (fun _ => True)).under (k.mono fun b _ hb => by omega))).later
theorem ShapeAt.next {w1 wp w2 : World} {M n : Nat} {F : List UInt8 → Option Value} {f : List UInt8} {ar : List Int} {out : Int} {v : Value} (h : ShapeAt w1 f ar out v) (hM : MapIn strI w1 M n F) (hl : qag w1 wp) (hk : Keeps (fun b => b ≠ M) wp w2) : ShapeAt w2 f ar out v := (h.later hl).kept M (MapIn.obj (hM.later hl)) hk
theorem shape_strict {src w1 : World} {M n : Nat} {F : List UInt8 → Option Value} (hM : MapIn strI src M n F) (f : List UInt8) (ar : List Int) (out : Int) (G : FuncId) (hs : isStrict f) (hG : fnF f = G)
  (hk : Keeps (fun b => b ≠ M) ((src.alloc (.cells (ar.map fun k => Value.int .i64 k).toArray 33)).alloc (.cells #[.func (.func G) #[] #[]] 84)) w1) :
  ShapeAt w1 f ar out (.agg #[.slice (some ⟨src.heap.size,0,none⟩) ar.length ar.length,.int .i64 out,.func (.func 126) #[] #[.pointer (some ⟨src.heap.size + 1,0,none⟩)]]) := by
 refine ShapeAt.kept M (MapIn.obj (hM.later ((qag.alloc _ _).alloc' _))) ⟨_,_,rfl,(qag.alloc _ _).obj (qap src _),?_⟩ hk
 unfold EvV
 rw [if_pos hs,hG]
 exact ⟨_,rfl,qcp (by simp)⟩
theorem shape_plain {src w1 : World} {M n : Nat} {F : List UInt8 → Option Value} (hM : MapIn strI src M n F) (f : List UInt8) (ar : List Int) (out : Int) (G : FuncId) (hs : ¬ isStrict f) (hG : fnF f = G)
  (hk : Keeps (fun b => b ≠ M) (src.alloc (.cells (ar.map fun k => Value.int .i64 k).toArray 33)) w1) :
  ShapeAt w1 f ar out (.agg #[.slice (some ⟨src.heap.size,0,none⟩) ar.length ar.length,.int .i64 out,.func (.func G) #[] #[]]) := by
 refine ShapeAt.kept M (MapIn.obj (hM.later (qag.alloc _ _))) ⟨_,_,rfl,qap src _,?_⟩ hk
 unfold EvV
 rw [if_neg hs,hG]
def FuncsTo (w : World) (e : Ending) (w' : World) : Prop := ∃ (M : Nat) (F : List UInt8 → Option Value),e = .returned (.map (some M)) ∧ qag w w' ∧ MapIn strI w' M 6 F ∧ ∀ f,match qem f with
 | none => F f = none
 | some a => ∃ v,F f = some v ∧ ShapeAt w' f a.1 a.2 v
theorem functions_any (w : World) : Calls Tryz.prog 92 #[] w (FuncsTo w) := by
 have hmm := @run_makeMap Tryz.prog
 go_enter Tryz.func92,Tryz.ntmps92
 go_wp2_with (first | (go_at_call 107; refine (strict_any _ _).mono ?_; rintro e w' ⟨rfl,rfl⟩) | (refine wpList_ins rfl ?_; refine qdw (I := strI) Tryz.underlying177 rfl _ _ _ rfl rfl ((MapIn.made w).later ?hM0) ?hn0 lenW ?hk0 rfl _ rfl ?_))
 case hM0 => exact (qag.alloc _ _).alloc' _
 case hn0 => unfold maxLen; omega
 case hk0 => show List.length _ ≤ maxLen; unfold maxLen; decide
 intro w1 hm1 hk1
 have HS1 := hid (shape_strict (MapIn.made w) lenW [3] 1 108 (by decide) (by decide) hk1)
 have HM1 := hid hm1; have HK1 := hid hk1
 clear hm1 hk1
 go_wp2_with (first | (go_at_call 107; refine (strict_any _ _).mono ?_; rintro e w' ⟨rfl,rfl⟩) | (refine wpList_ins rfl ?_; refine qdw (I := strI) Tryz.underlying177 rfl _ _ _ rfl rfl (HM1.out.later ?hM1) ?hn1 absW ?hk1 rfl _ rfl ?_))
 case hM1 => exact (qag.alloc _ _).alloc' _
 case hn1 => unfold maxLen; omega
 case hk1 => show List.length _ ≤ maxLen; unfold maxLen; decide
 intro w2 hm2 hk2
 have HS2 := hid (shape_strict HM1.out absW [1] 1 109 (by decide) (by decide) hk2)
 have HM2 := hid hm2; have HK2 := hid hk2
 clear hm2 hk2
 go_wp2_with (first | (go_at_call 107; refine (strict_any _ _).mono ?_; rintro e w' ⟨rfl,rfl⟩) | (refine wpList_ins rfl ?_; refine qdw (I := strI) Tryz.underlying177 rfl _ _ _ rfl rfl (HM2.out.later ?hM2) ?hn2 cutW ?hk2 rfl _ rfl ?_))
 case hM2 => exact (qag.alloc _ _).alloc' _
 case hn2 => unfold maxLen; omega
 case hk2 => show List.length _ ≤ maxLen; unfold maxLen; decide
 intro w3 hm3 hk3
 have HS3 := hid (shape_strict HM2.out cutW [3,1] 3 110 (by decide) (by decide) hk3)
 have HM3 := hid hm3; have HK3 := hid hk3
 clear hm3 hk3
 go_wp2_with (first | (go_at_call 107; refine (strict_any _ _).mono ?_; rintro e w' ⟨rfl,rfl⟩) | (refine wpList_ins rfl ?_; refine qdw (I := strI) Tryz.underlying177 rfl _ _ _ rfl rfl (HM3.out.later ?hM3) ?hn3 qbv ?hk3 rfl _ rfl ?_))
 case hM3 => exact qag.alloc _ _
 case hn3 => unfold maxLen; omega
 case hk3 => show List.length _ ≤ maxLen; unfold maxLen; decide
 intro w4 hm4 hk4
 have HS4 := hid (shape_plain HM3.out qbv [0] 2 111 (by decide) (by decide) hk4)
 have HM4 := hid hm4; have HK4 := hid hk4
 clear hm4 hk4
 go_wp2_with (first | (go_at_call 107; refine (strict_any _ _).mono ?_; rintro e w' ⟨rfl,rfl⟩) | (refine wpList_ins rfl ?_; refine qdw (I := strI) Tryz.underlying177 rfl _ _ _ rfl rfl (HM4.out.later ?hM4) ?hn4 coalW ?hk4 rfl _ rfl ?_))
 case hM4 => exact qag.alloc _ _
 case hn4 => unfold maxLen; omega
 case hk4 => show List.length _ ≤ maxLen; unfold maxLen; decide
 intro w5 hm5 hk5
 have HS5 := hid (shape_plain HM4.out coalW [9,9] 9 112 (by decide) (by decide) hk5)
 have HM5 := hid hm5; have HK5 := hid hk5
 clear hm5 hk5
 go_wp2_with (first | (go_at_call 107; refine (strict_any _ _).mono ?_; rintro e w' ⟨rfl,rfl⟩) | (refine wpList_ins rfl ?_; refine qdw (I := strI) Tryz.underlying177 rfl _ _ _ rfl rfl (HM5.out.later ?hM5) ?hn5 ifW ?hk5 rfl _ rfl ?_))
 case hM5 => exact qag.alloc _ _
 case hn5 => unfold maxLen; omega
 case hk5 => show List.length _ ≤ maxLen; unfold maxLen; decide
 intro w6 hm6 hk6
 have HS6 := hid (shape_plain HM5.out ifW [2,9,9] 9 113 (by decide) (by decide) hk6)
 have HM6 := hid hm6; have HK6 := hid hk6
 clear hm6 hk6
 go_wp2_with fail
 refine bodyPost_ret (results_tmp rfl _ _ _) rfl ⟨w.heap.size,_,rfl,?_,HM6.out,?_⟩
 ·exact qeb (qag.trans _ _ _ (qeb (qag.trans _ _ _ (qeb (qag.trans _ _ _ (qeb (qag.trans _ _ _ (qeb (qag.trans _ _ _ (qeb (((qag.alloc _ _).alloc' _).alloc' _) (Nat.le_refl _) HK1.out) ((qag.alloc _ _).alloc' _)) (Nat.le_refl _) HK2.out) ((qag.alloc _ _).alloc' _)) (Nat.le_refl _) HK3.out) (qag.alloc _ _)) (Nat.le_refl _) HK4.out) (qag.alloc _ _)) (Nat.le_refl _) HK5.out) (qag.alloc _ _)) (Nat.le_refl _) HK6.out
 ·intro f
  unfold qem
  by_cases h0 : f = lenW
  ·subst h0
   simp only [if_true,reduceIte]
   exact ⟨_,by simp [updK],(((((HS1.out).next HM1.out ((qag.alloc _ _).alloc' _) HK2.out).next HM2.out ((qag.alloc _ _).alloc' _) HK3.out).next HM3.out (qag.alloc _ _) HK4.out).next HM4.out (qag.alloc _ _) HK5.out).next HM5.out (qag.alloc _ _) HK6.out⟩
  rw [if_neg h0]
  by_cases h1 : f = absW
  ·subst h1
   simp only [if_true,reduceIte]
   exact ⟨_,by simp [updK],((((HS2.out).next HM2.out ((qag.alloc _ _).alloc' _) HK3.out).next HM3.out (qag.alloc _ _) HK4.out).next HM4.out (qag.alloc _ _) HK5.out).next HM5.out (qag.alloc _ _) HK6.out⟩
  rw [if_neg h1]
  by_cases h2 : f = cutW
  ·subst h2
   simp only [if_true,reduceIte]
   exact ⟨_,by simp [updK],(((HS3.out).next HM3.out (qag.alloc _ _) HK4.out).next HM4.out (qag.alloc _ _) HK5.out).next HM5.out (qag.alloc _ _) HK6.out⟩
  rw [if_neg h2]
  by_cases h3 : f = qbv
  ·subst h3
   simp only [if_true,reduceIte]
   exact ⟨_,by simp [updK],((HS4.out).next HM4.out (qag.alloc _ _) HK5.out).next HM5.out (qag.alloc _ _) HK6.out⟩
  rw [if_neg h3]
  by_cases h4 : f = coalW
  ·subst h4
   simp only [if_true,reduceIte]
   exact ⟨_,by simp [updK],(HS5.out).next HM5.out (qag.alloc _ _) HK6.out⟩
  rw [if_neg h4]
  by_cases h5 : f = ifW
  ·subst h5
   simp only [if_true,reduceIte]
   exact ⟨_,by simp [updK],HS6.out⟩
  rw [if_neg h5]
  simp [updK,h0,h1,h2,h3,h4,h5]
end Go.Proofs.YtgajofkeidjbgaaGreatDoor
