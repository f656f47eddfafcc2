/-
  PROVED HERE: a part of the proof of ExprEvals: ParBin, RegionK.
-/
import Derived.Test.YtgajofkeidjbgaaGreatDoorShort
import Derived.Test.YtgajofkeidjbgaaGreatDoorGParUn2
import Derived.Deep.RegionHeld
namespace Go.Proofs.YtgajofkeidjbgaaGreatDoor
set_option linter.unusedSimpArgs false
set_option linter.unusedVariables false
set_option maxHeartbeats 4000000
set_option maxRecDepth 100000
open Go.RowKit
attribute [local go_sem high] tok_f0 tok_f1 tok_f2
theorem tok_not {t : Tok} (h : TokOk t) : isW t notW = (decide (t.t = notW) && decide (t.k = 110)) := by
 unfold isW
 by_cases ht : t.t = notW
 ·have hk : t.k = 110 := by
   rcases h with ⟨_,h2⟩ | ⟨h1,_⟩ | ⟨_,c,r,h2,h3⟩ | ⟨_,r,h2⟩ | ⟨_,h2⟩
   ·rw [ht] at h2; cases h2
   ·exact h1
   ·rw [ht] at h2; cases h2; exact absurd h3 (by decide)
   ·rw [ht] at h2; cases h2
   ·rw [ht] at h2; exact absurd h2 (by decide)
  simp [ht,hk]
 ·have : (t.t == notW) = false := by simp [ht]
  rw [this]; simp [ht]
def toksLen (w : World) (P : Nat) : Nat := match w.cell? ⟨P,0,none⟩ with
 | some (.slice _ n _) => n
 | _ => 0
theorem PAt.len {w : World} {P d : Nat} {l : List Tok} (h : PAt w P d l) : toksLen w P = l.length := by
 obtain ⟨v,h1,⟨a,c,rfl,-⟩,-⟩ := h
 unfold toksLen
 rw [qac (i := 0) h1 rfl]
 rfl
theorem LevelsAt.mono {S S' : Nat → Prop} {w : World} {v : Value} (h : LevelsAt S w v) (hs : ∀ b,S b → S' b) : LevelsAt S' w v := by
 obtain ⟨B,hv,hB,hk⟩ := h
 exact ⟨B,hv,hs _ hB,fun i hi => let ⟨b,h0,h1,h2⟩ := hk i hi; ⟨b,hs _ h0,h1,h2⟩⟩
theorem qdh.kept {S : Nat → Prop} {w w' : World} {b off : Nat} {xs : List (List UInt8)} (h : qdh w b off xs) (k : Keeps S w w') (hs : S b) : qdh w' b off xs := fun j hj => k.cell (p := ⟨b,off + j,none⟩) hs (h j hj)
theorem lvl_len : ∀ L,(qaw L).length ≤ 1048576
 | 0 => by decide
 | 1 => by decide
 | 2 => by decide
 | 3 => by decide
 | 4 => by decide
 | _ + 5 => by show 0 ≤ _; omega
def BinRel (w : World) (P d L : Nat) (l0 : List Tok) (B : Nat) (v : Value) (wx : World) : Prop :=
 ∃ (x : Ex) (l' : List Tok),qbh (fun b => b ≠ P ∧ w.heap.size ≤ b) wx v x ∧ PAt wx P d l' ∧ EndL l' ∧ l'.length < l0.length ∧ (∀ s,Par true (.loop L x) d l' s → Par true (.bin L) d l0 s) ∧
   wx.cell? ⟨w.heap.size,0,none⟩ = some (.pointer (some ⟨P,0,none⟩)) ∧ LevelsAt (fun b => b ≠ P) wx (.slice (some ⟨B,0,none⟩) 5 5) ∧ Keeps (fun b => b ≠ P) w wx
theorem BinRel.shape {w : World} {P d L : Nat} {l0 : List Tok} {B : Nat} {v : Value} {wx : World} (h : BinRel w P d L l0 B v wx) : ∃ T B',v = .iface T (.pointer (some ⟨B',0,none⟩)) := let ⟨_,_,hn,_⟩ := h; hn.shape
theorem binary_any (P d L : Nat) (l : List Tok) (w : World) (hL : L ≤ 5) (h : PAt w P d l) (hl : EndL l) (hd : d ≤ 12)
  (IHB : ∀ L' d' l' w1,Keeps (fun b => b ≠ P) w w1 → (l'.length < l.length ∨ (l' = l ∧ L < L')) → L' ≤ 5 → d' ≤ 12 → PAt w1 P d' l' → EndL l' → Calls Tryz.prog 39 #[.pointer (some ⟨P,0,none⟩),.int .i64 (L' : Int)] w1 (POut w1 P d' l' (Par true (.bin L') d' l')))
  (HUN : ∀ w1,Keeps (fun b => b ≠ P) w w1 → PAt w1 P d l → Calls Tryz.prog 71 #[.pointer (some ⟨P,0,none⟩)] w1 (POut w1 P d l (Par true .un d l))) :
  Calls Tryz.prog 39 #[.pointer (some ⟨P,0,none⟩),.int .i64 (L : Int)] w (POut w P d l (Par true (.bin L) d l)) := by
 have HIB := hid IHB; have HUNI := hid HUN; have HD := hid hd; have HLL := hid hL
 obtain ⟨t,r,rfl,htok,hend⟩ := hl.cons
 have HTK := hid htok; have HEN := hid hend; have HP := hid h; have HEL := hid hl
 have hPs : P < w.heap.size := by obtain ⟨v,h1,-⟩ := h; exact (Array.getElem?_eq_some_iff.1 h1).1
 have HPS := hid hPs
 clear IHB HUN hd hL htok hend h hl hPs
 go_enter Tryz.func39,Tryz.ntmps39
 go_wp2_with fail
 refine (levels_any _).mono ?_
 rintro e w1 ⟨v,rfl,hlv,hL1⟩
 have hX := hL1.cell (qac (i := 0) (qap w (.cells #[.pointer (some ⟨P,0,none⟩)] 95)) rfl)
 have HLW := hid (qag.trans _ _ _ (qag.alloc w (.cells #[.pointer (some ⟨P,0,none⟩)] 95)) hL1)
 have HLV := hid hlv
 obtain ⟨B,rfl,-⟩ := id hlv
 clear hL1 hlv
 by_cases h5 : L = 5
 ·subst h5
  go_wp2_with fail
  refine ((HUNI.out w1 (HLW.out.keeps _) (HP.out.later HLW.out)).mono fun e w' h => h.before (HLW.out.keeps _)).mono ?_
  rintro e w' ⟨k,rs,hr,hm⟩
  cases rs with
  | error f =>
    simp only at hm
    unfold qbr at hm
    subst hm
    exact ⟨rfl,k,.error f,par_bin_un hr,rfl⟩
  | ok x =>
    obtain ⟨v,rfl,hm⟩ := hm
    have HK := hid k; have HR := hid hr; have HM := hid hm
    clear k hr hm
    go_wp2_with fail
    exact bodyPost_ret (results_tmp rfl _ _ _) rfl ⟨HK.out,.ok x,par_bin_un HR.out,v,rfl,HM.out⟩
 ·have h5' : ((L : Int) == 5) = false := by simp; omega
  have HL5 : Hid (L < 5) := hid (by have := HLL.out; omega)
  clear h5
  go_upto_region 4 with (fail)
  obtain ⟨b0,h0⟩ : ∃ b,decide (L = 2) = b := ⟨_,rfl⟩
  obtain ⟨b1,h1⟩ : ∃ b,decide (t.t = notW) = b := ⟨_,rfl⟩
  obtain ⟨b2,h2⟩ : ∃ b,decide (t.k = 110) = b := ⟨_,rfl⟩
  have HW : Hid (isW t notW = (b1 && b2)) := hid (by rw [tok_not HTK.out,h1,h2])
  have e0 : ((L : Int) == 2) = b0 := by rw [← h0,Bool.eq_iff_iff]; simp; omega
  have e2 : ((t.k.toNat : Int) == 110) = b2 := (qdb t.k 110 (by omega)).trans h2
  have e1 : ((qah t.t).toList == [110,111,116]) = b1 := by rw [qan,← h1,Bool.eq_iff_iff]; simp
  have HB0 := hid h0
  clear h0 h1 h2
  obtain ⟨R1,hR1⟩ : ∃ RR_ : (Nat → Value) → World → Prop,RR_ = (fun us wy => us 1 = .int .i64 (L : Int) ∧ us 29 = .bool (b0 && isW t notW) ∧ qag w1 wy) := ⟨_,rfl⟩
  have HR1 := hid hR1; clear hR1
  refine qau [ff,true,ff,ff,ff,ff,ff,ff,ff,ff,true,ff,ff,ff,ff,ff,true,true,true,true,true,true,true,true,true,true,true,true,true,true] R1 _ HR1.out ?_ ?_
  ·cases b0 with
   | false =>
     go_wp2_with fail
     refine Meet.mk' HR1.out rfl ?_
     exact ⟨by simp [qas],by simp [qas],qag.refl _⟩
   | true =>
     go_wp2_with fail
     refine (qeo P d t r _ (HP.out.later HLW.out)).mono ?_
     rintro e w2 ⟨rfl,hL2⟩
     have HL2 := hid hL2
     have hX2 := hL2.cell hX
     unfold Tok.v
     clear hL2 hX
     cases b1 with
     | false =>
       go_wp2_with fail
       refine Meet.mk' HR1.out rfl ?_
       exact ⟨by simp [qas],by simp [qas,HW.out],HL2.out⟩
     | true =>
       go_wp2_with fail
       refine (qeo P d t r _ (HP.out.later (qag.trans _ _ _ HLW.out HL2.out))).mono ?_
       rintro e w3 ⟨rfl,hL3⟩
       have HL3 := hid hL3
       unfold Tok.v
       clear hL3
       go_wp2_with fail
       all_goals refine Meet.mk' HR1.out rfl ?_
       all_goals exact ⟨by simp [qas],by simp [qas,HW.out],qag.trans _ _ _ HL2.out HL3.out⟩
  intro us1 wy hrel
  obtain ⟨hu1,h29,hLy⟩ := hrel
  simp only [qao,Nat.reduceAdd,hu1,h29]
  have Hhu1 := hid hu1; clear hu1
  have Hh29 := hid h29; clear h29
  have HLY := hid (qag.trans _ _ _ HLW.out hLy)
  have hXy := hLy.cell hX
  have HLVY := hid (HLV.out.later hLy)
  clear hLy hX e0 e1 e2
  cases hc : (b0 && isW t notW) with
  | true =>
    have HC : Hid (L = 2 ∧ isW t notW = true) := hid (by
     simp only [Bool.and_eq_true] at hc
     exact ⟨of_decide_eq_true (HB0.out.trans hc.1),hc.2⟩)
    clear hc
    have HENR : Hid (EndL r) := hid (HEN.out (by
     have h := HC.out.2
     rw [tok_not HTK.out] at h
     have : t.k = 110 := by simp at h; exact h.2
     rw [this]; decide))
    go_wp2_with fail
    refine ((nested_any 73 (enters_of Tryz.func73 (by kernel_rfl) rfl) #[.pointer (some ⟨w.heap.size,0,none⟩)] P d t r (t :: r) (fun s => ∃ s',Par true (.bin 2) (d + 1) r s' ∧ s = match s' with
     | .error f => .error f
     | .ok x => .ok (.un false t.p x.1,x.2)) wy (HP.out.later HLY.out) HD.out (fun hd1 w3 hk3 hp3 => by
       refine binary1_any P w.heap.size (d + 1) t r w3 (hk3.cell (p := ⟨w.heap.size,0,none⟩) (Nat.ne_of_gt HPS.out) hXy) (Nat.ne_of_gt HPS.out) hp3 HENR.out fun w4 hk4 hp4 => ?_
       exact HIB.out 2 (d + 1) r w4 (((HLY.out.keeps _).trans hk3).trans hk4) (.inl (by simp)) (by omega) hd1 hp4 HENR.out)).mono fun e w' h => (h.mono fun s hs => (by have h2 := par_bin_not HC.out.2 hs; rw [← HC.out.1] at h2; exact h2 : Par true (.bin L) d (t :: r) s)).before (HLY.out.keeps _)).mono ?_
    rintro e w' ⟨k,rs,hr,hm⟩
    cases rs with
    | error f =>
      simp only at hm
      unfold qbr at hm
      subst hm
      exact ⟨rfl,k,.error f,hr,rfl⟩
    | ok x =>
      obtain ⟨v,rfl,hm⟩ := hm
      have HK := hid k; have HR := hid hr; have HM := hid hm
      clear k hr hm
      go_wp2_with fail
      exact bodyPost_ret (results_tmp rfl _ _ _) rfl ⟨HK.out,.ok x,HR.out,v,rfl,HM.out⟩
  | false =>
    have HC : Hid (¬ (L = 2 ∧ isW t notW = true)) := hid (fun hx => by
     rw [← HB0.out,decide_eq_true hx.1,hx.2] at hc
     cases hc)
    clear hc
    have hL1 : ¬ (9223372036854775807 : Int) < L + 1 := by have := HL5.out; omega
    go_wp2_with fail
    rw [show ((L : Int) + 1) = ((L + 1 : Nat) : Int) by omega]
    refine (HIB.out (L + 1) d (t :: r) wy (HLY.out.keeps _) (.inr ⟨rfl,by omega⟩) (by have := HL5.out; omega) HD.out (HP.out.later HLY.out) HEL.out).mono ?_
    rintro e w2 ⟨hk2,rs,hr,hm⟩
    have HK2 := hid ((HLY.out.keeps (fun b => b ≠ P)).trans hk2)
    have hX2 := hk2.cell (p := ⟨w.heap.size,0,none⟩) (Nat.ne_of_gt HPS.out) hXy
    cases rs with
    | error f =>
      simp only at hm
      unfold qbr at hm
      subst hm
      exact ⟨rfl,HK2.out,.error f,par_bin_err HL5.out HC.out hr,rfl⟩
    | ok x =>
      obtain ⟨v,rfl,hm⟩ := hm
      have HREL : Hid (BinRel w P d L (t :: r) B v w2) := hid ⟨x.1,x.2,qbh.mono (fun b _ h => ⟨h.1,Nat.le_trans HLY.out.size h.2⟩) _ _ hm.1,hm.2.1,hm.2.2.1,hm.2.2.2,fun s hs => par_bin_go HL5.out HC.out hr hs,hX2,(HLVY.out.mono fun b hb => by have := HPS.out; have : w.heap.size ≤ b := Nat.le_trans (by simp) hb; omega).kept hk2 fun _ h => h,HK2.out⟩
      clear hr hm hk2 hX2 hXy
      go_upto_region 7 with (fail)
      obtain ⟨vT,vB,hv⟩ := HREL.out.shape
      subst hv
      obtain ⟨R3,hR3⟩ : ∃ RR_ : (Nat → Value) → World → Prop,RR_ = (fun us wx => ∃ T Bv,us 6 = .iface T (.pointer (some ⟨Bv,0,none⟩)) ∧ BinRel w P d L (t :: r) B (.iface T (.pointer (some ⟨Bv,0,none⟩))) wx) := ⟨_,rfl⟩
      obtain ⟨mu3,hmu3⟩ : ∃ mu : (Nat → Value) → World → Nat,mu = (fun _ wx => toksLen wx P) := ⟨_,rfl⟩
      have HR3 := hid hR3; have Hmu3 := hid hmu3; clear hR3 hmu3
      refine qal [ff,ff,ff,ff,true,ff,true,true,true,ff,ff,ff,ff,ff,ff,ff,ff,ff,ff,ff,ff,ff,ff,ff,ff,ff,ff,ff,ff,ff,ff,ff,ff,ff,ff,ff,ff,true,true,true,true,true,true,true,true,true,true,true,true,true,true,true,true,true,true,true,true,true,true,true,true,true,true,true,true,true,true,true,true] R3 _ mu3 HR3.out ?_ ?_
      ·exact ⟨vT,vB,rfl,HREL.out⟩
      clear HREL
      intro us3 wx hrel
      obtain ⟨xT,xB,h6,hrel2⟩ := hrel
      simp only [qao,Nat.reduceAdd,h6]
      have Hh6 := hid h6; clear h6
      obtain ⟨y,l',hn,hp,he,hlen,hpar,hx,hlv,hk⟩ := hrel2
      obtain ⟨t2,r2,rfl,htk2,hen2⟩ := he.cons
      have HN := hid hn; have HP2 := hid hp; have HE2 := hid he; have HLEN := hid hlen; have HPAR := hid hpar; have HK := hid hk; have HTK2 := hid htk2; have HEN2 := hid hen2; have HLV2 := hid hlv
      clear hn hp he hlen hpar hlv hk htk2 hen2
      go_wp2_with fail
      refine (qeo P d t2 r2 _ HP2.out).mono ?_
      rintro e w3 ⟨rfl,hL3⟩
      have HL3 := hid hL3
      have HP3 := hid (HP2.out.later hL3)
      have hx3 := hL3.cell hx
      have HLV3 := hid (HLV2.out.later hL3)
      have HK3 := hid (HK.out.trans (hL3.keeps _))
      have HN3 := hid (qbh.kept (hL3.keeps (fun b => b ≠ P)) (fun _ h => h.1) _ _ HN.out)
      clear hL3 hx
      unfold Tok.v
      go_upto_region 8 with (fail)
      obtain ⟨bL,hbL,hcL,hstr⟩ : ∃ bL,bL ≠ P ∧ w3.cell? ⟨B,L,none⟩ = some (.slice (some ⟨bL,0,none⟩) (qaw L).length (qaw L).length) ∧ qdh w3 bL 0 (qaw L) := by
       obtain ⟨B',hB',-,hk'⟩ := HLV3.out
       simp only [Value.slice.injEq,Option.some.injEq,Addr.mk.injEq,and_true] at hB'
       obtain rfl := hB'
       exact hk' L HL5.out
      have hBP : B ≠ P := by
       obtain ⟨B',hB',h,-⟩ := HLV3.out
       simp only [Value.slice.injEq,Option.some.injEq,Addr.mk.injEq,and_true] at hB'
       exact hB' ▸ h
      have HBL := hid hbL; have HSTR := hid hstr; have HBP := hid hBP
      have hLi : (L : Int) < 5 := by have := HL5.out; omega
      clear hbL hstr hBP
      refine wp_region_held_drew (S := fun wz => wz.cell? ⟨B,L,none⟩ = some (.slice (some ⟨bL,0,none⟩) (qaw L).length (qaw L).length) ∧ wz.cell? ⟨w.heap.size,0,none⟩ = some (.pointer (some ⟨P,0,none⟩))) (by kernel_rfl) ⟨(qag.drew w3).cell hcL,(qag.drew w3).cell hx3⟩ (fun hS => ?_)
      have HLI : Hid ((B : Nat) = B) := hid rfl
      refine tH 0 (.slice (some ⟨B,0,none⟩) 5 5) rfl (by kernel_rfl) (fun _ _ _ h => h) ⟨by rfl,?_⟩ hS ?_
      ·intro w hS
       go_simp
      refine tH 1 (.int .i64 (L : Int)) rfl (by kernel_rfl) (fun _ _ _ h => h) ⟨by rfl,?_⟩ hS ?_
      ·intro w hS
       go_simp
      try simp only [Act.put,sib,List.set]
      refine tH 2 (.pointer (some ⟨B,L,none⟩)) rfl (by kernel_rfl) (fun _ _ _ h => h) ⟨by rfl,?_⟩ hS ?_
      ·intro w hS
       clear hS
       go_simp
      try simp only [Act.put,sib,List.set]
      refine tH 3 (.slice (some ⟨bL,0,none⟩) (qaw L).length (qaw L).length) rfl (by kernel_rfl) (fun _ _ _ h => h) ⟨by rfl,?_⟩ hS ?_
      ·intro w hS
       obtain ⟨h0,h1⟩ := hS
       go_simp
      refine tH 4 (.pointer (some ⟨P,0,none⟩)) rfl (by kernel_rfl) (fun _ _ _ h => h) ⟨by rfl,?_⟩ hS ?_
      ·intro w hS
       obtain ⟨h0,h1⟩ := hS
       go_simp
      try simp only [Act.put,sib,List.set]
      refine tH 5 (.func (.func 75) #[.pointer (some ⟨P,0,none⟩)] #[]) rfl (by kernel_rfl) (fun _ _ _ h => h) ⟨by rfl,?_⟩ hS ?_
      ·intro w hS
       clear hS
       have hmf : ∀ (fn : Fn) (first cap : Array Value) (w : World),(Instr.makeFunc fn first cap).run Tryz.prog w = .ok (.func fn first cap) w := fun _ _ _ _ => rfl
       go_simp
      try simp only [Act.put,sib,List.set]
      refine wpAnyH_ready (rs := [6]) (by kernel_rfl) (by simp) (AllReadyH.cons rfl (fun K hK => ?_) AllReadyH.nil)
      go_simp
      have hi0 : Keeps (fun b => b ≠ P) w3 w3.drew := (qag.drew w3).keeps _
      refine (idxb (.pointer (some ⟨P,0,none⟩)) 75 (enters_of Tryz.func75 (by kernel_rfl) rfl) bL 0 _ (qaw L) w3.drew (isW t2)
       (fun w' => Keeps (fun b => b ≠ P) w3 w' ∧ PAt w' P d (t2 :: r2) ∧ qdh w' bL 0 (qaw L)) (fun _ w' => Keeps (fun b => b ≠ P) w3 w' ∧ PAt w' P d r2) (fun w' h => h.2.2) ⟨hi0,HP3.out.later (qag.drew w3),HSTR.out.later (qag.drew w3)⟩ (lvl_len L) ?_).mono ?_
      ·rintro x hx w' ⟨i1,i2,i3⟩
       refine (is_any P d t2 r2 x w' i2).mono ?_
       rintro e w'' ⟨rfl,k,hp⟩
       refine ⟨rfl,fun h => ?_,fun h => ?_⟩
       ·rw [if_neg (by rw [h]; simp)] at hp
        exact ⟨i1.trans k,hp,i3.kept k HBL.out⟩
       ·rw [if_pos h] at hp
        exact ⟨i1.trans k,hp⟩
      clear hi0
      rintro e w4 (⟨rfl,⟨i1,i2,i3⟩,hno⟩ | ⟨k,hkl,rfl,hq,⟨i1,i2⟩,hbef⟩)
      ·have HNO := hid hno; have HI1 := hid i1; have HI2 := hid i2
       have hS4 : w4.cell? ⟨B,L,none⟩ = some (.slice (some ⟨bL,0,none⟩) (qaw L).length (qaw L).length) ∧ w4.cell? ⟨w.heap.size,0,none⟩ = some (.pointer (some ⟨P,0,none⟩)) := ⟨i1.cell (p := ⟨B,L,none⟩) HBP.out hcL,i1.cell (p := ⟨w.heap.size,0,none⟩) (Nat.ne_of_gt HPS.out) hx3⟩
       clear hno i1 i2 i3 hS
       refine hK.out _ _ hS4 (fun hS => ?_)
       clear hK K hS4
       try simp only [Act.put,sib,List.set]
       refine wpAnyH_ready (rs := [7]) (by kernel_rfl) (by simp) (AllReadyH.cons rfl (fun K hK => ?_) AllReadyH.nil)
       go_simp
       refine hK.out _ _ hS (fun hS => ?_)
       clear hK K
       try simp only [Act.put,sib,List.set]
       refine wpAnyH_done (by kernel_rfl) ?_ _
       clear hS hcL hx3
       go_wp2_with fail
       refine bodyPost_ret (results_tmp rfl _ _ _) rfl ⟨HK3.out.trans HI1.out,.ok (y,t2 :: r2),HPAR.out _ (par_loop_end ?_),.iface xT (.pointer (some ⟨xB,0,none⟩)),rfl,qbh.kept HI1.out (fun _ h => h.1) _ _ HN3.out,HI2.out,HE2.out,HLEN.out⟩
       rw [Bool.eq_false_iff]
       intro h
       obtain ⟨x,hx,h⟩ := List.any_eq_true.1 h
       have := HNO.out x hx
       rw [show isW (hdT (t2 :: r2)) x = isW t2 x from rfl,this] at h
       cases h
      ·have HI1 := hid i1; have HI2 := hid i2
       have hS4 : w4.cell? ⟨B,L,none⟩ = some (.slice (some ⟨bL,0,none⟩) (qaw L).length (qaw L).length) ∧ w4.cell? ⟨w.heap.size,0,none⟩ = some (.pointer (some ⟨P,0,none⟩)) := ⟨i1.cell (p := ⟨B,L,none⟩) HBP.out hcL,i1.cell (p := ⟨w.heap.size,0,none⟩) (Nat.ne_of_gt HPS.out) hx3⟩
       have hT2 : t2.t = (qaw L)[k]'hkl := by
        unfold isW at hq
        simp only [Bool.and_eq_true,beq_iff_eq] at hq
        exact hq.1
       have hop : w4.cell? ⟨bL,k,none⟩ = some (.string (qah t2.t)) := by
        have := i1.cell (p := ⟨bL,0 + k,none⟩) HBL.out (HSTR.out k hkl)
        rw [Nat.zero_add] at this
        rw [hT2]; exact this
       have HAny : Hid ((qaw L).any (isW t2) = true) := hid (List.any_eq_true.2 ⟨_,List.getElem_mem hkl,hq⟩)
       have hkL : (k : Int) < (qaw L).length := by omega
       have hk0 : ¬ (k : Int) < 0 := by omega
       have HK3' : Hid (t2.k ≠ 0) := hid (by
        unfold isW at hq
        simp only [Bool.and_eq_true,Bool.or_eq_true,beq_iff_eq] at hq
        rcases hq.2 with e | e <;> rw [e] <;> decide)
       clear hq i1 i2 hbef hS hT2 hkl
       refine hK.out _ _ hS4 (fun hS => ?_)
       clear hK K hS4
       try simp only [Act.put,sib,List.set]
       refine wpAnyH_ready (rs := [7]) (by kernel_rfl) (by simp) (AllReadyH.cons rfl (fun K hK => ?_) AllReadyH.nil)
       go_simp
       refine hK.out _ _ hS (fun hS => ?_)
       clear hK K
       try simp only [Act.put,sib,List.set]
       refine wpAnyH_done (by kernel_rfl) ?_ _
       have HS := hid hS
       clear hS hcL hx3
       go_upto_region 11 with (fail)
       obtain ⟨hcL,hx3⟩ := HS.out
       have HNK := hid (qbh.kept HI1.out (fun _ h => h.1) _ _ HN3.out)
       have HK4 := hid (HK3.out.trans HI1.out)
       clear HS
       refine wp_region_held_drew (S := fun wz => wz.cell? ⟨B,L,none⟩ = some (.slice (some ⟨bL,0,none⟩) (qaw L).length (qaw L).length) ∧ wz.cell? ⟨w.heap.size,0,none⟩ = some (.pointer (some ⟨P,0,none⟩)) ∧ wz.cell? ⟨bL,k,none⟩ = some (.string (qah t2.t))) (by kernel_rfl) ⟨(qag.drew w4).cell hcL,(qag.drew w4).cell hx3,(qag.drew w4).cell hop⟩ (fun hS => ?_)
       clear hcL hx3 hop
       refine tH 0 (.slice (some ⟨B,0,none⟩) 5 5) rfl (by kernel_rfl) (fun _ _ _ h => h) ⟨by rfl,?_⟩ hS ?_
       ·intro w hS
        clear hS
        go_simp
       refine tH 1 (.int .i64 (L : Int)) rfl (by kernel_rfl) (fun _ _ _ h => h) ⟨by rfl,?_⟩ hS ?_
       ·intro w hS
        clear hS
        go_simp
       try simp only [Act.put,sib,List.set]
       refine tH 2 (.pointer (some ⟨B,L,none⟩)) rfl (by kernel_rfl) (fun _ _ _ h => h) ⟨by rfl,?_⟩ hS ?_
       ·intro w hS
        clear hS
        go_simp
       try simp only [Act.put,sib,List.set]
       refine tH 3 (.slice (some ⟨bL,0,none⟩) (qaw L).length (qaw L).length) rfl (by kernel_rfl) (fun _ _ _ h => h) ⟨by rfl,?_⟩ hS ?_
       ·intro w hS
        obtain ⟨h0,-,-⟩ := hS
        go_simp
       refine tH 4 (.int .i64 (k : Int)) rfl (by kernel_rfl) (fun _ _ _ h => h) ⟨by rfl,?_⟩ hS ?_
       ·intro w hS
        clear hS
        go_simp
       try simp only [Act.put,sib,List.set]
       refine tH 5 (.pointer (some ⟨bL,k,none⟩)) rfl (by kernel_rfl) (fun _ _ _ h => h) ⟨by rfl,?_⟩ hS ?_
       ·intro w hS
        clear hS
        go_simp
       try simp only [Act.put,sib,List.set]
       refine tH 6 (.string (qah t2.t)) rfl (by kernel_rfl) (fun _ _ _ h => h) ⟨by rfl,?_⟩ hS ?_
       ·intro w hS
        obtain ⟨-,-,h0⟩ := hS
        go_simp
       refine tH 7 (.int .i64 (t2.p : Int)) rfl (by kernel_rfl) (fun _ _ _ h => h) ⟨by rfl,?_⟩ hS ?_
       ·intro w hS
        clear hS
        go_simp
       refine tH 8 (.iface xT (.pointer (some ⟨xB,0,none⟩))) rfl (by kernel_rfl) (fun _ _ _ h => h) ⟨by rfl,?_⟩ hS ?_
       ·intro w hS
        clear hS
        go_simp
       refine tH 9 (.pointer (some ⟨P,0,none⟩)) rfl (by kernel_rfl) (fun _ _ _ h => h) ⟨by rfl,?_⟩ hS ?_
       ·intro w hS
        obtain ⟨-,h0,-⟩ := hS
        go_simp
       refine tH 10 (.int .i64 (L : Int)) rfl (by kernel_rfl) (fun _ _ _ h => h) ⟨by rfl,?_⟩ hS ?_
       ·intro w hS
        clear hS
        go_simp
       try simp only [Act.put,sib,List.set]
       refine tH 11 (.int .i64 ((L : Int) + 1)) rfl (by kernel_rfl) (fun _ _ _ h => h) ⟨by rfl,?_⟩ hS ?_
       ·intro w hS
        clear hS
        have hwr : IntKind.i64.wrap ((L : Int) + 1) = (L : Int) + 1 := by rw [IntKind.wrap_i64]; omega
        go_simp
       try simp only [Act.put,sib,List.set]
       refine wpAnyH_ready (rs := [12]) (by kernel_rfl) (by simp) (AllReadyH.cons rfl (fun K hK => ?_) AllReadyH.nil)
       go_simp
       have HS := hid hS
       have HER2 := hid (HEN2.out HK3'.out)
       clear hS
       rw [show ((L : Int) + 1) = ((L + 1 : Nat) : Int) by omega]
       refine (HIB.out (L + 1) d r2 w4.drew (HK4.out.trans ((qag.drew w4).keeps _)) (.inl (by have := HLEN.out; simp only [List.length_cons] at this ⊢; omega)) (by have := HL5.out; omega) HD.out (HI2.out.later (qag.drew w4)) HER2.out).mono ?_
       rintro e w5 ⟨hk5,rs,hr,hm⟩
       have HK5 := hid (HK4.out.trans (((qag.drew w4).keeps _).trans hk5))
       cases rs with
       | error f =>
         simp only at hm
         unfold qbr at hm
         subst hm
         exact ⟨rfl,HK5.out,.error f,HPAR.out _ (par_loop_err HAny.out hr),rfl⟩
       | ok z =>
         obtain ⟨zv,rfl,hzn,hzp,hze,hzl⟩ := hm
         have HR := hid hr; have HZN := hid hzn; have HZP := hid hzp; have HZE := hid hze; have HZL := hid hzl
         have HNK5 := hid (qbh.kept hk5 (fun _ h => h.1) _ _ (qbh.kept ((qag.drew w4).keeps (fun b => b ≠ P)) (fun _ h => h.1) _ _ HNK.out))
         have hS5 : w5.cell? ⟨B,L,none⟩ = some (.slice (some ⟨bL,0,none⟩) (qaw L).length (qaw L).length) ∧ w5.cell? ⟨w.heap.size,0,none⟩ = some (.pointer (some ⟨P,0,none⟩)) ∧ w5.cell? ⟨bL,k,none⟩ = some (.string (qah t2.t)) :=
          ⟨hk5.cell (p := ⟨B,L,none⟩) HBP.out HS.out.1,hk5.cell (p := ⟨w.heap.size,0,none⟩) (Nat.ne_of_gt HPS.out) HS.out.2.1,hk5.cell (p := ⟨bL,k,none⟩) HBL.out HS.out.2.2⟩
         have HLV5 := hid ((((HLV3.out.kept (S' := fun b => b ≠ P) HI1.out fun _ h => h).later (qag.drew w4))).kept hk5 fun _ h => h)
         clear hr hzn hzp hze hzl hk5
         obtain ⟨zT,zB,rfl⟩ := HZN.out.shape
         refine hK.out _ _ hS5 (fun hS => ?_)
         clear hK K hS5
         try simp only [Act.put,sib,List.set]
         refine wpAnyH_ready (rs := [13]) (by kernel_rfl) (by simp) (AllReadyH.cons rfl (fun K hK => ?_) AllReadyH.nil)
         go_simp
         refine hK.out _ _ hS (fun hS => ?_)
         clear hK K
         try simp only [Act.put,sib,List.set]
         refine wpAnyH_ready (rs := [14]) (by kernel_rfl) (by simp) (AllReadyH.cons rfl (fun K hK => ?_) AllReadyH.nil)
         go_simp
         refine hK.out _ _ ⟨(qag.alloc _ _).cell hS.1,(qag.alloc _ _).cell hS.2.1,(qag.alloc _ _).cell hS.2.2⟩ (fun hS => ?_)
         clear hK K
         try simp only [Act.put,sib,List.set]
         refine wpAnyH_ready (rs := [15]) (by kernel_rfl) (by simp) (AllReadyH.cons rfl (fun K hK => ?_) AllReadyH.nil)
         go_simp
         refine hK.out _ _ hS (fun hS => ?_)
         clear hK K
         try simp only [Act.put,sib,List.set]
         refine wpAnyH_ready (rs := [16]) (by kernel_rfl) (by simp) (AllReadyH.cons rfl (fun K hK => ?_) AllReadyH.nil)
         go_simp
         refine hK.out _ _ hS (fun hS => ?_)
         clear hK K
         refine wpAnyH_done (by kernel_rfl) ?_ _
         have hx6 := hS.2.1
         clear hS
         have hL6 : qag w5 (w5.alloc (.cells #[.string (qah t2.t),.int .i64 (t2.p : Int),.iface xT (.pointer (some ⟨xB,0,none⟩)),.iface zT (.pointer (some ⟨zB,0,none⟩))] 142)) := qag.alloc _ _
         have hob := qap w5 (.cells #[.string (qah t2.t),.int .i64 (t2.p : Int),.iface xT (.pointer (some ⟨xB,0,none⟩)),.iface zT (.pointer (some ⟨zB,0,none⟩))] 142)
         obtain ⟨w6,hw6⟩ : ∃ w6,w6 = w5.alloc (.cells #[.string (qah t2.t),.int .i64 (t2.p : Int),.iface xT (.pointer (some ⟨xB,0,none⟩)),.iface zT (.pointer (some ⟨zB,0,none⟩))] 142) := ⟨_,rfl⟩
         obtain ⟨N,hN⟩ : ∃ N,N = w5.heap.size := ⟨_,rfl⟩
         rw [← hw6] at hL6 hob hx6 ⊢
         rw [← hN] at hob ⊢
         have HNB : Hid (qbh (fun b => b ≠ P ∧ w.heap.size ≤ b) w6 (.iface 140 (.pointer (some ⟨N,0,none⟩))) (.bin t2.t t2.p y z.1)) := hid (by
          unfold qbh
          refine ⟨N,_,_,⟨by rw [hN]; have := HPS.out; have := HK5.out.size; omega,by rw [hN]; exact HK5.out.size⟩,rfl,hob,qbh.kept (hL6.keeps _) (fun _ h => h) _ _ HNK5.out,qbh.kept (hL6.keeps (fun b => b ≠ P)) (fun _ h => h.1) _ _ (qbh.mono (fun b _ h => ⟨h.1,Nat.le_trans HK4.out.size h.2⟩) _ _ HZN.out)⟩)
         have HX6 := hid hx6; have HL6 := hid hL6
         clear hw6 hob hx6 hL6 hN
         by_cases h2 : L = 2
         ·have H2 := hid h2
          subst h2
          go_wp2_with fail
          refine bodyPost_ret (results_tmp rfl _ _ _) rfl ⟨HK5.out.trans (HL6.out.keeps _),.ok (.bin t2.t t2.p y z.1,z.2),HPAR.out _ (par_loop_go HAny.out HR.out (by rw [if_pos rfl])),.iface 140 (.pointer (some ⟨N,0,none⟩)),rfl,HNB.out,HZP.out.later HL6.out,HZE.out,?_⟩
          have h1 := HLEN.out
          have h2 := HZL.out
          simp only [List.length_cons] at h1 h2 ⊢
          omega
         ·have h2' : ((L : Int) == 2) = false := by simp; omega
          have H2 := hid h2
          clear h2
          go_wp2_with fail
          refine Round.mk' HR3.out Hmu3.out rfl ?_ ?_
          ·refine ⟨_,N,rfl,.bin t2.t t2.p y z.1,z.2,HNB.out,HZP.out.later HL6.out,HZE.out,?_,fun s hs => HPAR.out s (par_loop_go HAny.out HR.out (by rw [if_neg H2.out]; exact hs)),HX6.out,HLV5.out.later HL6.out,HK5.out.trans (HL6.out.keeps _)⟩
           have h1 := HLEN.out
           have h2 := HZL.out
           simp only [List.length_cons] at h1 h2 ⊢
           omega
          ·rw [(HZP.out.later HL6.out).len,HP2.out.len]
           have h2 := HZL.out
           simp only [List.length_cons] at h2 ⊢
           omega
end Go.Proofs.YtgajofkeidjbgaaGreatDoor
namespace Go.Proofs.YtgajofkeidjbgaaGreatDoor
set_option linter.unusedSimpArgs false
set_option linter.unusedVariables false
open Go
section
variable {P : Program} {ops : Array Oper} {Q : Exit → Act → World → Prop} {md : Region.Mode} {S : World → Prop} {k : Nat}
def wpAnyK (P : Program) (md : Region.Mode) (ops : Array Oper) (Q : Exit → Act → World → Prop) (k : Nat) (S : World → Prop) : Nat → Array Bool → Act → World → Prop
 | 0,listed,a,w => Region.ready md ops listed = [] ∧ Q .normal a w
 | fuel + 1,listed,a,w =>
   (Region.ready md ops listed = [] → Q .normal a w) ∧
   ∀ i ∈ Region.ready md ops listed,wpOp P ops Q i (fun a' w' => (listed.getD k true = false → i ≠ k → S w') ∧ wpAnyK P md ops Q k S fuel (listed.setIfInBounds i true) a' w') a w
theorem wpAny_of_k : ∀ (fuel : Nat) (listed : Array Bool) (a : Act) (w : World),wpAnyK P md ops Q k S fuel listed a w → wpAny P md ops Q fuel listed a w
 | 0,_,_,_,h => h
 | fuel + 1,_,_,_,h => ⟨h.1,fun i hi => wpOp_mono (fun a' w' h' => wpAny_of_k fuel _ a' w' h'.2) (h.2 i hi)⟩
theorem wpAnyK_first {i : Nat} {oi : Oper} {v : Value} (hi : ops[i]? = some oi) (hsel : ∀ (j : Nat) (o : Oper) cs b,ops[j]? = some o → o.op ≠ .select cs b)
  (hQ : ∀ c a w,Q (.panic c) (a.put oi.dst v) w → Q (.panic c) a w) (hik : i ≠ k) (hwait : ∀ listed,k ∈ Region.ready md ops listed → listed.getD i true = true) :
  ∀ (fuel : Nat) (listed : Array Bool) (a : Act) (w : World),
    (∀ j oj,ops[j]? = some oj → j ≠ i → listed.getD j true = false → (∀ e ∈ oj.after,Region.binds md e = true → e.on ≠ i) → oi.apart ops oj = true) →
    i ∈ Region.ready md ops listed → listed.getD k true = false → YieldsIf P ops S oi v a → S w →
    wpAnyK P md ops Q k S fuel (listed.setIfInBounds i true) (a.put oi.dst v) w → wpAnyK P md ops Q k S (fuel + 1) listed a w := by
 intro fuel
 induction fuel with
 | zero =>
   intro listed a w _ hr hlk hy hS H
   refine ⟨fun h => (by rw [h] at hr; cases hr),fun j hj => ?_⟩
   by_cases hji : j = i
   ·subst hji; exact hy.wpOp hi hS ⟨fun _ _ => hS,H⟩
   ·have := ready_mono hj hji
    rw [H.1] at this
    cases this
 | succ fuel ih =>
   intro listed a w hfree hr hlk hy hS H
   refine ⟨fun h => (by rw [h] at hr; cases hr),fun j hj => ?_⟩
   by_cases hji : j = i
   ·subst hji; exact hy.wpOp hi hS ⟨fun _ _ => hS,H⟩
   ·have hiun : listed.getD i true = false := by
     have h0 := (mem_ready.1 hr).1
     simpa using h0
    have hjk : j ≠ k := fun e => by
     subst e
     rw [hwait listed hj] at hiun
     cases hiun
    have h1 := H.2 j (ready_mono hj hji)
    obtain ⟨hjun,oj,hoj,hall⟩ := mem_ready.1 hj
    have hnot : ∀ e ∈ oj.after,Region.binds md e = true → e.on ≠ i := fun e he hb heq => by
     have h1 := hall e he hb
     have h0 := (mem_ready.1 hr).1
     rw [heq] at h1
     rcases Nat.lt_or_ge i listed.size with h' | h'
     ·simp [h'] at h0 h1; rw [h0] at h1; cases h1
     ·simp [Array.getElem?_eq_none h'] at h1
    have h2 := wpOp_putIf hoj (hfree j oj hoj hji hjun hnot) (fun cs b => hsel i oi cs b hi) (fun cs b => hsel j oj cs b hoj) hQ hy h1
    have hfree' : ∀ k ok,ops[k]? = some ok → k ≠ i → (listed.setIfInBounds j true).getD k true = false →
      (∀ e ∈ ok.after,Region.binds md e = true → e.on ≠ i) → oi.apart ops ok = true := fun k ok hk hki hun hno => by
     refine hfree k ok hk hki ?_ hno
     by_cases hjk : j = k
     ·subst hjk; exact hjun
     ·rw [getD_set_ne true hjk] at hun; exact hun
    have hlk1 : (listed.setIfInBounds i true).getD k true = false := by rw [getD_set_ne true hik]; exact hlk
    have hlk2 : (listed.setIfInBounds j true).getD k true = false := by rw [getD_set_ne true hjk]; exact hlk
    refine wpOp_mono (fun a' w' h3 => ⟨fun _ _ => h3.2.1 hlk1 hjk,ih (listed.setIfInBounds j true) a' w' hfree' (ready_mono hr (Ne.symm hji)) hlk2 h3.1 (h3.2.1 hlk1 hjk) ?_⟩) h2
    rw [Array.setIfInBounds_comm _ _ hji]
    exact h3.2.2
def waitsB (md : Region.Mode) (ops : Array Oper) (k i : Nat) : Bool := match ops[k]? with
 | none => false
 | some o => o.after.any fun e => Region.binds md e && e.on == i
theorem waits_of {i : Nat} (h : waitsB md ops k i = true) (listed : Array Bool) (hk : k ∈ Region.ready md ops listed) : listed.getD i true = true := by
 obtain ⟨-,ok,hok,hall⟩ := mem_ready.1 hk
 unfold waitsB at h
 rw [hok] at h
 simp only [Array.any_eq_true] at h
 obtain ⟨j,hj,he⟩ := h
 simp only [Bool.and_eq_true,beq_iff_eq] at he
 have h1 := hall _ (Array.getElem_mem hj) he.1
 rw [he.2] at h1
 rcases Nat.lt_or_ge i listed.size with h' | h'
 ·simp [h'] at h1 ⊢; exact h1
 ·simp [Array.getElem?_eq_none h'] at h1
theorem qcg {i : Nat} {oi : Oper} {v : Value} {fuel : Nat} {listed : Array Bool} {a : Act} {w : World} (hi : ops[i]? = some oi)
  (hs : Region.noSelect ops = true) (hf : Region.free md ops listed i = true) (hr : (Region.ready md ops listed).contains i = true) (hw : (waitsB md ops k i && (i != k && !listed.getD k true)) = true)
  (hQ : ∀ c a w,Q (.panic c) (a.put oi.dst v) w → Q (.panic c) a w) (hy : YieldsIf P ops S oi v a) (hS : S w)
  (h : wpAnyK P md ops Q k S fuel (listed.setIfInBounds i true) (a.put oi.dst v) w) : wpAnyK P md ops Q k S (fuel + 1) listed a w := by
 simp only [Bool.and_eq_true,bne_iff_ne,ne_eq,Bool.not_eq_true'] at hw
 exact wpAnyK_first hi (Region.noSelect_spec hs) hQ hw.2.1 (waits_of hw.1) fuel listed a w (Region.free_spec hi hf) (by simpa using hr) hw.2.2 hy hS h
def AllReadyK (P : Program) (md : Region.Mode) (ops : Array Oper) (Q : Exit → Act → World → Prop) (k : Nat) (S : World → Prop) (fuel : Nat) (listed : Array Bool) (a : Act) (w : World) (rs : List Nat) : Prop :=
 ∀ i ∈ rs,wpOp P ops Q i (fun a' w' => (listed.getD k true = false → i ≠ k → S w') ∧ wpAnyK P md ops Q k S fuel (listed.setIfInBounds i true) a' w') a w
theorem AllReadyK.nil {fuel : Nat} {listed : Array Bool} {a : Act} {w : World} : AllReadyK P md ops Q k S fuel listed a w [] := fun _ h => by cases h
theorem AllReadyK.cons {fuel : Nat} {listed : Array Bool} {a : Act} {w : World} {i : Nat} {o : Oper} {rs : List Nat} (ho : ops[i]? = some o)
  (h : ∀ K' : Act → World → Prop,Shut (∀ a w,S w → (S w → wpAnyK P md ops Q k S fuel (listed.setIfInBounds i true) a w) → K' a w) → if Region.wanted o (yielded ops a.tmps) = true then Oper.wp P o a w K' Q else K' (a.put o.dst undef) w)
  (hs : AllReadyK P md ops Q k S fuel listed a w rs) : AllReadyK P md ops Q k S fuel listed a w (i :: rs) := fun j hj => by
 rcases List.mem_cons.1 hj with rfl | hj
 ·exact wpOp_step ho (fun K' hK => h K' (fun a w hS hW => hK a w ⟨fun _ _ => hS,hW hS⟩))
 ·exact hs j hj
theorem AllReadyK.late {fuel : Nat} {listed : Array Bool} {a : Act} {w : World} {i : Nat} {o : Oper} {rs : List Nat} (ho : ops[i]? = some o) (hl : (i == k || listed.getD k true) = true)
  (h : ∀ K' : Act → World → Prop,Shut (∀ a w,wpAnyK P md ops Q k S fuel (listed.setIfInBounds i true) a w → K' a w) → if Region.wanted o (yielded ops a.tmps) = true then Oper.wp P o a w K' Q else K' (a.put o.dst undef) w)
  (hs : AllReadyK P md ops Q k S fuel listed a w rs) : AllReadyK P md ops Q k S fuel listed a w (i :: rs) := fun j hj => by
 rcases List.mem_cons.1 hj with rfl | hj
 ·refine wpOp_step ho (fun K' hK => h K' (fun a w hW => hK a w ⟨fun h1 h2 => ?_,hW⟩))
  simp only [Bool.or_eq_true,beq_iff_eq] at hl
  rcases hl with hl | hl
  ·exact absurd hl h2
  ·rw [hl] at h1; cases h1
 ·exact hs j hj
theorem qbz {rs : List Nat} {fuel : Nat} {listed : Array Bool} {a : Act} {w : World} (hr : Region.ready md ops listed = rs) (hne : rs ≠ [])
  (h : AllReadyK P md ops Q k S fuel listed a w rs) : wpAnyK P md ops Q k S (fuel + 1) listed a w := ⟨fun h0 => absurd (hr ▸ h0) hne,hr ▸ h⟩
theorem wpAnyK_done {listed : Array Bool} {a : Act} {w : World} (hr : Region.ready md ops listed = []) (h : Q .normal a w) : ∀ fuel,wpAnyK P md ops Q k S fuel listed a w
 | 0 => ⟨hr,h⟩
 | _ + 1 => ⟨fun _ => h,by rw [hr]; simp⟩
theorem wp_region_k {id : Nat} {a : Act} {w : World} (k : Nat) (S : World → Prop) (hm : P.follows .mixedOrders = true) (hS : S w.drew)
  (h : S w.drew → wpAnyK P .any ops Q k S ops.size (Array.replicate ops.size false) a w.drew) : (Code.region id ops true).wp P Q a w :=
 wp_region_any hm (wpAny_of_k _ _ _ _ (h hS))
end
end Go.Proofs.YtgajofkeidjbgaaGreatDoor
