/-
  PROVED HERE: a part of the proof of ExprEvals: Eval2, Eval3, Eval4.
-/
import Derived.Test.YtgajofkeidjbgaaGreatDoorShort
import Derived.Test.YtgajofkeidjbgaaGreatDoorGEval1
import Derived.Test.YtgajofkeidjbgaaGreatDoorGExprIdx
import Derived.Test.YtgajofkeidjbgaaGreatDoorGCompile
namespace Go.Proofs.YtgajofkeidjbgaaGreatDoor
set_option linter.unusedSimpArgs false
set_option linter.unusedVariables false
set_option maxHeartbeats 2000000
set_option maxRecDepth 100000
open Go.RowKit
theorem isnull_any (x : Val) (w : World) : Calls Tryz.prog 128 #[x.v] w fun e w' => e = .returned (.bool (decide (x.k = 0))) ∧ qag w w' := by
 rw [vv,← qbo]
 go_enter Tryz.func128,Tryz.ntmps128
 go_wp2_with fail
 exact bodyPost_ret (results_tmp rfl _ _ _) rfl ⟨rfl,qag.alloc _ _⟩
theorem val_at {w : World} {v : Value} {l : List Val} (h : qcx w v l) : ∃ ao c,v = .slice ao l.length c ∧ l.length ≤ c ∧ ∀ i (hi : i < l.length),∃ b o,ao = some ⟨b,o,none⟩ ∧ w.cell? ⟨b,o + i * 3,none⟩ = some (.int .i64 l[i].k) ∧ w.cell? ⟨b,o + i * 3 + 1,none⟩ = some (.int .i64 l[i].n) ∧ w.cell? ⟨b,o + i * 3 + 2,none⟩ = some (.string l[i].t) := by
 obtain ⟨a,c,hv,hl,hc,hn,he⟩ := h
 refine ⟨a,c,hv,hl,fun i hi => ?_⟩
 obtain ⟨b,o,ha,-,h0,h1,h2⟩ := he i hi
 exact ⟨b,o,ha,h0,h1,h2⟩
theorem nullidx_any (ao : Option Addr) (c : Nat) (l : List Val) (w : World) (hl : qcx w (.slice ao l.length c) l) (hlen : l.length ≤ 1000000) :
  Calls Tryz.prog 137 #[.slice ao l.length c,.func (.func 128) #[] #[]] w fun e w' => e = .returned (.int .i64 (idxI (l.findIdx? fun x => decide (x.k = 0)))) ∧ qag w w' := by
 have HEL := hid hl; have HLN := hid hlen
 have hent : ∀ args w,(callFunc 128 args).run Tryz.prog w = .ok (.enter 128 args) w := enters_of Tryz.func128 (by kernel_rfl) rfl
 clear hl hlen
 go_enter Tryz.func137,Tryz.ntmps137
 go_wp2_with fail
 obtain ⟨R1,hR1⟩ : ∃ RR_ : (Nat → Value) → World → Prop,RR_ = (fun us wx => ∃ k : Nat,us 8 = .int .i64 k ∧ k ≤ l.length ∧ qag w wx ∧ ∀ j (h : j < l.length),j < k → decide (l[j].k = 0) = false) := ⟨_,rfl⟩
 obtain ⟨mu1,hmu1⟩ : ∃ mu : (Nat → Value) → World → Nat,mu = (fun us _ => l.length - (intOf (us 8)).toNat) := ⟨_,rfl⟩
 have HR1 := hid hR1; have Hmu1 := hid hmu1; clear hR1 hmu1
 refine qal [ff,ff,ff,ff,true,true,ff,ff,true,true,true,true,true,true,true,true,true,true,true] R1 _ mu1 HR1.out ?_ ?_
 ·exact ⟨0,rfl,Nat.zero_le _,qag.refl _,fun j h h0 => by omega⟩
 intro us1 wx hrel
 obtain ⟨k,h8,hk,hL,hall⟩ := hrel
 simp only [qao,Nat.reduceAdd,h8]
 have Hh8 := hid h8; clear h8
 have HL := hid hL; have HK := hid hk; have HA := hid hall
 clear hL hk hall
 by_cases hlt : k < l.length
 ·have HLT := hid hlt
  obtain ⟨a',c',hv,-,hc⟩ := val_at HEL.out
  obtain ⟨b,o,hao,p0,p1,p2⟩ := hc k hlt
  simp only [Value.slice.injEq] at hv
  obtain ⟨rfl,-,rfl⟩ := hv
  subst hao
  obtain ⟨y,hy⟩ : ∃ y,l[k]'HLT.out = y := ⟨_,rfl⟩
  rw [hy] at p0 p1 p2
  have HY := hid hy
  replace p0 := HL.out.cell p0
  replace p1 := HL.out.cell p1
  replace p2 := HL.out.cell p2
  have hg := qad p0
  have HWK : Hid (wrap64 ((k : Int) + 1) = ((k + 1 : Nat) : Int)) := hid (by have := HLT.out; have := HLN.out; unfold wrap64; omega)
  clear hy hc
  go_wp2_with fail
  refine (isnull_any y _).mono ?_
  rintro e w1 ⟨rfl,hL1⟩
  have HL1 := hid (qag.trans _ _ _ HL.out hL1)
  clear hL1 p0 p1 p2 hg
  cases hq : decide (y.k = 0) with
  | true =>
    have HQ : Hid (decide ((l[k]'HLT.out).k = 0) = true) := hid (by rw [HY.out]; exact hq)
    clear hq
    go_wp2_with fail
    go_ret
    exact ⟨by rw [find_some HLT.out HQ.out HA.out]; rfl,HL1.out⟩
  | false =>
    have HQ : Hid (decide ((l[k]'HLT.out).k = 0) = false) := hid (by rw [HY.out]; exact hq)
    clear hq
    go_wp2_with fail
    try simp only [HWK.out]
    refine Round.mk' HR1.out Hmu1.out rfl ?_ ?_
    ·refine ⟨k + 1,rfl,HLT.out,HL1.out,fun j h hj => ?_⟩
     by_cases hjk : j = k
     ·subst hjk; exact HQ.out
     ·exact HA.out j h (by omega)
    ·rw [Hh8.out]; have := HLT.out; simp [intOf,qas]; omega
 ·go_wp2_with fail
  go_ret
  exact ⟨by rw [find_none fun j hj => HA.out j hj (by omega)]; rfl,HL.out⟩
theorem nullcon_any (ao : Option Addr) (c : Nat) (l : List Val) (w : World) (hl : qcx w (.slice ao l.length c) l) (hlen : l.length ≤ 1000000) :
  Calls Tryz.prog 127 #[.slice ao l.length c,.func (.func 128) #[] #[]] w fun e w' => e = .returned (.bool (qda l)) ∧ qag w w' := by
 have H := hid (nullidx_any ao c l w hl hlen)
 clear hl hlen
 go_enter Tryz.func127,Tryz.ntmps127
 go_wp2_with fail
 refine H.out.mono ?_
 rintro e w1 ⟨rfl,hL1⟩
 have HL1 := hid hL1
 obtain ⟨z,hz⟩ : ∃ z,idxI (l.findIdx? fun x => decide (x.k = 0)) = z := ⟨_,rfl⟩
 have HZ : Hid (qda l = decide (0 ≤ z)) := hid (by rw [← hz]; exact (any_find l _).symm)
 rw [hz]
 clear hL1 hz
 go_wp2_with fail
 refine bodyPost_ret (results_tmp rfl _ _ _) rfl ⟨?_,HL1.out⟩
 rw [HZ.out]
 rfl
theorem new_val (w : World) : qcm (w.alloc (.cells #[.int .i64 0,.int .i64 0,.string ⟨#[]⟩] 38)) w.heap.size qaa := qap w _
theorem strict1_any (G : FuncId) (hent : ∀ args w,(callFunc G args).run Tryz.prog w = .ok (.enter G args) w) (K : Nat) (ao : Option Addr) (c : Nat) (l : List Val) (r : Val) (w : World) (hl : qcx w (.slice ao l.length c) l) (hlen : l.length ≤ 1000000)
  (hK : w.heap[K]? = some (.cells #[.func (.func G) #[] #[]] 84 (0,0))) (hG : qda l = false → ∀ w',qag w w' → Calls Tryz.prog G #[.slice ao l.length c] w' (qar r w')) :
  Calls Tryz.prog 126 #[.slice ao l.length c,.pointer (some ⟨K,0,none⟩)] w (qar (if qda l = true then qaa else r) w) := by
 have HK := hid hK; have HG := hid hG; have HL := hid hl; have HLN := hid hlen
 obtain ⟨x,hx⟩ : ∃ x,(if qda l = true then qaa else r) = x := ⟨_,rfl⟩
 have HX := hid hx
 rw [hx]
 clear hK hG hl hlen hx
 go_enter Tryz.func126,Tryz.ntmps126
 go_upto_region 1 with (fail)
 obtain ⟨w1,hw1⟩ : ∃ w1,w1 = w.alloc (.cells #[.int .i64 0,.int .i64 0,.string ⟨#[]⟩] 38) := ⟨_,rfl⟩
 have hL1 : qag w w1 := hw1 ▸ qag.alloc _ _
 have hR1 : qcm w1 w.heap.size qaa := hw1 ▸ new_val w
 rw [← hw1]
 have HL1 := hid hL1; have HR1 := hid hR1
 clear hw1 hL1 hR1
 go_wp2_with fail
 refine (nullcon_any ao c l w1 (HL.out.vals_kept (HL1.out.keeps (fun _ => True)) (fun _ _ => trivial)) HLN.out).mono ?_
 rintro e w2 ⟨rfl,hL2⟩
 have HL2 := hid (qag.trans _ _ _ HL1.out hL2)
 have HR2 := hid (HR1.out.later hL2)
 obtain ⟨bn,hbn⟩ : ∃ b,qda l = b := ⟨_,rfl⟩
 have HBN := hid hbn
 rw [hbn]
 clear hL2 hbn
 cases bn with
 | true =>
   obtain ⟨c0,c1,c2,f0,f1,f2,cl⟩ := HR2.out.cells
   simp only [qaa] at c0 c1 c2
   go_wp2_with fail
   refine bodyPost_ret (qaf rfl rfl (HR2.out.set qaa)) rfl ⟨?_,qae HL2.out (Nat.le_refl _) qaa⟩
   rw [← HX.out,if_pos HBN.out]
 | false =>
   have k0 : w2.cell? ⟨K,0,none⟩ = some (.func (.func G) #[] #[]) := qac (i := 0) (HL2.out.obj HK.out) rfl
   have kl := qad k0
   go_wp2_with fail
   refine (HG.out HBN.out w2 HL2.out).mono ?_
   rintro e w3 ⟨rfl,hL3⟩
   have HL3 := hid (qag.trans _ _ _ HL2.out hL3)
   have HR3 := hid (HR2.out.later hL3)
   obtain ⟨c0,c1,c2,f0,f1,f2,cl⟩ := HR3.out.cells
   simp only [qaa] at c0 c1 c2
   rw [vv r]
   clear hL3 k0 kl
   go_wp2_with fail
   refine bodyPost_ret (qaf rfl rfl (HR3.out.set r)) rfl ⟨?_,qae HL3.out (Nat.le_refl _) r⟩
   rw [← HX.out,if_neg (by rw [HBN.out]; simp)]
attribute [local go_sem high] qdq qdp
def ElAt (w : World) (b o : Nat) (x : Val) : Prop := w.cell? ⟨b,o,none⟩ = some (.int .i64 x.k) ∧ w.cell? ⟨b,o + 1,none⟩ = some (.int .i64 x.n) ∧ w.cell? ⟨b,o + 2,none⟩ = some (.string x.t)
theorem ElAt.later {w w' : World} {b o : Nat} {x : Val} (h : ElAt w b o x) (k : qag w w') : ElAt w' b o x := ⟨k.cell h.1,k.cell h.2.1,k.cell h.2.2⟩
theorem els_at {w : World} {ao : Option Addr} {n c : Nat} {x : Val} {l : List Val} (h : qcx w (.slice ao n c) (x :: l)) : n = (x :: l).length ∧ ∃ b o,ao = some ⟨b,o,none⟩ ∧ ∀ i (hi : i < (x :: l).length),ElAt w b (o + i * 3) (x :: l)[i] := by
 obtain ⟨a',c',hv,-,he⟩ := val_at h
 simp only [Value.slice.injEq] at hv
 obtain ⟨rfl,hn,rfl⟩ := hv
 obtain ⟨b,o,rfl,-⟩ := he 0 (by simp)
 refine ⟨hn,b,o,rfl,fun i hi => ?_⟩
 obtain ⟨b',o',e,h0,h1,h2⟩ := he i hi
 simp only [Option.some.injEq,Addr.mk.injEq,and_true] at e
 obtain ⟨rfl,rfl⟩ := e
 exact ⟨h0,h1,h2⟩
theorem qei (w : World) : ∃ w1,w1 = w.alloc (.cells #[.int .i64 0,.int .i64 0,.string ⟨#[]⟩] 38) ∧ qag w w1 ∧ qcm w1 w.heap.size qaa := ⟨_,rfl,qag.alloc _ _,new_val w⟩
theorem qcn (w : World) (R : Nat) (x : Val) : Keeps (fun b => b ≠ R) w (setV w R x) :=
 (((Keeps.refl _ w).setCell (p := ⟨R,0,none⟩) (.inl fun h => h rfl) _).setCell (p := ⟨R,1,none⟩) (.inl fun h => h rfl) _).setCell (p := ⟨R,2,none⟩) (.inl fun h => h rfl) _
theorem str_take (t : ByteArray) (n : Nat) : t.extract 0 n = qah (t.data.toList.take n) := by
 conv => lhs; rw [← strB_data t]
 rw [qdi,List.drop_zero,Nat.sub_zero]
theorem fn1_any (a : Val) (ao : Option Addr) (c : Nat) (w : World) (hl : qcx w (.slice ao 1 c) [a]) : Calls Tryz.prog 108 #[.slice ao 1 c] w (qar (intV a.t.size) w) := by
 obtain ⟨-,b,o,rfl,he⟩ := els_at hl
 have h0 : ElAt w b o a := by have := he 0 (by simp); simpa using this
 obtain ⟨w1,hw1,hL1,hR1⟩ := qei w
 obtain ⟨p0,p1,p2⟩ := h0.later hL1
 have pl := qad p0
 have HL1 := hid hL1; have HR1 := hid hR1
 clear hl he h0 hL1 hR1
 go_enter Tryz.func108,Tryz.ntmps108
 go_upto_region 1 with (fail)
 rw [← hw1]
 clear hw1
 go_wp2_with fail
 refine (vof_any a.t.size w1).mono ?_
 rintro e w3 ⟨rfl,hL3⟩
 have HL3 := hid (qag.trans _ _ _ HL1.out hL3)
 have HR3 := hid (HR1.out.later hL3)
 obtain ⟨c0,c1,c2,f0,f1,f2,cl⟩ := HR3.out.cells
 simp only [qaa] at c0 c1 c2
 obtain ⟨x,hx⟩ : ∃ x : Val,x = ⟨1,a.t.size,ByteArray.empty⟩ := ⟨_,rfl⟩
 have HX := hid hx
 rw [← hx,vv]
 clear hL3 p0 p1 p2 pl hx
 go_wp2_with fail
 refine bodyPost_ret (qaf rfl rfl (HR3.out.set x)) rfl ⟨?_,qae HL3.out (Nat.le_refl _) _⟩
 rw [HX.out]
 rfl
theorem fn2_any (a : Val) (ao : Option Addr) (c : Nat) (w : World) (hl : qcx w (.slice ao 1 c) [a]) : Calls Tryz.prog 109 #[.slice ao 1 c] w (qar (intV (max a.n (wrap64 (-a.n)))) w) := by
 obtain ⟨-,b,o,rfl,he⟩ := els_at hl
 have h0 : ElAt w b o a := by have := he 0 (by simp); simpa using this
 obtain ⟨w1,hw1,hL1,hR1⟩ := qei w
 have HE := hid (h0.later (qag.trans _ _ _ hL1 (qag.drew w1)))
 have HBR : Hid (b ≠ w.heap.size) := hid (by have := qad h0.1; have : b < w.heap.size := this; omega)
 have HL1 := hid hL1; have HR1 := hid hR1
 clear hl he h0 hL1 hR1
 go_enter Tryz.func109,Tryz.ntmps109
 go_upto_region 1 with (fail)
 rw [← hw1]
 clear hw1
 refine wp_region_held_drew (S := fun w => w.cell? ⟨b,o + 1,none⟩ = some (.int .i64 a.n)) (by kernel_rfl) HE.out.2.1 (fun hS => ?_)
 refine tH 0 (.slice (some ⟨b,o,none⟩) 1 c) rfl (by kernel_rfl) (fun _ _ _ h => h) ⟨by rfl,?_⟩ hS ?_
 ·intro w hS
  clear hS
  go_simp
 try simp only [Act.put,sib,List.set]
 refine tH 4 (.slice (some ⟨b,o,none⟩) 1 c) rfl (by kernel_rfl) (fun _ _ _ h => h) ⟨by rfl,?_⟩ hS ?_
 ·intro w hS
  clear hS
  go_simp
 try simp only [Act.put,sib,List.set]
 refine tH 1 (.pointer (some ⟨b,o,none⟩)) rfl (by kernel_rfl) (fun _ _ _ h => h) ⟨by rfl,?_⟩ hS ?_
 ·intro w hS
  clear hS
  go_simp
 try simp only [Act.put,sib,List.set]
 refine tH 5 (.pointer (some ⟨b,o,none⟩)) rfl (by kernel_rfl) (fun _ _ _ h => h) ⟨by rfl,?_⟩ hS ?_
 ·intro w hS
  clear hS
  go_simp
 try simp only [Act.put,sib,List.set]
 refine tH 2 (.pointer (some ⟨b,o + 1,none⟩)) rfl (by kernel_rfl) (fun _ _ _ h => h) ⟨by rfl,?_⟩ hS ?_
 ·rintro w h0
  try (have := qad h0)
  go_simp
 try simp only [Act.put,sib,List.set]
 refine tH 6 (.pointer (some ⟨b,o + 1,none⟩)) rfl (by kernel_rfl) (fun _ _ _ h => h) ⟨by rfl,?_⟩ hS ?_
 ·rintro w h0
  try (have := qad h0)
  go_simp
 try simp only [Act.put,sib,List.set]
 refine tH 3 (.int .i64 a.n) rfl (by kernel_rfl) (fun _ _ _ h => h) ⟨by rfl,?_⟩ hS ?_
 ·rintro w h0
  try (have := qad h0)
  go_simp
 try simp only [Act.put,sib,List.set]
 refine tH 7 (.int .i64 a.n) rfl (by kernel_rfl) (fun _ _ _ h => h) ⟨by rfl,?_⟩ hS ?_
 ·rintro w h0
  try (have := qad h0)
  go_simp
 try simp only [Act.put,sib,List.set]
 refine tH 8 (.int .i64 (wrap64 (-a.n))) rfl (by kernel_rfl) (fun _ _ _ h => h) ⟨by rfl,?_⟩ hS ?_
 ·intro w hS
  clear hS
  go_simp
  unfold wrap64
  exact IntKind.wrap_i64 _
 try simp only [Act.put,sib,List.set]
 refine tH 9 (.int .i64 (max a.n (wrap64 (-a.n)))) rfl (by kernel_rfl) (fun _ _ _ h => h) ⟨by rfl,?_⟩ hS ?_
 ·intro w hS
  clear hS
  go_simp
 try simp only [Act.put,sib,List.set]
 obtain ⟨m,hm⟩ : ∃ m,max a.n (wrap64 (-a.n)) = m := ⟨_,rfl⟩
 have HM := hid hm
 rw [hm]
 clear hm
 refine wpAnyH_ready (rs := [10]) (by kernel_rfl) (by simp) (AllReadyH.cons rfl (fun K hK => ?_) AllReadyH.nil)
 go_simp
 refine (vof_any m _).mono ?_
 rintro e w3 ⟨rfl,hL3⟩
 have HL3 := hid (qag.trans _ _ _ HL1.out (qag.trans _ _ _ (qag.drew w1) hL3))
 have HR3 := hid (HR1.out.later (qag.trans _ _ _ (qag.drew w1) hL3))
 refine hK.out _ _ (hL3.cell hS) (fun hS => ?_)
 clear hK K
 try simp only [Act.put,sib,List.set]
 obtain ⟨c0,c1,c2,f0,f1,f2,cl⟩ := HR3.out.cells
 simp only [qaa] at c0 c1 c2
 obtain ⟨x,hx⟩ : ∃ x : Val,x = ⟨1,m,ByteArray.empty⟩ := ⟨_,rfl⟩
 have HX := hid hx
 rw [← hx,vv]
 clear hL3 hx
 refine wpAnyH_ready (rs := [11]) (by kernel_rfl) (by simp) (AllReadyH.cons rfl (fun K hK => ?_) AllReadyH.nil)
 go_simp
 refine hK.out _ _ ((qcn w3 w.heap.size x).cell (p := ⟨b,o + 1,none⟩) HBR.out hS) (fun hS => ?_)
 clear hK K hS
 refine wpAnyH_done (by kernel_rfl) ?_ _
 clear c0 c1 c2 f0 f1 f2 cl
 go_wp2_with fail
 refine bodyPost_ret (qaf rfl rfl (HR3.out.set x)) rfl ⟨?_,qae HL3.out (Nat.le_refl _) _⟩
 rw [HX.out,← HM.out]
 rfl
theorem fn3_any (a d : Val) (ao : Option Addr) (c : Nat) (w : World) (hl : qcx w (.slice ao 2 c) [a,d]) (hs : a.t.size ≤ 1000) :
  Calls Tryz.prog 110 #[.slice ao 2 c] w (qar (textV (a.t.data.toList.take (max 0 (min (a.t.size : Int) d.n)).toNat)) w) := by
 obtain ⟨-,b,o,rfl,he⟩ := els_at hl
 have h0 : ElAt w b o a := by have := he 0 (by simp); simpa using this
 have h1 : ElAt w b (o + 3) d := by have := he 1 (by simp); simpa using this
 obtain ⟨w1,hw1,hL1,hR1⟩ := qei w
 obtain ⟨p0,p1,p2⟩ := h0.later hL1
 obtain ⟨r0,r1,r2⟩ := h1.later hL1
 have pl := qad p0
 have HL1 := hid hL1; have HR1 := hid hR1; have HS := hid hs
 have hz : max 0 (min (a.t.size : Int) d.n) ≤ a.t.size := by omega
 clear hl he h0 h1 hL1 hR1 hs
 go_enter Tryz.func110,Tryz.ntmps110
 go_upto_region 1 with (fail)
 rw [← hw1]
 clear hw1
 go_wp2_with fail
 refine (vwords_any _ w1).mono ?_
 rintro e w3 ⟨rfl,hL3⟩
 have HL3 := hid (qag.trans _ _ _ HL1.out hL3)
 have HR3 := hid (HR1.out.later hL3)
 obtain ⟨c0,c1,c2,f0,f1,f2,cl⟩ := HR3.out.cells
 simp only [qaa] at c0 c1 c2
 obtain ⟨x,hx⟩ : ∃ x : Val,x = ⟨3,0,a.t.extract 0 (max 0 (min (a.t.size : Int) d.n)).toNat⟩ := ⟨_,rfl⟩
 have HX := hid hx
 rw [← hx,vv]
 clear hL3 p0 p1 p2 pl r0 r1 r2 hz hx
 go_wp2_with fail
 refine bodyPost_ret (qaf rfl rfl (HR3.out.set x)) rfl ⟨?_,qae HL3.out (Nat.le_refl _) _⟩
 rw [HX.out,str_take]
 rfl
theorem fn4_any (a : Val) (ao : Option Addr) (c : Nat) (w : World) (hl : qcx w (.slice ao 1 c) [a]) : Calls Tryz.prog 111 #[.slice ao 1 c] w (qar (qav (decide (a.k = 0))) w) := by
 obtain ⟨-,b,o,rfl,he⟩ := els_at hl
 have h0 : ElAt w b o a := by have := he 0 (by simp); simpa using this
 obtain ⟨w1,hw1,hL1,hR1⟩ := qei w
 obtain ⟨p0,p1,p2⟩ := h0.later hL1
 have pl := qad p0
 have HL1 := hid hL1; have HR1 := hid hR1
 obtain ⟨bq,hq⟩ : ∃ q,decide (a.k = 0) = q := ⟨_,rfl⟩
 rw [hq]
 have hqe : (a.k == 0) = bq := by rw [qbo]; exact hq
 clear hl he h0 hL1 hR1 hq
 go_enter Tryz.func111,Tryz.ntmps111
 go_upto_region 1 with (fail)
 rw [← hw1]
 clear hw1
 go_wp2_with fail
 try rw [hqe]
 refine (qbx bq w1).mono ?_
 rintro e w3 ⟨rfl,hL3⟩
 have HL3 := hid (qag.trans _ _ _ HL1.out hL3)
 have HR3 := hid (HR1.out.later hL3)
 obtain ⟨c0,c1,c2,f0,f1,f2,cl⟩ := HR3.out.cells
 simp only [qaa] at c0 c1 c2
 obtain ⟨x,hx⟩ : ∃ x : Val,x = ⟨2,if bq = true then 1 else 0,ByteArray.empty⟩ := ⟨_,rfl⟩
 have HX := hid hx
 rw [← hx,vv]
 clear hL3 p0 p1 p2 pl hx hqe
 go_wp2_with fail
 refine bodyPost_ret (qaf rfl rfl (HR3.out.set x)) rfl ⟨?_,qae HL3.out (Nat.le_refl _) _⟩
 rw [HX.out]
 rfl
theorem fn5_any (a d : Val) (ao : Option Addr) (c : Nat) (w : World) (hl : qcx w (.slice ao 2 c) [a,d]) : Calls Tryz.prog 112 #[.slice ao 2 c] w (qar (if a.k = 0 then d else a) w) := by
 obtain ⟨-,b,o,rfl,he⟩ := els_at hl
 have h0 : ElAt w b o a := by have := he 0 (by simp); simpa using this
 have h1 : ElAt w b (o + 3) d := by have := he 1 (by simp); simpa using this
 obtain ⟨w1,hw1,hL1,hR1⟩ := qei w
 obtain ⟨p0,p1,p2⟩ := h0.later hL1
 obtain ⟨r0,r1,r2⟩ := h1.later hL1
 have pl := qad p0
 have HL1 := hid hL1; have HR1 := hid hR1
 obtain ⟨x,hx⟩ : ∃ x,(if a.k = 0 then d else a) = x := ⟨_,rfl⟩
 have HX := hid hx
 rw [hx]
 obtain ⟨c0,c1,c2,f0,f1,f2,cl⟩ := HR1.out.cells
 simp only [qaa] at c0 c1 c2
 clear hl he h0 h1 hL1 hR1 hx
 go_enter Tryz.func112,Tryz.ntmps112
 go_upto_region 1 with (fail)
 rw [← hw1]
 clear hw1
 by_cases hq : a.k = 0
 ·have HQ := hid hq
  have hqe : (a.k == 0) = true := by simpa using hq
  clear hq
  go_wp2_with fail
  refine bodyPost_ret (qaf rfl rfl (HR1.out.set d)) rfl ⟨?_,qae HL1.out (Nat.le_refl _) _⟩
  rw [← HX.out,if_pos HQ.out]
 ·have HQ := hid hq
  have hqe : (a.k == 0) = false := by simpa using hq
  clear hq
  go_wp2_with fail
  refine bodyPost_ret (qaf rfl rfl (HR1.out.set a)) rfl ⟨?_,qae HL1.out (Nat.le_refl _) _⟩
  rw [← HX.out,if_neg HQ.out]
theorem fn6_any (a d g : Val) (ao : Option Addr) (c : Nat) (w : World) (hl : qcx w (.slice ao 3 c) [a,d,g]) : Calls Tryz.prog 113 #[.slice ao 3 c] w (qar (if a = qav true then d else g) w) := by
 obtain ⟨-,b,o,rfl,he⟩ := els_at hl
 have h0 : ElAt w b o a := by have := he 0 (by simp); simpa using this
 have h1 : ElAt w b (o + 3) d := by have := he 1 (by simp); simpa using this
 have h2 : ElAt w b (o + 6) g := by have := he 2 (by simp); simpa using this
 obtain ⟨w1,hw1,hL1,hR1⟩ := qei w
 have HL1 := hid hL1; have HR1 := hid hR1; have H0 := hid h0; have H1 := hid h1; have H2 := hid h2
 obtain ⟨x,hx⟩ : ∃ x,(if a = qav true then d else g) = x := ⟨_,rfl⟩
 have HX := hid hx
 rw [hx]
 clear hl he h0 h1 h2 hL1 hR1 hx
 go_enter Tryz.func113,Tryz.ntmps113
 go_upto_region 1 with (fail)
 rw [← hw1]
 clear hw1
 have hS0 : ElAt w1.drew b o a := H0.out.later (qag.trans _ _ _ HL1.out (qag.drew w1))
 refine wp_region_held_drew (S := fun w => ElAt w b o a) (by kernel_rfl) hS0 (fun hS => ?_)
 refine tH 0 (.slice (some ⟨b,o,none⟩) 3 c) rfl (by kernel_rfl) (fun _ _ _ h => h) ⟨by rfl,?_⟩ hS ?_
 ·intro w hS
  clear hS
  go_simp
 try simp only [Act.put,sib,List.set]
 refine tH 1 (.pointer (some ⟨b,o,none⟩)) rfl (by kernel_rfl) (fun _ _ _ h => h) ⟨by rfl,?_⟩ hS ?_
 ·intro w hS
  clear hS
  go_simp
 try simp only [Act.put,sib,List.set]
 refine tH 2 (a.v) rfl (by kernel_rfl) (fun _ _ _ h => h) ⟨by rfl,?_⟩ hS ?_
 ·rintro w ⟨h0,h1,h2⟩
  have hlt := qad h0
  rw [vv]
  go_simp
 try simp only [Act.put,sib,List.set]
 refine wpAnyH_ready (rs := [3]) (by kernel_rfl) (by simp) (AllReadyH.cons rfl (fun K hK => ?_) AllReadyH.nil)
 go_simp
 refine (qbx true _).mono ?_
 rintro e w3 ⟨rfl,hL3⟩
 have HL3 := hid (qag.trans _ _ _ HL1.out (qag.trans _ _ _ (qag.drew w1) hL3))
 have HR3 := hid (HR1.out.later (qag.trans _ _ _ (qag.drew w1) hL3))
 refine hK.out _ _ (hS.later hL3) (fun hS => ?_)
 clear hK K hL3 hS0
 try simp only [Act.put,sib,List.set]
 obtain ⟨bq,hq⟩ : ∃ q,decide (a = qav true) = q := ⟨_,rfl⟩
 have hqe : eqV ⟨a.k,a.n,a.t⟩ ⟨2,1,ByteArray.empty⟩ = bq := by rw [eqV_dec]; exact hq
 refine tH 4 (.bool bq) rfl (by kernel_rfl) (fun _ _ _ h => h) ⟨by rfl,?_⟩ hS ?_
 ·intro w hS
  clear hS
  rw [vv,vv]
  simp only [if_true]
  go_simp
 try simp only [Act.put,sib,List.set]
 clear hS hqe
 refine wpAnyH_done (by kernel_rfl) ?_ _
 have HQ := hid hq
 clear hq
 obtain ⟨r0,r1,r2⟩ := H1.out.later HL3.out
 obtain ⟨s0,s1,s2⟩ := H2.out.later HL3.out
 have pl := qad r0
 obtain ⟨c0,c1,c2,f0,f1,f2,cl⟩ := HR3.out.cells
 simp only [qaa] at c0 c1 c2
 cases bq with
 | true =>
   go_wp2_with fail
   refine bodyPost_ret (qaf rfl rfl (HR3.out.set d)) rfl ⟨?_,qae HL3.out (Nat.le_refl _) _⟩
   rw [← HX.out,if_pos (of_decide_eq_true HQ.out)]
 | false =>
   go_wp2_with fail
   refine bodyPost_ret (qaf rfl rfl (HR3.out.set g)) rfl ⟨?_,qae HL3.out (Nat.le_refl _) _⟩
   rw [← HX.out,if_neg (of_decide_eq_false HQ.out)]
end Go.Proofs.YtgajofkeidjbgaaGreatDoor
namespace Go.Proofs.YtgajofkeidjbgaaGreatDoor
set_option linter.unusedSimpArgs false
set_option linter.unusedVariables false
set_option maxHeartbeats 4000000
set_option maxRecDepth 100000
open Go.RowKit
theorem val_small {v : Val} {k : Int} (h : qdv v k) : v.t.size ≤ 60 ∧ -9223372036854775808 ≤ v.n ∧ v.n ≤ 9223372036854775807 := by
 refine ⟨?_,h.2.1⟩
 rcases valid_cases h.1 with h' | ⟨-,h'⟩ | h' | h' | ⟨h',hl⟩
 ·rw [h']; exact Nat.zero_le _
 ·rw [h']; exact Nat.zero_le _
 ·rw [h']; exact Nat.zero_le _
 ·rw [h']; exact Nat.zero_le _
 ·exact hl
theorem vbinary_any (o : List UInt8) (ho : o ∈ opsW) (a b : Val) (ka kb : Int) (ha : qdv a ka) (hb : qdv b kb) (w : World) : Calls Tryz.prog 91 #[.string (qah o),a.v,b.v] w (qar (qdk o a b) w) := by
 have h1 := val_small ha
 have h2 := val_small hb
 rcases opsW_cases ho with rfl | rfl | rfl | rfl | rfl | rfl | rfl | rfl | rfl | rfl | rfl | rfl | rfl | rfl
 ·exact bin_or a b w
 ·exact bin_and a b w
 ·exact bin_eq a b w
 ·exact bin_ne a b w
 ·exact bin_lt a b w
 ·exact bin_le a b w
 ·exact bin_gt a b w
 ·exact bin_ge a b w
 ·exact bin_add a b w
 ·exact bin_sub a b w
 ·exact bin_cat a b ⟨by omega,by omega⟩ w
 ·exact bin_mul a b w
 ·exact bin_quo a b w
 ·exact bin_rem a b h1.2 w
def EvC (cs : List Col) (row : List Val) (x : Ex) : Prop := ∀ (k : Int) (S : Nat → Prop) (ao : Option Addr) (c : Nat) (v : Value) (w : World),qbm (qIdx cs) S w v x → qcx w (.slice ao row.length c) row → kindP cs x = .ok k → qef x → qbj x ≤ 1000000 →
 Calls Tryz.prog 57 #[v,.slice ao row.length c] w (qar (qby cs row x) w)
attribute [local go_sem high] as_lit as_name as_un as_bin no_name_lit no_un_lit no_un_name no_bin_lit no_bin_name no_bin_un
theorem ev_lit (cs : List Col) (row : List Val) (x : Val) : EvC cs row (.lit x) := by
 intro k S ao c v w hn hr hk ho hcost
 unfold qbm at hn
 obtain ⟨N,-,rfl,hobj⟩ := hn
 obtain ⟨w1,hw1,hL1,hR1⟩ := qei w
 have hO := hL1.obj hobj
 have p0 : w1.cell? ⟨N,0,none⟩ = some (.int .i64 x.k) := qac (i := 0) hO rfl
 have p1 : w1.cell? ⟨N,1,none⟩ = some (.int .i64 x.n) := qac (i := 1) hO rfl
 have p2 : w1.cell? ⟨N,2,none⟩ = some (.string x.t) := qac (i := 2) hO rfl
 have pl := qad p0
 obtain ⟨c0,c1,c2,f0,f1,f2,cl⟩ := hR1.cells
 simp only [qaa] at c0 c1 c2
 have HL1 := hid hL1; have HR1 := hid hR1
 have he : qby cs row (.lit x) = x := by unfold qby; rfl
 rw [he]
 clear hobj hO hL1 hR1 hr hk ho hcost he
 go_enter Tryz.func57,Tryz.ntmps57
 go_upto_region 1 with (fail)
 rw [← hw1]
 clear hw1
 go_wp2_with fail
 exact bodyPost_ret (qaf rfl rfl (HR1.out.set x)) rfl ⟨rfl,qae HL1.out (Nat.le_refl _) _⟩
theorem ev_name (cs : List Col) (row : List Val) (hlen : row.length = cs.length) (s : List UInt8) (p : Nat) : EvC cs row (.name s p) := by
 intro k S ao c v w hn hr hk ho hcost
 unfold qbm at hn
 obtain ⟨N,pos,-,rfl,hobj,i,hi,rfl⟩ := hn
 obtain ⟨hic,-⟩ := colAt_some hi
 have hir : i < row.length := by omega
 obtain ⟨a',c',hv,-,he⟩ := val_at hr
 obtain ⟨b,o,hao,h0,h1,h2⟩ := he i hir
 simp only [Value.slice.injEq] at hv
 obtain ⟨rfl,-,rfl⟩ := hv
 subst hao
 obtain ⟨y,hy⟩ : ∃ y,row[i]'hir = y := ⟨_,rfl⟩
 rw [hy] at h0 h1 h2
 obtain ⟨w1,hw1,hL1,hR1⟩ := qei w
 have p1 : w1.cell? ⟨N,1,none⟩ = some (.int .i64 (i : Int)) := qac (i := 1) (hL1.obj hobj) rfl
 have pl := qad p1
 replace h0 := hL1.cell h0
 replace h1 := hL1.cell h1
 replace h2 := hL1.cell h2
 have hl := qad h0
 obtain ⟨c0,c1,c2,f0,f1,f2,cl⟩ := hR1.cells
 simp only [qaa] at c0 c1 c2
 have HL1 := hid hL1; have HR1 := hid hR1
 have hev : qby cs row (.name s p) = y := by
  unfold qby
  rw [hi]
  simp only
  rw [List.getD_eq_getElem?_getD,List.getElem?_eq_getElem hir,hy]
  rfl
 rw [hev]
 have hi1 : (i : Int) < row.length := by omega
 have hi0 : (0 : Int) ≤ i := by omega
 clear hobj hL1 hR1 hr hk ho hcost hev hi hy hic he hlen hir
 go_enter Tryz.func57,Tryz.ntmps57
 go_upto_region 1 with (fail)
 rw [← hw1]
 clear hw1
 go_wp2_with fail
 exact bodyPost_ret (qaf rfl rfl (HR1.out.set y)) rfl ⟨rfl,qae HL1.out (Nat.le_refl _) _⟩
theorem ev_un (cs : List Col) (row : List Val) (neg : Bool) (p : Nat) (x : Ex) (hx : EvC cs row x) : EvC cs row (.un neg p x) := by
 intro k S ao c v w hn hr hk ho hcost
 unfold qbm at hn
 obtain ⟨N,u,-,rfl,hobj,hnx⟩ := hn
 unfold qef at ho
 unfold qbj at hcost
 have hkx : ∃ k',kindP cs x = .ok k' := by
  unfold kindP at hk
  cases hh : kindP cs x with
  | error e => rw [hh] at hk; cases hk
  | ok k' => exact ⟨k',rfl⟩
 obtain ⟨k',hkx⟩ := hkx
 obtain ⟨w1,hw1,hL1,hR1⟩ := qei w
 have HX := hid (hx k' S ao c u w1 (qbm.keep (hL1.keeps S) (fun _ h => h) _ _ hnx) (hr.vals_kept (hL1.keeps (fun _ => True)) (fun _ _ => trivial)) hkx ho (by omega))
 obtain ⟨sv,hsv⟩ : ∃ s,s = qah (opW neg) := ⟨_,rfl⟩
 rw [← hsv] at hobj
 have HOBJ := hid hobj
 have q2 : w1.cell? ⟨N,2,none⟩ = some u := qac (i := 2) (hL1.obj hobj) rfl
 have ql := qad q2
 have HL1 := hid hL1; have HR1 := hid hR1
 obtain ⟨y,hy⟩ : ∃ y,qby cs row x = y := ⟨_,rfl⟩
 rw [hy] at HX
 obtain ⟨r,hr'⟩ : ∃ r,qby cs row (.un neg p x) = r := ⟨_,rfl⟩
 have HR : Hid (r = if y.k = 0 then y else if neg = true then intV (wrap64 (-y.n)) else qav (decide (y.n = 0))) := hid (by
  rw [← hr',← hy]
  conv => lhs; unfold qby)
 rw [hr']
 have e1 : (sv.toList == [110,111,116]) = !neg := by rw [hsv,qan]; cases neg <;> rfl
 clear hobj hnx hr hk ho hcost hkx hL1 hR1 hy hr' hsv hx
 go_enter Tryz.func57,Tryz.ntmps57
 go_upto_region 1 with (fail)
 rw [← hw1]
 clear hw1
 go_wp2_with fail
 refine HX.out.mono ?_
 rintro e w2 ⟨rfl,hL2⟩
 have HL2 := hid (qag.trans _ _ _ HL1.out hL2)
 have HR2 := hid (HR1.out.later hL2)
 rw [vv y]
 clear hL2 q2 ql
 go_upto_region 11 with (fail)
 obtain ⟨V,hV⟩ : ∃ V,V = w2.heap.size := ⟨_,rfl⟩
 obtain ⟨w3,hw3⟩ : ∃ w3,w3 = w2.alloc (.cells #[.int .i64 y.k,.int .i64 y.n,.string y.t] 38) := ⟨_,rfl⟩
 have hL3 : qag w2 w3 := hw3 ▸ qag.alloc _ _
 have hY : qcm w3 V y := by unfold qcm; rw [hw3,hV]; exact qap _ _
 rw [← hw3,← hV]
 have HL3 := hid (qag.trans _ _ _ HL2.out hL3)
 have HR3 := hid (HR2.out.later hL3)
 obtain ⟨y0,y1,y2,-,-,-,yl⟩ := hY.cells
 obtain ⟨c0,c1,c2,f0,f1,f2,cl⟩ := HR3.out.cells
 simp only [qaa] at c0 c1 c2
 have q0 : w3.cell? ⟨N,0,none⟩ = some (.string sv) := qac (i := 0) (HL3.out.obj HOBJ.out) rfl
 have ql := qad q0
 have HY := hid hY
 clear hw3 hV hL3 hY
 by_cases h0 : y.k = 0
 ·have hq : (y.k == 0) = true := by simpa using h0
  have HRR : Hid (r = y) := hid (by rw [HR.out,if_pos h0])
  clear h0
  go_wp2_with fail
  refine bodyPost_ret (qaf rfl rfl (HR3.out.set y)) rfl ⟨?_,qae HL3.out (Nat.le_refl _) _⟩
  rw [HRR.out]
 ·have hq : (y.k == 0) = false := by simpa using h0
  cases neg with
  | true =>
    have HRR : Hid (r = ⟨1,wrap64 (-y.n),ByteArray.empty⟩) := hid (by rw [HR.out,if_neg h0,if_pos rfl]; rfl)
    clear h0
    go_wp2_with fail
    refine (vof_any (wrap64 (-y.n)) w3).mono ?_
    rintro e w4 ⟨rfl,hL4⟩
    have HL4 := hid (qag.trans _ _ _ HL3.out hL4)
    have HR4 := hid (HR3.out.later hL4)
    rw [← HRR.out,vv r]
    clear hL4 c0 c1 c2 f0 f1 f2 cl y0 y1 y2 yl q0 ql
    obtain ⟨c0,c1,c2,f0,f1,f2,cl⟩ := HR4.out.cells
    simp only [qaa] at c0 c1 c2
    go_wp2_with fail
    exact bodyPost_ret (qaf rfl rfl (HR4.out.set r)) rfl ⟨rfl,qae HL4.out (Nat.le_refl _) _⟩
  | false =>
    obtain ⟨bq,hbq⟩ : ∃ q,decide (y.n = 0) = q := ⟨_,rfl⟩
    have hbe : (y.n == 0) = bq := by rw [qbo]; exact hbq
    have HRR : Hid (r = ⟨2,if bq = true then 1 else 0,ByteArray.empty⟩) := hid (by rw [HR.out,if_neg h0,if_neg (by simp),hbq]; rfl)
    clear h0 hbq
    go_wp2_with fail
    try rw [hbe]
    refine (qbx bq w3).mono ?_
    rintro e w4 ⟨rfl,hL4⟩
    have HL4 := hid (qag.trans _ _ _ HL3.out hL4)
    have HR4 := hid (HR3.out.later hL4)
    rw [← HRR.out,vv r]
    clear hL4 c0 c1 c2 f0 f1 f2 cl y0 y1 y2 yl q0 ql hbe
    obtain ⟨c0,c1,c2,f0,f1,f2,cl⟩ := HR4.out.cells
    simp only [qaa] at c0 c1 c2
    go_wp2_with fail
    exact bodyPost_ret (qaf rfl rfl (HR4.out.set r)) rfl ⟨rfl,qae HL4.out (Nat.le_refl _) _⟩
end Go.Proofs.YtgajofkeidjbgaaGreatDoor
