/-
  PROVED HERE: a part of the proof of ExprEvals: ParCall, NameKeep.
-/
import Derived.Test.YtgajofkeidjbgaaGreatDoorShort
import Derived.Test.YtgajofkeidjbgaaGreatDoorGParBin
import Derived.Test.YtgajofkeidjbgaaGreatDoorGLexPlain
import Derived.Test.YtgajofkeidjbgaaGreatDoorGExprKind
namespace Go.Proofs.YtgajofkeidjbgaaGreatDoor
set_option linter.unusedSimpArgs false
set_option linter.unusedVariables false
set_option maxHeartbeats 4000000
set_option maxRecDepth 100000
open Go.RowKit
attribute [local go_sem high] tok_f0 tok_f1 tok_f2
section
variable {P : Program} {w : World}
theorem oper_append {o : Oper} {a : Act} {K : Act → World → Prop} {Q : Exit → Act → World → Prop} (s x : Operand) (t : TypeId)
  (ho : o.op = .call { callee := .builtin .append,args := #[s,x],argTypes := #[t,t] })
  (e : TypeId) (size bytes : Nat) (ht : P.underlying t = some (.slice e)) (hI : ElemInfo P e size bytes)
  {base : Nat} {v : Value} {n : Nat} {xs : List Value} (hs : a.eval s = v) (hown : w.ownsRow base e size v n xs)
  {b m c : Nat} {news : List Value} {T : TypeId} {f : Nat × Nat} (hx : a.eval x = .slice (some ⟨b,0,none⟩) m c) (hsrc : w.heap[b]? = some (.cells news.toArray T f)) (hl : news.length = m * size) (h1 : ∀ u ∈ news,u.oneCell' = true)
  (hbytes : (n + m) * bytes ≤ 140737488355328) (h63 : n + m ≤ maxLen) (hbase : base ≤ w.heap.size)
  (h : ∀ v' w',AppX w base e size v n m (xs ++ news) v' w' → K (a.put o.dst v') w') : Oper.wp P o a w K Q := by
 obtain ⟨i,z,hi,hz,h3,h4,h5,h6⟩ := hI.ex
 have hnews : ∀ j u,news[j]? = some u → w.cell? ((⟨b,0,none⟩ : Addr).add j) = some u := by
  intro j u hu
  rw [qeg rfl]
  exact qac hsrc (by simpa using hu)
 obtain ⟨v',w',hr,k2,k3,_⟩ := run_append_own (P := P) w base t o.type e i z size bytes ht hi hz h3 h4 h5 h6 v n xs hown ⟨b,0,none⟩ m c news hl hnews h1 h63 hbytes hbase
 have hb := append_x ht hi hz h3 h4 hown hl hnews h1 h63 hbytes hr k3
 unfold Oper.wp execOp
 simp only [ho,resolve,invoke,builtin,Sem.run_bind,Sem.run_pure,Result.andThen_ok,List.map_toArray,List.map_cons,List.map_nil,hs,hx,hr]
 exact h v' w' ⟨k2,hb⟩
end
theorem own_zero {w : World} {B s n : Nat} {e : TypeId} {v : Value} {xs : List Value} (h : w.ownsRow B e s v n xs) : w.ownsRow 0 e s v n xs := by
 obtain ⟨h1,h2⟩ := h
 refine ⟨h1,h2.imp id ?_⟩
 rintro ⟨g,cap,cur,hv,hb,hr⟩
 exact ⟨g,cap,cur,hv,Nat.zero_le _,hr⟩
theorem nodes_len {S : Nat → Prop} {w : World} : ∀ {vs : List Value} {l : List Ex},qbg S w vs l → vs.length = l.length
 | [],[],_ => rfl
 | v :: vs,x :: l,h => by
   unfold qbg at h
   simp [nodes_len h.2]
 | [],_ :: _,h => by unfold qbg at h; exact h.elim
 | _ :: _,[],h => by unfold qbg at h; exact h.elim
theorem nodes_add {S : Nat → Prop} {w : World} {v : Value} {x : Ex} (hx : qbh S w v x) : ∀ {vs : List Value} {l : List Ex},qbg S w vs l → qbg S w (vs ++ [v]) (l ++ [x])
 | [],[],_ => by show qbg S w [v] [x]; unfold qbg; exact ⟨hx,by unfold qbg; trivial⟩
 | u :: vs,y :: l,h => by
   unfold qbg at h
   show qbg S w (u :: (vs ++ [v])) (y :: (l ++ [x]))
   unfold qbg
   exact ⟨h.1,nodes_add hx h.2⟩
 | [],_ :: _,h => by unfold qbg at h; exact h.elim
 | _ :: _,[],h => by unfold qbg at h; exact h.elim
theorem own_keeps {S : Nat → Prop} {w w' : World} {B s n : Nat} {e : TypeId} {v : Value} {xs : List Value} (h : w.ownsRow B e s v n xs) (k : Keeps S w w') (hs : ∀ g,v.ownBlock = some g → S g) : w'.ownsRow B e s v n xs := by
 obtain ⟨h1,h2⟩ := h
 refine ⟨h1,h2.imp id ?_⟩
 rintro ⟨g,cap,cur,hv,hb,hg,hr⟩
 exact ⟨g,cap,cur,hv,hb,k.obj (hs g (by rw [hv]; rfl)) hg,hr⟩
theorem AppX.keeps {w w' : World} {B : Nat} {e : TypeId} {s n m : Nat} {v v' : Value} {xs : List Value} (h : AppX w B e s v n m xs v' w') : Keeps (fun b => v.ownBlock ≠ some b) w w' := by
 rcases h.kind with ⟨g,cap,hv,-,hk⟩ | ⟨hL,-⟩
 ·exact hk.mono fun b _ hb e => hb (by rw [hv,e]; rfl)
 ·exact hL.keeps _
theorem Keeps.under {S : Nat → Prop} {a b c : World} (h : Keeps S a b) (k : Keeps (fun x => x < a.heap.size) b c) : Keeps S a c :=
 ⟨k.os.trans h.os,k.tape.trans h.tape,k.output.trans h.output,Nat.le_trans h.size k.size,fun i hi hs => (k.block i (Nat.lt_of_lt_of_le hi h.size) hi).trans (h.block i hi hs)⟩
theorem call_add {w w6 w7 : World} {P d C : Nat} {f : List UInt8} {p : Nat} {acc : List Ex} {vs : List Value} {a v' xv : Value} {x : Ex} {l : List Tok} (hPS : P < w.heap.size) (hCP : C ≠ P ∧ w.heap.size ≤ C)
  (hown : w6.ownsRow w.heap.size 59 1 a vs.length vs) (hC : w6.heap[C]? = some (.cells #[.string (qah f),.int .i64 (p : Int),a] 174 (0,0)))
  (hns : qbg (fun b => b ≠ P ∧ w.heap.size ≤ b ∧ b ≠ C ∧ a.ownBlock ≠ some b) w6 vs acc) (hn : qbh (fun b => b ≠ P ∧ w.heap.size ≤ b ∧ b ≠ C ∧ a.ownBlock ≠ some b) w6 xv x) (hp : PAt w6 P d l) (hk : Keeps (fun b => b ≠ P) w w6)
  (hA : AppX w6 w.heap.size 59 1 a vs.length 1 (vs ++ [xv]) v' w7) :
  w7.heap[C]? = some (.cells #[.string (qah f),.int .i64 (p : Int),a] 174 (0,0)) ∧
  (w7.setCell ⟨C,2,none⟩ v').heap[C]? = some (.cells #[.string (qah f),.int .i64 (p : Int),v'] 174 (0,0)) ∧ (w7.setCell ⟨C,2,none⟩ v').ownsRow w.heap.size 59 1 v' (vs ++ [xv]).length (vs ++ [xv]) ∧
  qbg (fun b => b ≠ P ∧ w.heap.size ≤ b ∧ b ≠ C ∧ v'.ownBlock ≠ some b) (w7.setCell ⟨C,2,none⟩ v') (vs ++ [xv]) (acc ++ [x]) ∧ PAt (w7.setCell ⟨C,2,none⟩ v') P d l ∧ Keeps (fun b => b ≠ P) w (w7.setCell ⟨C,2,none⟩ v') := by
 have hk7 := hA.keeps
 have hCa : a.ownBlock ≠ some C := own_ne hown hC (by decide)
 have hC7 := hk7.obj hCa hC
 have hCv : v'.ownBlock ≠ some C := own_ne hA.own hC7 (by decide)
 have hk8 : Keeps (fun b => b ≠ C) w7 (w7.setCell ⟨C,2,none⟩ v') := (Keeps.refl _ w7).setCell (p := ⟨C,2,none⟩) (.inl fun h => h rfl) _
 have hPa : a.ownBlock ≠ some P := fun e => by have := (hown.lt P e).1; omega
 have hp7 : PAt w7 P d l := hp.kept hk7 hPa fun g cs f _ hg => own_ne hown hg (by decide)
 have hT : ∀ g cs f,g ≠ P → w7.heap[g]? = some (.cells cs 102 f) → g ≠ C := fun g cs f _ hg e => by
  subst e
  rw [hC7] at hg
  injection hg with hg
  injection hg with _ hg
  exact absurd hg (by decide)
 have hall : qbg (fun b => b ≠ P ∧ w.heap.size ≤ b ∧ b ≠ C ∧ a.ownBlock ≠ some b ∧ v'.ownBlock ≠ some b) w6 (vs ++ [xv]) (acc ++ [x]) := by
  refine qbg.mono (fun b hb h => ⟨h.1,h.2.1,h.2.2.1,h.2.2.2,fun e => ?_⟩) _ _ (nodes_add hn hns)
  rcases hA.kind with ⟨g,cap,hv,hv',-⟩ | ⟨-,hnew⟩
  ·rw [hv'] at e
   have : g = b := Option.some.inj e
   exact h.2.2.2 (by rw [hv,← this]; rfl)
  ·have := hnew b e
   omega
 refine ⟨hC7,qak (i := 2) hC7 v',?_,?_,hp7.kept hk8 (Ne.symm hCP.1) hT,(hk.under (hk7.mono fun b _ hb e => ?_)).under (hk8.mono fun b _ hb e => ?_)⟩
 ·have h := own_set (p := ⟨C,2,none⟩) hA.own hCv v'
  have e : (vs ++ [xv]).length = vs.length + 1 := by simp
  rw [e]
  exact h
 ·refine qbg.mono (fun b _ h => ⟨h.1,h.2.1,h.2.2.1,h.2.2.2.2⟩) _ _ (qbg.kept hk8 (fun b h => h.2.2.1) _ _ (qbg.kept hk7 (fun b h => h.2.2.2.1) _ _ hall))
 ·have := (hown.lt b e).1
  omega
 ·have := hCP.2
  omega
def CallRel (w : World) (P d C : Nat) (f : List UInt8) (p : Nat) (l0 : List Tok) (wx : World) : Prop :=
 ∃ (acc : List Ex) (vs : List Value) (a : Value) (l' : List Tok),wx.heap[C]? = some (.cells #[.string (qah f),.int .i64 (p : Int),a] 174 (0,0)) ∧ wx.ownsRow w.heap.size 59 1 a vs.length vs ∧
   qbg (fun b => b ≠ P ∧ w.heap.size ≤ b ∧ b ≠ C ∧ a.ownBlock ≠ some b) wx vs acc ∧ PAt wx P d l' ∧ EndL l' ∧ vs.length + l'.length ≤ l0.length ∧ (∀ s,Par true (.args f p acc) d l' s → Par true (.args f p []) d l0 s) ∧ Keeps (fun b => b ≠ P) w wx
theorem call_any (P d : Nat) (ft : Tok) (t : Tok) (l0 : List Tok) (w : World) (h : PAt w P d (t :: l0)) (hl : EndL (t :: l0)) (ho : isW t qbq = true) (hd : d ≤ 12) (hlen : l0.length ≤ 1048576)
  (IHB : ∀ l' w1,Keeps (fun b => b ≠ P) w w1 → l'.length ≤ l0.length → PAt w1 P d l' → EndL l' → Calls Tryz.prog 39 #[.pointer (some ⟨P,0,none⟩),.int .i64 0] w1 (POut w1 P d l' (Par true (.bin 0) d l'))) :
  Calls Tryz.prog 117 #[.pointer (some ⟨P,0,none⟩),ft.v] w (POut w P d (t :: l0) (Par true (.args ft.t ft.p []) d l0)) := by
 have HIB := hid IHB; have HD := hid hd; have HLEN := hid hlen; have HO := hid ho
 obtain ⟨t',r',htr,htok,hend⟩ := hl.cons
 obtain ⟨rfl,rfl⟩ := List.cons.inj htr
 have HEL0 : Hid (EndL l0) := hid (hend (sign_k htok (by decide) ho))
 have HP := hid h
 have hPs : P < w.heap.size := by obtain ⟨v,h1,-⟩ := h; exact (Array.getElem?_eq_some_iff.1 h1).1
 have HPS := hid hPs
 clear IHB hd hl htok hend h hPs hlen ho htr
 unfold Tok.v
 go_enter Tryz.func117,Tryz.ntmps117
 go_wp2_with fail
 have HLW := hid (qag.alloc w (.cells #[.int .u8 (ft.k.toNat : Int),.string (qah ft.t),.int .i64 (ft.p : Int)] 102))
 have hf := qap w (.cells #[.int .u8 (ft.k.toNat : Int),.string (qah ft.t),.int .i64 (ft.p : Int)] 102)
 refine (must_any P d t l0 qbq _ (HP.out.later HLW.out)).mono ?_
 rintro e w1 ⟨hk1,hm1⟩
 rw [if_pos HO.out] at hm1
 obtain ⟨rfl,hp1⟩ := hm1
 have HK1 := hid ((HLW.out.keeps (fun b => b ≠ P)).trans hk1)
 have HP1 := hid hp1
 have hf1 := hk1.obj (Nat.ne_of_gt HPS.out) hf
 have f0 := qac (i := 0) hf1 rfl
 have f1 := qac (i := 1) hf1 rfl
 have f2 := qac (i := 2) hf1 rfl
 have hlt := qad f0
 clear hk1 hp1 hf
 go_upto_region 3 with (fail)
 obtain ⟨C,hC⟩ : ∃ C,C = w1.heap.size := ⟨_,rfl⟩
 obtain ⟨w2,hw2⟩ : ∃ w2,w2 = w1.alloc (.cells #[.string (qah ft.t),.int .i64 (ft.p : Int),.slice none 0 0] 174) := ⟨_,rfl⟩
 have hC2 : w2.heap[C]? = some (.cells #[.string (qah ft.t),.int .i64 (ft.p : Int),.slice none 0 0] 174 (0,0)) := by rw [hw2,hC]; exact qap _ _
 have hL2 : qag w1 w2 := hw2 ▸ qag.alloc _ _
 have HCP : Hid (C ≠ P ∧ w.heap.size ≤ C) := hid ⟨by have := HPS.out; have := HK1.out.size; omega,by have := HK1.out.size; omega⟩
 have HREL : Hid (CallRel w P d C ft.t ft.p l0 w2) := hid ⟨[],[],.slice none 0 0,l0,hC2,⟨by simp,.inl ⟨rfl,rfl⟩⟩,by unfold qbg; trivial,HP1.out.later hL2,HEL0.out,by simp,fun s hs => hs,HK1.out.trans (hL2.keeps _)⟩
 rw [← hw2,← hC]
 clear hw2 hC hC2 hL2 hf1 f0 f1 f2 hlt HP1
 obtain ⟨R1,hR1⟩ : ∃ RR_ : (Nat → Value) → World → Prop,RR_ = (fun us wx => CallRel w P d C ft.t ft.p l0 wx) := ⟨_,rfl⟩
 obtain ⟨mu1,hmu1⟩ : ∃ mu : (Nat → Value) → World → Nat,mu = (fun _ wx => toksLen wx P) := ⟨_,rfl⟩
 have HR1 := hid hR1; have Hmu1 := hid hmu1; clear hR1 hmu1
 refine qal [ff,ff,ff,ff,ff,ff,ff,ff,ff,ff,ff,ff,ff,ff,true,true,true,true,true,true,true,true,true,true,true,true,true,true,true,true,true,true,true,true,true,true] R1 _ mu1 HR1.out ?_ ?_
 ·exact HREL.out
 clear HREL
 intro us1 wx hrel
 obtain hrel := hrel
 simp only [qao,Nat.reduceAdd]
 obtain ⟨acc,vs,a,l',hCx,hown,hns,hp,he,hlen,hpar,hk⟩ := hrel
 obtain ⟨t2,r2,rfl,htk2,hen2⟩ := he.cons
 have HOWN := hid hown; have HNS := hid hns; have HP2 := hid hp; have HE2 := hid he; have HLN := hid hlen; have HPAR := hid hpar; have HK := hid hk; have HTK2 := hid htk2; have HEN2 := hid hen2
 have hsh : ∃ ao cap,a = .slice ao vs.length cap := by
  rcases hown.2 with ⟨hv,h0⟩ | ⟨g,cap,cur,hv,_⟩
  ·exact ⟨none,0,by rw [hv,h0]⟩
  ·exact ⟨_,_,hv⟩
 clear hown hns hp he hlen hpar hk htk2 hen2
 go_wp2_with fail
 refine (is_any P d t2 r2 qbl _ HP2.out).mono ?_
 rintro e w3 ⟨rfl,hk3,hp3⟩
 have HK3 := hid hk3
 have hC3 := hk3.obj HCP.out.1 hCx
 clear hk3 hCx
 cases hw : isW t2 qbl with
 | true =>
   rw [if_pos hw] at hp3
   have HP3 := hid hp3; have HW := hid hw; have HC3 := hid hC3
   clear hp3 hw hC3
   go_wp2_with fail
   refine bodyPost_ret (results_tmp rfl _ _ _) rfl ⟨HK.out.trans HK3.out,.ok (.call ft.t ft.p acc,r2),HPAR.out _ (par_args_close HW.out),.iface 168 (.pointer (some ⟨C,0,none⟩)),rfl,?_,HP3.out,HEN2.out (sign_k HTK2.out (by decide) HW.out),?_⟩
   ·unfold qbh
    have hS : ∀ b,(b ≠ P ∧ w.heap.size ≤ b ∧ b ≠ C ∧ a.ownBlock ≠ some b) → (b ≠ P ∧ w.heap.size ≤ b) := fun b h => ⟨h.1,h.2.1⟩
    refine ⟨C,vs,a,HCP.out,rfl,HC3.out,ArgsIn.kept (S := fun b => b ≠ P ∧ w.heap.size ≤ b) ⟨own_zero HOWN.out,fun g hg => ?_⟩ HK3.out fun _ h => h.1,qbg.mono (fun b _ h => hS b h) _ _ (qbg.kept HK3.out (fun _ h => h.1) _ _ HNS.out)⟩
    have h1 := (HOWN.out.lt g hg).1
    have h2 := HPS.out
    exact ⟨by omega,h1⟩
   ·have h1 := HLN.out
    simp only [List.length_cons] at h1 ⊢
    omega
 | false =>
   rw [if_neg (by rw [hw]; simp)] at hp3
   have HP3 := hid hp3; have HW := hid hw
   have c2 : w3.cell? ⟨C,2,none⟩ = some a := qac (i := 2) hC3 rfl
   have HC3 := hid hC3
   have hlc := qad c2
   obtain ⟨ao,cap,ha⟩ := hsh
   have HA := hid ha
   rw [ha] at c2
   clear hp3 hw ha
   clear hC3
   have HVL := hid (nodes_len HNS.out)
   go_upto_if 22 with (fail)
   obtain ⟨R2,hR2⟩ : ∃ RR_ : (Nat → Value) → World → Prop,RR_ = (fun us wy => Keeps (fun b => b ≠ P) w3 wy ∧ PAt wy P d (if acc = [] then t2 :: r2 else r2) ∧ (acc = [] ∨ isW t2 qdz = true)) := ⟨_,rfl⟩
   have HR2 := hid hR2; clear hR2
   refine qau [ff,ff,ff,ff,ff,ff,ff,ff,ff,ff,ff,ff,ff,ff,ff,ff,ff,ff,ff,ff,ff,ff,true,true,true] R2 _ HR2.out ?_ ?_
   ·by_cases h0 : acc = []
    ·have hv0 : vs.length = 0 := by rw [HVL.out,h0]; rfl
     have HV0 := hid hv0
     have H0 := hid h0
     have hvi : ¬ (0 : Int) < vs.length := by omega
     clear h0 hv0
     go_wp2_with fail
     refine Meet.mk' HR2.out rfl ?_
     refine ⟨Keeps.refl _ _,?_,.inl H0.out⟩
     rw [if_pos H0.out]
     exact HP3.out
    ·have HN0 := hid h0
     have hvp : 0 < vs.length := by
      rw [HVL.out]
      exact List.length_pos_iff.2 h0
     have hvi : (0 : Int) < vs.length := by omega
     clear h0
     go_wp2_with fail
     refine (must_any P d t2 r2 qdz _ HP3.out).mono ?_
     rintro e w4 ⟨hk4,hm4⟩
     have HK4 := hid hk4
     cases hcm : isW t2 qdz with
     | true =>
       rw [if_pos hcm] at hm4
       obtain ⟨rfl,hp4⟩ := hm4
       have HP4 := hid hp4; have HCM := hid hcm
       clear hk4 hp4 hcm
       go_wp2_with fail
       refine Meet.mk' HR2.out rfl ?_
       refine ⟨HK4.out,?_,.inr HCM.out⟩
       rw [if_neg HN0.out]
       exact HP4.out
     | false =>
       rw [if_neg (by rw [hcm]; simp)] at hm4
       have HCM := hid hcm
       unfold qbr at hm4
       subst hm4
       simp only [Exit.then,Exit.inBlock]
       refine ⟨rfl,HK.out.trans (HK3.out.trans HK4.out),.error (1,t2.p),HPAR.out _ (par_args_bad HW.out HN0.out HCM.out),rfl⟩
   intro us2 wy hrel
   obtain ⟨hky,hpy,hcm⟩ := hrel
   simp only [qao,Nat.reduceAdd]
   have HKY := hid hky; have HPY := hid hpy; have HCM := hid hcm
   have hCy := hky.obj HCP.out.1 HC3.out
   have c2 : wy.cell? ⟨C,2,none⟩ = some (.slice ao vs.length cap) := (qac (i := 2) hCy rfl : wy.cell? ⟨C,2,none⟩ = some a).trans (by rw [HA.out])
   clear hky hpy hcm
   go_upto_region 6 with (fail)
   have HCY := hid hCy
   have HELQ : Hid (EndL (if acc = [] then t2 :: r2 else r2)) := hid (by
    by_cases h0 : acc = []
    ·rw [if_pos h0]; exact HE2.out
    ·rw [if_neg h0]
     exact HEN2.out (sign_k HTK2.out (by decide) (HCM.out.resolve_left h0)))
   have HLQ : Hid ((if acc = [] then t2 :: r2 else r2).length ≤ r2.length + 1) := hid (by split <;> simp)
   obtain ⟨lq,hlq⟩ : ∃ lq,lq = (if acc = [] then t2 :: r2 else r2) := ⟨_,rfl⟩
   have HQ := hid hlq
   rw [← hlq] at HELQ HLQ HPY
   clear hlq hCy
   have hly : C < wy.heap.size := qad c2
   refine wp_region_k 11 (fun wz => wz.cell? ⟨C,2,none⟩ = some (.slice ao vs.length cap)) (by kernel_rfl) ((qag.drew wy).cell c2) (fun hS => ?_)
   refine qcg (i := 0) (v := .pointer (some ⟨C,0,none⟩)) rfl (by kernel_rfl) (by kernel_rfl) (by kernel_rfl) (by kernel_rfl) (fun _ _ _ h => h) (Or.inl ⟨by rfl,?_⟩) hS ?_
   ·intro w hS
    clear hS
    go_simp
   refine qcg (i := 1) (v := .pointer (some ⟨C,0,none⟩)) rfl (by kernel_rfl) (by kernel_rfl) (by kernel_rfl) (by kernel_rfl) (fun _ _ _ h => h) (Or.inl ⟨by rfl,?_⟩) hS ?_
   ·intro w hS
    clear hS
    go_simp
   try simp only [Act.put,sib,List.set]
   refine qcg (i := 2) (v := .pointer (some ⟨C,0,none⟩)) rfl (by kernel_rfl) (by kernel_rfl) (by kernel_rfl) (by kernel_rfl) (fun _ _ _ h => h) (Or.inl ⟨by rfl,?_⟩) hS ?_
   ·intro w hS
    have := qad hS
    go_simp
   try simp only [Act.put,sib,List.set]
   refine qcg (i := 3) (v := .pointer (some ⟨C,2,none⟩)) rfl (by kernel_rfl) (by kernel_rfl) (by kernel_rfl) (by kernel_rfl) (fun _ _ _ h => h) (Or.inl ⟨by rfl,?_⟩) hS ?_
   ·intro w hS
    have := qad hS
    go_simp
   try simp only [Act.put,sib,List.set]
   refine qcg (i := 4) (v := .slice ao vs.length cap) rfl (by kernel_rfl) (by kernel_rfl) (by kernel_rfl) (by kernel_rfl) (fun _ _ _ h => h) (Or.inl ⟨by rfl,?_⟩) hS ?_
   ·intro w hS
    go_simp
   refine qcg (i := 5) (v := .pointer (some ⟨P,0,none⟩)) rfl (by kernel_rfl) (by kernel_rfl) (by kernel_rfl) (by kernel_rfl) (fun _ _ _ h => h) (Or.inl ⟨by rfl,?_⟩) hS ?_
   ·intro w hS
    clear hS
    go_simp
   try simp only [Act.put,sib,List.set]
   refine qbz (rs := [6]) (by kernel_rfl) (by simp) (AllReadyK.cons rfl (fun K hK => ?_) AllReadyK.nil)
   go_simp
   have HS := hid hS
   have HKD := hid (HK.out.trans (HK3.out.trans (HKY.out.trans ((qag.drew wy).keeps _))))
   clear hS c2
   refine (HIB.out lq wy.drew HKD.out (by have h1 := HLQ.out; have h2 := HLN.out; simp only [List.length_cons] at h2; omega) (HPY.out.later (qag.drew wy)) HELQ.out).mono ?_
   rintro e w5 ⟨hk5,rs,hr,hm⟩
   have HR : Hid (Par true (.bin 0) d (if acc = [] then t2 :: r2 else r2) rs) := hid (by rw [← HQ.out]; exact hr)
   cases rs with
   | error f =>
     simp only at hm
     unfold qbr at hm
     subst hm
     exact ⟨rfl,HKD.out.trans hk5,.error f,HPAR.out _ (par_args_err HW.out HCM.out HR.out),rfl⟩
   | ok z =>
     obtain ⟨zv,rfl,hzn,hzp,hze,hzl⟩ := hm
     have HZN := hid hzn; have HZP := hid hzp; have HZE := hid hze; have HZL := hid hzl
     obtain ⟨zT,zB,rfl⟩ := HZN.out.shape
     have hS5 := hk5.cell (p := ⟨C,2,none⟩) HCP.out.1 HS.out
     have HK5 := hid hk5
     clear hr hzn hzp hze hzl hk5
     refine hK.out _ _ hS5 (fun hS => ?_)
     clear hK K hS5
     try simp only [Act.put,sib,List.set]
     refine qbz (rs := [7]) (by kernel_rfl) (by simp) (AllReadyK.cons rfl (fun K hK => ?_) AllReadyK.nil)
     go_simp
     obtain ⟨G,hG⟩ : ∃ G,G = w5.heap.size := ⟨_,rfl⟩
     obtain ⟨w6,hw6⟩ : ∃ w6,w6 = w5.alloc (.cells #[.iface zT (.pointer (some ⟨zB,0,none⟩))] 59) := ⟨_,rfl⟩
     have hG6 : w6.heap[G]? = some (.cells [Value.iface zT (.pointer (some ⟨zB,0,none⟩))].toArray 59 (0,0)) := by rw [hw6,hG]; exact qap _ _
     have hL6 : qag w5 w6 := hw6 ▸ qag.alloc _ _
     rw [← hw6,← hG]
     refine hK.out _ _ (hL6.cell hS) (fun hS => ?_)
     clear hK K
     have HW6 := hid hw6; have HL6 := hid hL6
     have HK6 := hid (HKD.out.trans (HK5.out.trans (hL6.keeps _)))
     have HC6 := hid (hL6.obj (HK5.out.obj HCP.out.1 ((qag.drew wy).obj HCY.out)))
     have hgP : ∀ g,a.ownBlock = some g → g ≠ P ∧ g < wx.heap.size := fun g hg => by
      have h1 := HOWN.out.lt g hg
      have h2 := HPS.out
      exact ⟨by omega,h1.2⟩
     have kxy : Keeps (fun b => b ≠ P) wx wy := HK3.out.trans HKY.out
     have kx6 : Keeps (fun b => b ≠ P) wx w6 := kxy.trans (((qag.drew wy).keeps _).trans (HK5.out.trans (hL6.keeps _)))
     have HO6 := hid (own_keeps HOWN.out kx6 fun g hg => (hgP g hg).1)
     have HNS6 := hid (qbg.kept kx6 (fun b h => h.1) _ _ HNS.out)
     have HZN6 : Hid (qbh (fun b => b ≠ P ∧ w.heap.size ≤ b ∧ b ≠ C ∧ a.ownBlock ≠ some b) w6 (.iface zT (.pointer (some ⟨zB,0,none⟩))) z.1) := hid (qbh.mono (fun b hb h => by
       have h1 : wy.heap.size ≤ b := h.2
       have h2 := HKD.out.size
       have h3 : wy.drew.heap.size = wy.heap.size := rfl
       exact ⟨h.1,by omega,by omega,fun e => by have := (hgP b e).2; have := kxy.size; omega⟩) _ _ (qbh.kept (hL6.keeps (fun b => b ≠ P)) (fun b h => h.1) _ _ HZN.out))
     have HZP6 := hid (HZP.out.later hL6)
     clear hgP kxy kx6 hw6 hL6
     try simp only [Act.put,sib,List.set]
     refine qbz (rs := [8]) (by kernel_rfl) (by simp) (AllReadyK.cons rfl (fun K hK => ?_) AllReadyK.nil)
     rw [if_pos (by rfl)]
     have hvl : vs.length ≤ 1048576 := by have h1 := HLN.out; have h2 := HLEN.out; omega
     refine oper_append _ _ 172 rfl 59 1 16 (by kernel_rfl) (ElemInfo.of (z := .nilIface) (by kernel_rfl) rfl (by omega)) (v := .slice ao vs.length cap) (n := vs.length) (xs := vs) rfl (by rw [← HA.out]; exact HO6.out) rfl hG6 rfl (by simp [Value.oneCell']) (by omega) (by unfold maxLen; omega) HK6.out.size ?_
     intro v' w7 hA7
     rw [← HA.out] at hA7
     obtain ⟨hC7,hC8,ho8,hn8,hp8,hk8⟩ := call_add HPS.out HCP.out HO6.out HC6.out HNS6.out HZN6.out HZP6.out HK6.out hA7
     have hS7 : w7.cell? ⟨C,2,none⟩ = some (.slice ao vs.length cap) := (qac (i := 2) hC7 rfl : w7.cell? ⟨C,2,none⟩ = some a).trans (by rw [HA.out])
     have hz7 := qaq (i := 2) hC7
     have hl7 := qad hS7
     obtain ⟨ao',cap',hv'⟩ : ∃ ao cap,v' = .slice ao (vs.length + 1) cap := by
      rcases hA7.own.2 with ⟨hv,h0⟩ | ⟨g,cap,cur,hv,_⟩
      ·exact ⟨none,0,by rw [hv,h0]⟩
      ·exact ⟨_,_,hv⟩
     have HC8 := hid hC8; have HO8 := hid ho8; have HN8 := hid hn8; have HP8 := hid hp8; have HK8 := hid hk8
     clear hA7 hC7 hC8 ho8 hn8 hp8 hk8 hG6 hS
     refine hK.out _ _ hS7 (fun hS => ?_)
     clear hK K
     try simp only [Act.put,sib,List.set]
     refine qbz (rs := [9]) (by kernel_rfl) (by simp) (AllReadyK.cons rfl (fun K hK => ?_) AllReadyK.nil)
     go_simp
     refine hK.out _ _ hS7 (fun hS => ?_)
     clear hK K
     try simp only [Act.put,sib,List.set]
     refine qbz (rs := [10]) (by kernel_rfl) (by simp) (AllReadyK.cons rfl (fun K hK => ?_) AllReadyK.nil)
     go_simp
     refine hK.out _ _ hS7 (fun hS => ?_)
     clear hK K
     try simp only [Act.put,sib,List.set]
     refine qbz (rs := [11]) (by kernel_rfl) (by simp) (AllReadyK.late rfl (by kernel_rfl) (fun K hK => ?_) AllReadyK.nil)
     subst hv'
     go_simp
     refine hK.out _ _ ?_
     clear hK K hS
     refine wpAnyK_done (by kernel_rfl) ?_ _
     try simp only [Act.put,sib,List.set]
     clear hS7 hz7 hl7
     go_wp2_with fail
     refine Round.mk' HR1.out Hmu1.out rfl ?_ ?_
     ·refine ⟨acc ++ [z.1],vs ++ [_],.slice ao' (vs.length + 1) cap',z.2,HC8.out,HO8.out,HN8.out,HP8.out,HZE.out,?_,fun s hs => HPAR.out s (par_args_go HW.out HCM.out HR.out hs),HK8.out⟩
      have h1 := HLN.out
      have h2 := HZL.out
      have h3 := HLQ.out
      simp only [List.length_cons,List.length_append,List.length_nil] at h1 h2 h3 ⊢
      rw [HQ.out] at h2
      by_cases h0 : acc = []
      ·rw [if_pos h0] at h2
       simp only [List.length_cons] at h2
       omega
      ·rw [if_neg h0] at h2
       omega
     ·rw [HP8.out.len,HP2.out.len]
      have h2 := HZL.out
      have h3 := HLQ.out
      simp only [List.length_cons] at h2 ⊢
      omega
end Go.Proofs.YtgajofkeidjbgaaGreatDoor
namespace Go.Proofs.YtgajofkeidjbgaaGreatDoor
set_option linter.unusedSimpArgs false
set_option linter.unusedVariables false
open Go.RowKit
def nameO (s : List UInt8) (p : Int) : Obj := .cells #[.string (qah s),.int .i64 p] 167 (0,0)
theorem nameO_inj {s s' : List UInt8} {p p' : Int} (h : nameO s p = nameO s' p') : s = s' ∧ p = p' := by
 unfold nameO at h
 simp only [Obj.cells.injEq,Array.mk.injEq,List.cons.injEq,Value.string.injEq,Value.int.injEq,true_and,and_true] at h
 exact ⟨strB_inj h.1,h.2⟩
structure NmKeep (B : Nat) (cs : List Col) (w w' : World) : Prop where
 os : w'.os = w.os
 tape : w'.tape = w.tape
 output : w'.output = w.output
 size : w.heap.size ≤ w'.heap.size
 block : ∀ b,b < w.heap.size → w'.heap[b]? = w.heap[b]? ∨ (B ≤ b ∧ ∃ (s : List UInt8) (p : Int) (i : Nat),w.heap[b]? = some (nameO s p) ∧ colAt cs s = some i ∧ w'.heap[b]? = some (nameO s (i : Int)))
theorem NmKeep.refl (B : Nat) (cs : List Col) (w : World) : NmKeep B cs w w := ⟨rfl,rfl,rfl,Nat.le_refl _,fun _ _ => .inl rfl⟩
theorem NmKeep.trans {B : Nat} {cs : List Col} {a b c : World} (h : NmKeep B cs a b) (k : NmKeep B cs b c) : NmKeep B cs a c :=
 ⟨k.os.trans h.os,k.tape.trans h.tape,k.output.trans h.output,Nat.le_trans h.size k.size,fun x hx => by
  rcases h.block x hx with h1 | ⟨hB,s,p,i,h1,h2,h3⟩
  ·rcases k.block x (Nat.lt_of_lt_of_le hx h.size) with k1 | ⟨hB,s,p,i,k1,k2,k3⟩
   ·exact .inl (k1.trans h1)
   ·exact .inr ⟨hB,s,p,i,h1 ▸ k1,k2,k3⟩
  ·rcases k.block x (Nat.lt_of_lt_of_le hx h.size) with k1 | ⟨-,s',p',i',k1,k2,k3⟩
   ·exact .inr ⟨hB,s,p,i,h1,h2,k1.trans h3⟩
   ·rw [h3] at k1
    obtain ⟨rfl,-⟩ := nameO_inj (Option.some.inj k1)
    exact .inr ⟨hB,s,p,i',h1,k2,k3⟩⟩
theorem NmKeep.later {B : Nat} {cs : List Col} {w w' : World} (h : qag w w') : NmKeep B cs w w' := by
 have k := h.keeps (fun _ => True)
 exact ⟨k.os,k.tape,k.output,k.size,fun b hb => .inl (k.block b hb trivial)⟩
theorem NmKeep.below {B : Nat} {cs : List Col} {w w' : World} (h : NmKeep B cs w w') : Keeps (fun b => b < B) w w' :=
 ⟨h.os,h.tape,h.output,h.size,fun b hb hB => by
  rcases h.block b hb with h1 | ⟨h1,-⟩
  ·exact h1
  ·omega⟩
theorem NmKeep.obj {B b : Nat} {cs : List Col} {w w' : World} (h : NmKeep B cs w w') {xs : Array Value} {T : TypeId} {f : Nat × Nat} (hb : w.heap[b]? = some (.cells xs T f)) (hT : T ≠ 167) : w'.heap[b]? = some (.cells xs T f) := by
 rcases h.block b (qch hb) with h1 | ⟨-,s,p,i,h1,-⟩
 ·rw [h1]; exact hb
 ·rw [hb] at h1
  injection h1 with h1
  unfold nameO at h1
  injection h1 with _ h1
  exact absurd h1 hT
theorem NmKeep.set {B N : Nat} {cs : List Col} {w : World} {s : List UInt8} {p : Int} {i : Nat} (hN : w.heap[N]? = some (nameO s p)) (hB : B ≤ N) (hi : colAt cs s = some i) : NmKeep B cs w (w.setCell ⟨N,1,none⟩ (.int .i64 (i : Int))) ∧ (w.setCell ⟨N,1,none⟩ (.int .i64 (i : Int))).heap[N]? = some (nameO s (i : Int)) := by
 have h2 : (w.setCell ⟨N,1,none⟩ (.int .i64 (i : Int))).heap[N]? = some (nameO s (i : Int)) := qak (i := 1) hN _
 have k := (Keeps.refl (fun b => b ≠ N) w).setCell (p := ⟨N,1,none⟩) (.inl fun h => h rfl) (.int .i64 (i : Int))
 refine ⟨⟨k.os,k.tape,k.output,k.size,fun b hb => ?_⟩,h2⟩
 by_cases hbN : b = N
 ·subst hbN; exact .inr ⟨hB,s,p,i,hN,hi,h2⟩
 ·exact .inl (k.block b hb hbN)
mutual
def qbm (q : List UInt8 → Nat → Int → Prop) (S : Nat → Prop) (w : World) : Value → Ex → Prop
 | v,.lit x => ∃ B,S B ∧ v = .iface 161 (.pointer (some ⟨B,0,none⟩)) ∧ w.heap[B]? = some (.cells #[.int .i64 x.k,.int .i64 x.n,.string x.t] 163 (0,0))
 | v,.name s p => ∃ B pos,S B ∧ v = .iface 164 (.pointer (some ⟨B,0,none⟩)) ∧ w.heap[B]? = some (nameO s pos) ∧ q s p pos
 | v,.un neg p x => ∃ B u,S B ∧ v = .iface 137 (.pointer (some ⟨B,0,none⟩)) ∧ w.heap[B]? = some (.cells #[.string (qah (opW neg)),.int .i64 (p : Int),u] 139 (0,0)) ∧ qbm q S w u x
 | v,.bin o p x y => ∃ B u1 u2,S B ∧ v = .iface 140 (.pointer (some ⟨B,0,none⟩)) ∧ w.heap[B]? = some (.cells #[.string (qah o),.int .i64 (p : Int),u1,u2] 142 (0,0)) ∧ qbm q S w u1 x ∧ qbm q S w u2 y
 | v,.call f p l => ∃ B vs a,S B ∧ v = .iface 168 (.pointer (some ⟨B,0,none⟩)) ∧ w.heap[B]? = some (.cells #[.string (qah f),.int .i64 (p : Int),a] 174 (0,0)) ∧
   ArgsIn S w a vs ∧ qcb q S w vs l
def qcb (q : List UInt8 → Nat → Int → Prop) (S : Nat → Prop) (w : World) : List Value → List Ex → Prop
 | [],[] => True
 | v :: vs,x :: l => qbm q S w v x ∧ qcb q S w vs l
 | _,_ => False
end
def qMay (cs : List Col) (s : List UInt8) (p : Nat) (pos : Int) : Prop := pos = (p : Int) ∨ ∃ i : Nat,colAt cs s = some i ∧ pos = (i : Int)
def qIdx (cs : List Col) (s : List UInt8) (_ : Nat) (pos : Int) : Prop := ∃ i : Nat,colAt cs s = some i ∧ pos = (i : Int)
theorem qMay_set {cs : List Col} {s : List UInt8} {p i : Nat} (h : colAt cs s = some i) : qMay cs s p (i : Int) := .inr ⟨i,h,rfl⟩
theorem qIdx_set {cs : List Col} {s : List UInt8} {p i : Nat} (h : colAt cs s = some i) : qIdx cs s p (i : Int) := ⟨i,h,rfl⟩
theorem args_named {B : Nat} {cs : List Col} {S : Nat → Prop} {w w' : World} {a : Value} {vs : List Value} (h : ArgsIn S w a vs) (k : NmKeep B cs w w') : ArgsIn S w' a vs := by
 obtain ⟨⟨h1,h2⟩,h3⟩ := h
 refine ⟨⟨h1,h2.imp id ?_⟩,h3⟩
 rintro ⟨g,cap,cur,hv,hb,hg,hr⟩
 exact ⟨g,cap,cur,hv,hb,k.obj hg (by decide),hr⟩
mutual
theorem qbm.kept {q : List UInt8 → Nat → Int → Prop} {B : Nat} {cs : List Col} {S : Nat → Prop} {w w' : World} (hq : ∀ s p (i : Nat),colAt cs s = some i → q s p (i : Int)) (k : NmKeep B cs w w') : ∀ (v : Value) (x : Ex),qbm q S w v x → qbm q S w' v x
 | v,.lit x,h => by
   unfold qbm at h ⊢
   obtain ⟨N,h1,h2,h3⟩ := h
   exact ⟨N,h1,h2,k.obj h3 (by decide)⟩
 | v,.name s p,h => by
   unfold qbm at h ⊢
   obtain ⟨N,pos,h1,h2,h3,h4⟩ := h
   rcases k.block N (qch h3) with e | ⟨-,s',p',i,e1,e2,e3⟩
   ·exact ⟨N,pos,h1,h2,by rw [e]; exact h3,h4⟩
   ·rw [h3] at e1
    obtain ⟨rfl,-⟩ := nameO_inj (Option.some.inj e1)
    exact ⟨N,_,h1,h2,e3,hq _ _ _ e2⟩
 | v,.un neg p x,h => by
   unfold qbm at h ⊢
   obtain ⟨N,u,h1,h2,h3,h4⟩ := h
   exact ⟨N,u,h1,h2,k.obj h3 (by decide),qbm.kept hq k u x h4⟩
 | v,.bin o p x y,h => by
   unfold qbm at h ⊢
   obtain ⟨N,u1,u2,h1,h2,h3,h4,h5⟩ := h
   exact ⟨N,u1,u2,h1,h2,k.obj h3 (by decide),qbm.kept hq k u1 x h4,qbm.kept hq k u2 y h5⟩
 | v,.call f p l,h => by
   unfold qbm at h ⊢
   obtain ⟨N,vs,a,h1,h2,h3,h4,h5⟩ := h
   exact ⟨N,vs,a,h1,h2,k.obj h3 (by decide),args_named h4 k,qcb.kept hq k vs l h5⟩
theorem qcb.kept {q : List UInt8 → Nat → Int → Prop} {B : Nat} {cs : List Col} {S : Nat → Prop} {w w' : World} (hq : ∀ s p (i : Nat),colAt cs s = some i → q s p (i : Int)) (k : NmKeep B cs w w') : ∀ (vs : List Value) (l : List Ex),qcb q S w vs l → qcb q S w' vs l
 | [],[],h => by unfold qcb; trivial
 | v :: vs,x :: l,h => by
   unfold qcb at h ⊢
   exact ⟨qbm.kept hq k v x h.1,qcb.kept hq k vs l h.2⟩
 | [],_ :: _,h => by unfold qcb at h; exact h.elim
 | _ :: _,[],h => by unfold qcb at h; exact h.elim
end
mutual
theorem qbh.may (cs : List Col) {S : Nat → Prop} {w : World} : ∀ (v : Value) (x : Ex),qbh S w v x → qbm (qMay cs) S w v x
 | v,.lit x,h => by
   unfold qbh at h
   unfold qbm
   exact h
 | v,.name s p,h => by
   unfold qbh at h
   unfold qbm
   obtain ⟨N,h1,h2,h3⟩ := h
   exact ⟨N,_,h1,h2,h3,.inl rfl⟩
 | v,.un neg p x,h => by
   unfold qbh at h
   unfold qbm
   obtain ⟨N,u,h1,h2,h3,h4⟩ := h
   exact ⟨N,u,h1,h2,h3,qbh.may cs u x h4⟩
 | v,.bin o p x y,h => by
   unfold qbh at h
   unfold qbm
   obtain ⟨N,u1,u2,h1,h2,h3,h4,h5⟩ := h
   exact ⟨N,u1,u2,h1,h2,h3,qbh.may cs u1 x h4,qbh.may cs u2 y h5⟩
 | v,.call f p l,h => by
   unfold qbh at h
   unfold qbm
   obtain ⟨N,vs,a,h1,h2,h3,h4,h5⟩ := h
   exact ⟨N,vs,a,h1,h2,h3,h4,qbg.may cs vs l h5⟩
theorem qbg.may (cs : List Col) {S : Nat → Prop} {w : World} : ∀ (vs : List Value) (l : List Ex),qbg S w vs l → qcb (qMay cs) S w vs l
 | [],[],h => by unfold qcb; trivial
 | v :: vs,x :: l,h => by
   unfold qbg at h
   unfold qcb
   exact ⟨qbh.may cs v x h.1,qbg.may cs vs l h.2⟩
 | [],_ :: _,h => by unfold qbg at h; exact h.elim
 | _ :: _,[],h => by unfold qbg at h; exact h.elim
end
end Go.Proofs.YtgajofkeidjbgaaGreatDoor
