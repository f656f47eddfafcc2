/-
  PROVED HERE: a part of the proof of ExprEvals: ParUn2, ParPrim2, ParPrim1, ParPlain, IdxBound.
-/
import Derived.Test.YtgajofkeidjbgaaGreatDoorGRKind2
import Derived.Test.YtgajofkeidjbgaaGreatDoorGDoor
import Derived.Test.YtgajofkeidjbgaaGreatDoorShort
import Derived.Test.YtgajofkeidjbgaaGreatDoorGLexPlain
namespace Go.Proofs.YtgajofkeidjbgaaGreatDoor
set_option linter.unusedSimpArgs false
set_option linter.unusedVariables false
set_option maxHeartbeats 2000000
set_option maxRecDepth 100000
open Go.RowKit
attribute [local go_sem high] tok_f0 tok_f1 tok_f2
theorem POut.mono {w : World} {P d : Nat} {l : List Tok} {R R' : Res → Prop} {e : Ending} {w' : World} (h : POut w P d l R e w') (hR : ∀ s,R s → R' s) : POut w P d l R' e w' := by
 obtain ⟨k,r,hr,hm⟩ := h
 exact ⟨k,r,hR _ hr,hm⟩
theorem POut.before {w0 w : World} {P d : Nat} {l : List Tok} {R : Res → Prop} {e : Ending} {w' : World} (h : POut w P d l R e w') (k : Keeps (fun b => b ≠ P) w0 w) : POut w0 P d l R e w' := by
 obtain ⟨k',r,hr,hm⟩ := h
 refine ⟨k.trans k',r,hr,?_⟩
 cases r with
 | error f => exact hm
 | ok x =>
   obtain ⟨v,h1,h2,h3⟩ := hm
   exact ⟨v,h1,qbh.mono (fun b _ h => ⟨h.1,Nat.le_trans k.size h.2⟩) _ _ h2,h3⟩
theorem tok_sign {t : Tok} (h : TokOk t) {x : List UInt8} (hx : x ∈ qcj) : isW t x = (decide (t.t = x) && decide (t.k = 111)) := by
 have hne : ∀ g ∈ qcj,∀ c r,g = c :: r → qcs c = false ∧ qde c = false ∧ c ≠ 39 := by
  have : ∀ g ∈ qcj,qcs (g.headD 0) = false ∧ qde (g.headD 0) = false ∧ g.headD 0 ≠ 39 ∧ g ≠ [] := by decide
  intro g hg c r e
  have := this g hg
  rw [e] at this
  exact ⟨this.1,this.2.1,this.2.2.1⟩
 unfold isW
 by_cases ht : t.t = x
 ·have hk : t.k = 111 := by
   rcases h with ⟨_,h2⟩ | ⟨_,c,r,h2,h3⟩ | ⟨_,c,r,h2,h3⟩ | ⟨_,r,h2⟩ | ⟨h1,_⟩
   ·rw [← ht,h2] at hx; exact absurd hx (by decide)
   ·have := (hne x hx c r (ht ▸ h2)).1; rw [h3] at this; cases this
   ·have := (hne x hx c r (ht ▸ h2)).2.1; rw [h3] at this; cases this
   ·exact absurd rfl (hne x hx 39 r (ht ▸ h2)).2.2
   ·exact h1
  simp [ht,hk]
 ·have : (t.t == x) = false := by simp [ht]
  rw [this]; simp [ht]
theorem par_minus {d : Nat} {t : Tok} {r : List Tok} (h : isW t qbf = true) {s : Res} (hs : if 12 < d + 1 then s = .error (4,t.p) else ∃ s',Par true .un (d + 1) r s' ∧ s = match s' with
   | .error f => .error f
   | .ok x => .ok (.un true t.p x.1,x.2)) : Par true .un d (t :: r) s := by
 have h' : isW (hdT (t :: r)) qbf = true := h
 by_cases hd : 12 < d + 1
 ·rw [if_pos hd] at hs
  subst hs
  exact ⟨1,by unfold qai; rw [if_pos h',if_pos hd]; rfl⟩
 ·rw [if_neg hd] at hs
  obtain ⟨s',⟨n,hn⟩,rfl⟩ := hs
  refine ⟨n + 1,?_⟩
  unfold qai
  rw [if_pos h',if_neg hd,show (t :: r).tail = r from rfl,hn]
  cases s' <;> rfl
theorem unary_any (P d : Nat) (l : List Tok) (w : World) (h : PAt w P d l) (hl : EndL l) (hd : d ≤ 12)
  (IH : ∀ d' l' w1,Keeps (fun b => b ≠ P) w w1 → l'.length < l.length → d' ≤ 12 → PAt w1 P d' l' → EndL l' → Calls Tryz.prog 71 #[.pointer (some ⟨P,0,none⟩)] w1 (POut w1 P d' l' (Par true .un d' l')))
  (HPR : ¬ isW (hdT l) qbf = true → ∀ w1,Keeps (fun b => b ≠ P) w w1 → PAt w1 P d l → Calls Tryz.prog 97 #[.pointer (some ⟨P,0,none⟩)] w1 (POut w1 P d l (Par true .un d l))) :
  Calls Tryz.prog 71 #[.pointer (some ⟨P,0,none⟩)] w (POut w P d l (Par true .un d l)) := by
 have HIH := hid IH; have HPRI := hid HPR; have HD := hid hd
 obtain ⟨t,r,rfl,htok,hend⟩ := hl.cons
 have HTK := hid htok; have HEN := hid hend; have HP := hid h
 have hPs : P < w.heap.size := by obtain ⟨v,h1,-⟩ := h; exact (Array.getElem?_eq_some_iff.1 h1).1
 have HPS := hid hPs
 clear IH HPR hd hl htok hend h hPs
 go_enter Tryz.func71,Tryz.ntmps71
 go_wp2_with fail
 have HL1 := hid (qag.alloc w (.cells #[.pointer (some ⟨P,0,none⟩)] 95))
 refine (qeo P d t r _ (HP.out.later HL1.out)).mono ?_
 rintro e w1 ⟨rfl,hL1⟩
 have HLW := hid (qag.trans _ _ _ HL1.out hL1)
 have hX := hL1.cell (qac (i := 0) (qap w (.cells #[.pointer (some ⟨P,0,none⟩)] 95)) rfl)
 unfold Tok.v
 obtain ⟨b1,h1⟩ : ∃ b,decide (t.t = qbf) = b := ⟨_,rfl⟩
 obtain ⟨b2,h2⟩ : ∃ b,decide (t.k = 111) = b := ⟨_,rfl⟩
 have HW : Hid (isW t qbf = (b1 && b2)) := hid (by rw [tok_sign HTK.out (by decide),h1,h2])
 have e2 : ((t.k.toNat : Int) == 111) = b2 := (qdb t.k 111 (by omega)).trans h2
 have e1 : ((qah t.t).toList == [45]) = b1 := by rw [qan,← h1,Bool.eq_iff_iff]; simp
 clear hL1 h1 h2
 have leaf : ¬ isW t qbf = true → ∀ w2,qag w1 w2 → Calls Tryz.prog 97 #[.pointer (some ⟨P,0,none⟩)] w2 (POut w P d (t :: r) (Par true .un d (t :: r))) := fun hn w2 hL2 =>
  (HPRI.out hn w2 ((qag.trans _ _ _ HLW.out hL2).keeps _) (HP.out.later (qag.trans _ _ _ HLW.out hL2))).mono fun e w' h => h.before ((qag.trans _ _ _ HLW.out hL2).keeps _)
 have HLEAF := hid leaf
 clear leaf
 cases b1 with
 | false =>
   have HN : Hid (¬ isW t qbf = true) := hid (by rw [HW.out]; simp)
   go_wp2_with fail
   refine (HLEAF.out HN.out w1 (qag.refl _)).mono ?_
   rintro e w' ⟨k,rs,hr,hm⟩
   cases rs with
   | error f =>
     simp only at hm
     unfold qbr at hm
     subst hm
     exact ⟨rfl,k,.error f,hr,rfl⟩
   | ok x =>
     obtain ⟨v,rfl,hm⟩ := hm
     have HK := hid k; have HR := hid hr; have HM := hid hm
     clear k hr hm
     go_wp2_with fail
     exact bodyPost_ret (results_tmp rfl _ _ _) rfl ⟨HK.out,.ok x,HR.out,v,rfl,HM.out⟩
 | true =>
   go_wp2_with fail
   refine (qeo P d t r _ (HP.out.later HLW.out)).mono ?_
   rintro e w2 ⟨rfl,hL2⟩
   have HL2 := hid hL2
   have hX2 := hL2.cell hX
   unfold Tok.v
   clear hL2 hX
   cases b2 with
   | false =>
     have HN : Hid (¬ isW t qbf = true) := hid (by rw [HW.out]; simp)
     go_wp2_with fail
     refine (HLEAF.out HN.out w2 HL2.out).mono ?_
     rintro e w' ⟨k,rs,hr,hm⟩
     cases rs with
     | error f =>
       simp only at hm
       unfold qbr at hm
       subst hm
       exact ⟨rfl,k,.error f,hr,rfl⟩
     | ok x =>
       obtain ⟨v,rfl,hm⟩ := hm
       have HK := hid k; have HR := hid hr; have HM := hid hm
       clear k hr hm
       go_wp2_with fail
       exact bodyPost_ret (results_tmp rfl _ _ _) rfl ⟨HK.out,.ok x,HR.out,v,rfl,HM.out⟩
   | true =>
     have HY : Hid (isW t qbf = true) := hid (by rw [HW.out]; rfl)
     have HENR : Hid (EndL r) := hid (HEN.out (by
      have h := HY.out
      rw [tok_sign HTK.out (by decide)] at h
      have : t.k = 111 := by simp at h; exact h.2
      rw [this]; decide))
     have HLW2 := hid (qag.trans _ _ _ HLW.out HL2.out)
     go_wp2_with fail
     refine ((nested_any 96 (enters_of Tryz.func96 (by kernel_rfl) rfl) #[.pointer (some ⟨w.heap.size,0,none⟩)] P d t r (t :: r) (fun s => ∃ s',Par true .un (d + 1) r s' ∧ s = match s' with
      | .error f => .error f
      | .ok x => .ok (.un true t.p x.1,x.2)) w2 (HP.out.later HLW2.out) HD.out (fun hd1 w3 hk3 hp3 => by
        refine unary1_any P w.heap.size (d + 1) t r w3 (hk3.cell (p := ⟨w.heap.size,0,none⟩) (Nat.ne_of_gt HPS.out) hX2) (Nat.ne_of_gt HPS.out) hp3 HENR.out fun w4 hk4 hp4 => ?_
        exact HIH.out (d + 1) r w4 (((HLW2.out.keeps _).trans hk3).trans hk4) (by simp) hd1 hp4 HENR.out)).mono fun e w' h => (h.mono fun s hs => par_minus HY.out hs).before (HLW2.out.keeps _)).mono ?_
     rintro e w' ⟨k,rs,hr,hm⟩
     cases rs with
     | error f =>
       simp only at hm
       unfold qbr at hm
       subst hm
       exact ⟨rfl,k,.error f,hr,rfl⟩
     | ok x =>
       obtain ⟨v,rfl,hm⟩ := hm
       have HK := hid k; have HR := hid hr; have HM := hid hm
       clear k hr hm
       go_wp2_with fail
       exact bodyPost_ret (results_tmp rfl _ _ _) rfl ⟨HK.out,.ok x,HR.out,v,rfl,HM.out⟩
end Go.Proofs.YtgajofkeidjbgaaGreatDoor
namespace Go.Proofs.YtgajofkeidjbgaaGreatDoor
set_option linter.unusedSimpArgs false
set_option linter.unusedVariables false
set_option maxHeartbeats 2000000
set_option maxRecDepth 100000
open Go.RowKit
attribute [local go_sem high] tok_f0 tok_f1 tok_f2
def closeR (s : Res) : Res := match s with
 | .error f => .error f
 | .ok x => if isW (hdT x.2) qbl = true then .ok (x.1,x.2.tail) else .error (1,(hdT x.2).p)
theorem sign_k {t : Tok} (h : TokOk t) {x : List UInt8} (hx : x ∈ qcj) (hw : isW t x = true) : t.k ≠ 0 := by
 rw [tok_sign h hx] at hw
 have : t.k = 111 := by simp at hw; exact hw.2
 rw [this]; decide
theorem prim2_any (P X d : Nat) (t : Tok) (r : List Tok) (w : World) (hX : w.cell? ⟨X,0,none⟩ = some (.pointer (some ⟨P,0,none⟩))) (hXP : X ≠ P) (h : PAt w P d (t :: r))
  (hB : ∀ w1,Keeps (fun b => b ≠ P) w w1 → PAt w1 P d r → Calls Tryz.prog 39 #[.pointer (some ⟨P,0,none⟩),.int .i64 0] w1 (POut w1 P d r (Par true (.bin 0) d r))) :
  Calls Tryz.prog 118 #[.pointer (some ⟨X,0,none⟩)] w (POut w P d (t :: r) fun s => ∃ s',Par true (.bin 0) d r s' ∧ s = closeR s') := by
 have HP := hid h; have HB := hid hB; have HXP := hid hXP
 clear h hB hXP
 go_enter Tryz.func118,Tryz.ntmps118
 go_wp2_with fail
 refine (take_any P d t r _ HP.out).mono ?_
 rintro e w1 ⟨rfl,hk1,hp1⟩
 have HK1 := hid hk1; have HP1 := hid hp1
 have hX1 := hk1.cell (p := ⟨X,0,none⟩) HXP.out hX
 clear hk1 hp1 hX
 unfold Tok.v
 go_wp2_with fail
 refine (HB.out w1 HK1.out HP1.out).mono ?_
 rintro e w2 ⟨hk2,rs,hr,hm⟩
 have HK2 := hid (HK1.out.trans hk2)
 have hX2 := hk2.cell (p := ⟨X,0,none⟩) HXP.out hX1
 cases rs with
 | error f =>
   simp only at hm
   unfold qbr at hm
   subst hm
   exact ⟨rfl,HK2.out,.error f,⟨.error f,hr,rfl⟩,rfl⟩
 | ok x =>
   obtain ⟨v,rfl,hn2,hp2,he2,hl2⟩ := hm
   obtain ⟨y,l2⟩ := x
   simp only at hn2 hp2 he2 hl2
   obtain ⟨t2,r2,rfl,htk2,hen2⟩ := he2.cons
   have HN2 := hid hn2; have HP2 := hid hp2; have HL2 := hid hl2; have HR2 := hid hr; have HTK2 := hid htk2; have HEN2 := hid hen2
   clear hn2 hp2 hl2 hr hk2 htk2 hen2 he2 hX1
   go_wp2_with fail
   refine (must_any P d t2 r2 [41] _ HP2.out).mono ?_
   rintro e w3 ⟨hk3,hm3⟩
   have HK3 := hid (HK2.out.trans hk3)
   have HN3 := hid (qbh.mono (fun b _ h => (⟨h.1,Nat.le_trans HK1.out.size h.2⟩ : b ≠ P ∧ w.heap.size ≤ b)) _ _ (qbh.kept hk3 (fun _ h => h.1) _ _ HN2.out))
   cases hw : isW t2 [41] with
   | true =>
     rw [if_pos hw] at hm3
     obtain ⟨rfl,hp3⟩ := hm3
     have HP3 := hid hp3; have HW := hid hw
     clear hk3 hp3 hw
     go_wp2_with fail
     refine bodyPost_ret (results_tmp rfl _ _ _) rfl ⟨HK3.out,.ok (y,r2),⟨.ok (y,t2 :: r2),HR2.out,?_⟩,v,rfl,HN3.out,HP3.out,HEN2.out (sign_k HTK2.out (by decide) HW.out),by have := HL2.out; simp only [List.length_cons] at this ⊢; omega⟩
     have hw : isW (hdT (t2 :: r2)) qbl = true := HW.out
     unfold closeR
     simp only
     rw [if_pos hw]
     rfl
   | false =>
     rw [if_neg (by rw [hw]; simp)] at hm3
     have HW := hid hw
     unfold qbr at hm3
     subst hm3
     simp only [Exit.then,Exit.inBlock]
     refine ⟨rfl,HK3.out,.error (1,t2.p),⟨.ok (y,t2 :: r2),HR2.out,?_⟩,rfl⟩
     have hw : ¬ isW (hdT (t2 :: r2)) qbl = true := by show ¬ isW t2 [41] = true; rw [HW.out]; simp
     unfold closeR
     simp only
     rw [if_neg hw]
     rfl
end Go.Proofs.YtgajofkeidjbgaaGreatDoor
namespace Go.Proofs.YtgajofkeidjbgaaGreatDoor
set_option linter.unusedSimpArgs false
set_option linter.unusedVariables false
set_option maxRecDepth 100000
open Go.RowKit
theorem prim1_any (P X Y d : Nat) (ft : Tok) (l : List Tok) (R : Res → Prop) (w : World) (hX : w.cell? ⟨X,0,none⟩ = some (.pointer (some ⟨P,0,none⟩))) (hY : TokObj w Y ft.k ft.t ft.p)
  (hC : Calls Tryz.prog 117 #[.pointer (some ⟨P,0,none⟩),ft.v] w (POut w P d l R)) :
  Calls Tryz.prog 116 #[.pointer (some ⟨X,0,none⟩),.pointer (some ⟨Y,0,none⟩)] w (POut w P d l R) := by
 have HC := hid hC
 have y0 := qac (i := 0) hY rfl
 have y1 := qac (i := 1) hY rfl
 have y2 := qac (i := 2) hY rfl
 have hx := qad hX
 have hy := qad y0
 clear hC hY
 go_enter Tryz.func116,Tryz.ntmps116
 go_wp2_with fail
 refine HC.out.mono ?_
 rintro e w' ⟨k,rs,hr,hm⟩
 cases rs with
 | error f =>
   simp only at hm
   unfold qbr at hm
   subst hm
   exact ⟨rfl,k,.error f,hr,rfl⟩
 | ok x =>
   obtain ⟨v,rfl,hm⟩ := hm
   have HK := hid k; have HR := hid hr; have HM := hid hm
   clear k hr hm
   go_wp2_with fail
   exact bodyPost_ret (results_tmp rfl _ _ _) rfl ⟨HK.out,.ok x,HR.out,v,rfl,HM.out⟩
end Go.Proofs.YtgajofkeidjbgaaGreatDoor
namespace Go.Proofs.YtgajofkeidjbgaaGreatDoor
set_option linter.unusedSimpArgs false
set_option linter.unusedVariables false
open Go Go.RowKit
theorem par_args_close {f : List UInt8} {p d : Nat} {acc : List Ex} {t : Tok} {r : List Tok} (h : isW t qbl = true) : Par true (.args f p acc) d (t :: r) (.ok (.call f p acc,r)) := by
 have h' : isW (hdT (t :: r)) qbl = true := h
 exact ⟨1,by unfold qai; rw [if_pos h']; rfl⟩
theorem par_args_bad {f : List UInt8} {p d : Nat} {acc : List Ex} {t : Tok} {r : List Tok} (h : isW t qbl = false) (ha : acc ≠ []) (hc : isW t qdz = false) : Par true (.args f p acc) d (t :: r) (.error (1,t.p)) := by
 have h' : ¬ isW (hdT (t :: r)) qbl = true := by show ¬ isW t qbl = true; rw [h]; simp
 have h2 : acc ≠ [] ∧ ¬ isW (hdT (t :: r)) qdz = true := ⟨ha,by show ¬ isW t qdz = true; rw [hc]; simp⟩
 exact ⟨1,by unfold qai; rw [if_neg h',if_pos h2]; rfl⟩
theorem par_args_err {f : List UInt8} {p d : Nat} {acc : List Ex} {t : Tok} {r : List Tok} {e : Fault} (h : isW t qbl = false) (hc : acc = [] ∨ isW t qdz = true) (hb : Par true (.bin 0) d (if acc = [] then t :: r else r) (.error e)) : Par true (.args f p acc) d (t :: r) (.error e) := by
 have h' : ¬ isW (hdT (t :: r)) qbl = true := by show ¬ isW t qbl = true; rw [h]; simp
 have h2 : ¬ (acc ≠ [] ∧ ¬ isW (hdT (t :: r)) qdz = true) := fun hx => by
  rcases hc with hc | hc
  ·exact hx.1 hc
  ·exact hx.2 hc
 obtain ⟨n,hn⟩ := hb
 exact ⟨n + 1,by unfold qai; rw [if_neg h',if_neg h2,show topJ true = .bin 0 from rfl,show (t :: r).tail = r from rfl,hn]; rfl⟩
theorem par_args_go {f : List UInt8} {p d : Nat} {acc : List Ex} {t : Tok} {r l : List Tok} {x : Ex} {s : Res} (h : isW t qbl = false) (hc : acc = [] ∨ isW t qdz = true) (hb : Par true (.bin 0) d (if acc = [] then t :: r else r) (.ok (x,l)))
  (hs : Par true (.args f p (acc ++ [x])) d l s) : Par true (.args f p acc) d (t :: r) s := by
 have h' : ¬ isW (hdT (t :: r)) qbl = true := by show ¬ isW t qbl = true; rw [h]; simp
 have h2 : ¬ (acc ≠ [] ∧ ¬ isW (hdT (t :: r)) qdz = true) := fun hx => by
  rcases hc with hc | hc
  ·exact hx.1 hc
  ·exact hx.2 hc
 obtain ⟨n,e1,e2⟩ := hb.both hs
 exact ⟨n + 1,by unfold qai; rw [if_neg h',if_neg h2,show topJ true = .bin 0 from rfl,show (t :: r).tail = r from rfl,e1]; exact e2⟩
theorem par_bin_un {d : Nat} {l : List Tok} {s : Res} (h : Par true .un d l s) : Par true (.bin 5) d l s := by
 obtain ⟨n,hn⟩ := h
 exact ⟨n + 1,by unfold qai; rw [if_pos (by omega)]; exact hn⟩
theorem par_bin_not {d : Nat} {t : Tok} {r : List Tok} (h : isW t notW = true) {s : Res} (hs : if 12 < d + 1 then s = .error (4,t.p) else ∃ s',Par true (.bin 2) (d + 1) r s' ∧ s = match s' with
   | .error f => .error f
   | .ok x => .ok (.un false t.p x.1,x.2)) : Par true (.bin 2) d (t :: r) s := by
 have h' : 2 = 2 ∧ isW (hdT (t :: r)) notW = true := ⟨rfl,h⟩
 by_cases hd : 12 < d + 1
 ·rw [if_pos hd] at hs
  subst hs
  exact ⟨1,by unfold qai; rw [if_neg (by omega),if_pos h',if_pos hd]; rfl⟩
 ·rw [if_neg hd] at hs
  obtain ⟨s',⟨n,hn⟩,rfl⟩ := hs
  refine ⟨n + 1,?_⟩
  unfold qai
  rw [if_neg (by omega),if_pos h',if_neg hd,show (t :: r).tail = r from rfl,hn]
  cases s' <;> rfl
theorem par_bin_err {L d : Nat} {l : List Tok} {e : Fault} (hL : L < 5) (hn : ¬ (L = 2 ∧ isW (hdT l) notW = true)) (h : Par true (.bin (L + 1)) d l (.error e)) : Par true (.bin L) d l (.error e) := by
 obtain ⟨n,h⟩ := h
 exact ⟨n + 1,by unfold qai; rw [if_neg (by omega),if_neg hn,h]; rfl⟩
theorem par_bin_go {L d : Nat} {l r : List Tok} {x : Ex} {s : Res} (hL : L < 5) (hn : ¬ (L = 2 ∧ isW (hdT l) notW = true)) (h : Par true (.bin (L + 1)) d l (.ok (x,r))) (hs : Par true (.loop L x) d r s) : Par true (.bin L) d l s := by
 obtain ⟨n,e1,e2⟩ := h.both hs
 exact ⟨n + 1,by unfold qai; rw [if_neg (by omega),if_neg hn,e1]; exact e2⟩
theorem par_loop_end {L d : Nat} {l : List Tok} {x : Ex} (h : (qaw L).any (isW (hdT l)) = false) : Par true (.loop L x) d l (.ok (x,l)) := ⟨1,by unfold qai; rw [if_neg (by rw [h]; simp)]; rfl⟩
theorem par_loop_err {L d : Nat} {t : Tok} {r : List Tok} {x : Ex} {e : Fault} (h : (qaw L).any (isW t) = true) (hb : Par true (.bin (L + 1)) d r (.error e)) : Par true (.loop L x) d (t :: r) (.error e) := by
 have h' : (qaw L).any (isW (hdT (t :: r))) = true := h
 obtain ⟨n,hn⟩ := hb
 exact ⟨n + 1,by unfold qai; rw [if_pos h',show (t :: r).tail = r from rfl,hn]; rfl⟩
theorem par_loop_go {L d : Nat} {t : Tok} {r l : List Tok} {x y : Ex} {s : Res} (h : (qaw L).any (isW t) = true) (hb : Par true (.bin (L + 1)) d r (.ok (y,l)))
  (hs : if L = 2 then s = .ok (.bin t.t t.p x y,l) else Par true (.loop L (.bin t.t t.p x y)) d l s) : Par true (.loop L x) d (t :: r) s := by
 have h' : (qaw L).any (isW (hdT (t :: r))) = true := h
 by_cases h2 : L = 2
 ·rw [if_pos h2] at hs
  subst hs
  obtain ⟨n,hn⟩ := hb
  refine ⟨n + 1,?_⟩
  unfold qai
  rw [if_pos h',show (t :: r).tail = r from rfl,hn]
  show (if L = 2 then _ else _) = _
  rw [if_pos h2]
  rfl
 ·rw [if_neg h2] at hs
  obtain ⟨n,e1,e2⟩ := hb.both hs
  refine ⟨n + 1,?_⟩
  unfold qai
  rw [if_pos h',show (t :: r).tail = r from rfl,e1]
  show (if L = 2 then _ else _) = _
  rw [if_neg h2]
  exact e2
end Go.Proofs.YtgajofkeidjbgaaGreatDoor
namespace Go.Proofs.YtgajofkeidjbgaaGreatDoor
set_option linter.unusedSimpArgs false
set_option linter.unusedVariables false
set_option maxHeartbeats 2000000
set_option maxRecDepth 100000
open Go.RowKit
theorem idxb (x0 : Value) (F : FuncId) (hent : ∀ args w,(callFunc F args).run Tryz.prog w = .ok (.enter F args) w) (b off c : Nat) (xs : List (List UInt8)) (w : World) (q : List UInt8 → Bool) (I : World → Prop) (T : List UInt8 → World → Prop)
  (hI : ∀ w',I w' → qdh w' b off xs) (hw : I w) (hlen : xs.length ≤ 1048576)
  (hF : ∀ x ∈ xs,∀ w',I w' → Calls Tryz.prog F (#[x0,.string (qah x)]) w' fun e w'' => e = .returned (.bool (q x)) ∧ (q x = false → I w'') ∧ (q x = true → T x w'')) :
  Calls Tryz.prog 66 #[.slice (some ⟨b,off,none⟩) xs.length c,.func (.func F) #[x0] #[]] w (Found xs q I T) := by
 have HI := hid hI; have HW := hid hw; have HLN := hid hlen; have HF := hid hF
 clear hI hw hlen hF
 go_enter Tryz.func66,Tryz.ntmps66
 go_wp2_with fail
 obtain ⟨R1,hR1⟩ : ∃ RR_ : (Nat → Value) → World → Prop,RR_ = (fun us wx => ∃ k : Nat,us 8 = .int .i64 k ∧ k ≤ xs.length ∧ I wx ∧ ∀ j (h : j < xs.length),j < k → q xs[j] = false) := ⟨_,rfl⟩
 obtain ⟨mu1,hmu1⟩ : ∃ mu : (Nat → Value) → World → Nat,mu = (fun us _ => xs.length - (intOf (us 8)).toNat) := ⟨_,rfl⟩
 have HR1 := hid hR1; have Hmu1 := hid hmu1; clear hR1 hmu1
 refine qal [ff,ff,ff,ff,true,true,ff,ff,true,true,true,true,true,true,true,true,true,true,true] R1 _ mu1 HR1.out ?_ ?_
 ·exact ⟨0,rfl,Nat.zero_le _,HW.out,fun j h h0 => by omega⟩
 intro us1 wx hrel
 obtain ⟨k,h8,hk,hL,hall⟩ := hrel
 simp only [qao,Nat.reduceAdd,h8]
 have Hh8 := hid h8; clear h8
 have HL := hid hL; have HK := hid hk; have HA := hid hall
 clear hL hk hall
 by_cases hlt : k < xs.length
 ·have HLT := hid hlt
  have p1 := HI.out _ HL.out k hlt
  have hg := qad p1
  have HWK : Hid (wrap64 ((k : Int) + 1) = ((k + 1 : Nat) : Int)) := hid (by have := HLT.out; have := HLN.out; unfold wrap64; omega)
  obtain ⟨y,hy⟩ : ∃ y,xs[k]'HLT.out = y := ⟨_,rfl⟩
  have HY := hid hy
  have HM : Hid (y ∈ xs) := hid (hy ▸ List.getElem_mem _)
  rw [hy] at p1
  clear hy
  go_wp2_with fail
  refine (HF.out y HM.out _ HL.out).mono ?_
  rintro e w1 ⟨rfl,h0,h1⟩
  cases hq : q y with
  | true =>
    have HT := hid (h1 hq)
    have HQ : Hid (q (xs[k]'HLT.out) = true) := hid (by rw [HY.out]; exact hq)
    clear hq h0 h1 p1
    go_wp2_with fail
    go_ret
    exact .inr ⟨k,HLT.out,rfl,HQ.out,by rw [HY.out]; exact HT.out,fun j h hj => HA.out j h hj⟩
  | false =>
    have HT := hid (h0 hq)
    have HQ : Hid (q (xs[k]'HLT.out) = false) := hid (by rw [HY.out]; exact hq)
    clear hq h0 h1 p1
    go_wp2_with fail
    try simp only [HWK.out]
    refine Round.mk' HR1.out Hmu1.out rfl ?_ ?_
    ·refine ⟨k + 1,rfl,HLT.out,HT.out,fun j h hj => ?_⟩
     by_cases hjk : j = k
     ·subst hjk; exact HQ.out
     ·exact HA.out j h (by omega)
    ·rw [Hh8.out]; have := HLT.out; simp [intOf,qas]; omega
 ·go_wp2_with fail
  go_ret
  exact .inl ⟨rfl,HL.out,fun x hx => by obtain ⟨j,hj,rfl⟩ := List.getElem_of_mem hx; exact HA.out j hj (by omega)⟩
end Go.Proofs.YtgajofkeidjbgaaGreatDoor
