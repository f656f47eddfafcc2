/-
  PROVED HERE: a part of the proof of ExprEvals: ExprEvalsWalk.
-/
import Derived.Test.YtgajofkeidjbgaaGreatDoorGCompile
import Derived.Test.YtgajofkeidjbgaaGreatDoorGFits
import Derived.Test.YtgajofkeidjbgaaGreatDoorGRFits
import Derived.Test.YtgajofkeidjbgaaGreatDoorGREval
namespace Go.Proofs.YtgajofkeidjbgaaGreatDoor
set_option linter.unusedSimpArgs false
set_option linter.unusedVariables false
set_option maxHeartbeats 8000000
set_option maxRecDepth 100000
open Go Go.RowKit Go.Deep
attribute [local go_sem high] qdq qdp
theorem qdr.of_ok {x : Val} (h : ValOk x) : qdr x := by
 have := h.2.1
 simp [Lit.wf,IntKind.min,IntKind.max,IntKind.bits,IntKind.signed] at this
 unfold qdr
 omega
theorem row_argE {W : World} {v : Value} {l : List Val} (h : qcx W v l) (hg : ∀ x ∈ l,ValOk x) (hb : l.length * 32 ≤ reachBytes) : ∃ ao c,v = .slice ao l.length c ∧ RowArg W ao c l := by
 have h' := h
 obtain ⟨a,c,hv,hl,hc,hn,he⟩ := h
 exact ⟨a,c,hv,by rw [← hv]; exact h',by unfold reachBytes at hb; omega,fun x hx => qdr.of_ok (hg x hx)⟩
theorem evals_walk (s : List UInt8) (ao rao : Option Addr) (c rc : Nat) (cs : List Col) (row : List Val) (w : World) (hE : qea w) (hT : PowTab w) (hS : qdx w) (hG : Laid w) (ha : ColsArg w ao c cs) (hra : RowArg w rao rc row) :
  Calls Tryz.prog 6 #[.string (qah s),.slice ao cs.length c,.slice rao row.length rc] w fun e w' => e = .returned (.bool true) ∧ qag w w' := by
 have HG := hid hG; have HA := hid ha; have HRA := hid hra
 have H := hid (eval_any s ao c cs rao rc row w hE hT hS ha hra)
 clear hE hT hS hG ha hra
 go_enter Tryz.func6,Tryz.ntmps6
 go_wp2_with fail
 refine H.out.mono ?_
 rintro e w1 ⟨hL1,r,hr,hm⟩
 have HL1 := hid hL1; have HR := hid hr
 have HOK : Hid (∀ x,TextR false s (.ok x) → qef x ∧ qbj x ≤ 1000000) := hid fun x hx => by
  have h := text_agree hr hx
  rw [h] at hr
  exact ⟨text_ok hr,Nat.le_trans (text_cost hr) (by omega)⟩
 have HZZ : Hid (eqV ⟨0,0,⟨#[]⟩⟩ ⟨0,0,⟨#[]⟩⟩ = true) := hid (by decide +kernel)
 cases hc : qep cs r with
 | error f =>
   have hev : evalR cs row r = .error f.1 := by unfold evalR; rw [hc]
   rw [hev] at hm
   obtain rfl := hm
   have HC := hid hc
   unfold errV
   clear hc hr hL1 hev
   rw [show Val.v qaa = .agg #[.int .i64 0,.int .i64 0,.string ⟨#[]⟩] from rfl]
   go_upto_region 2 with (fail)
   obtain ⟨A2,hA2⟩ : ∃ A,A = w1.heap.size := ⟨_,rfl⟩
   obtain ⟨w2,hw2⟩ : ∃ x,x = w1.alloc (.cells #[.int .i64 0,.int .i64 0,.string ⟨#[]⟩] 38) := ⟨_,rfl⟩
   have hL2 : qag w1 w2 := hw2 ▸ qag.alloc _ _
   have HB2 : Hid (qcm w2 A2 qaa) := hid (by unfold qcm; rw [hw2,hA2]; exact qap _ _)
   rw [← hw2,← hA2]
   have HL2 := hid (qag.trans _ _ _ HL1.out hL2)
   clear hA2 hw2 hL2
   go_wp2_with fail
   refine (rcheck_any s ao c cs w2 (HA.out.later HL2.out) HOK.out).mono ?_
   rintro e w3 ⟨hL3,r',hr',hm'⟩
   obtain rfl := text_agree HR.out hr'
   rw [HC.out] at hm'
   obtain ⟨p,rfl,hne⟩ := hm'
   have HL3 := hid (qag.trans _ _ _ HL2.out hL3); have HB3 := hid (HB2.out.later hL3)
   have hn1 : (f.1 == 0) = false := by simpa using hne
   have hn2 : (f.1 != 0) = true := by simpa using hne
   clear hL3 hr' hne
   go_wp2_with fail
   refine (told_errno f.1 w3 (HG.out.later HL3.out)).mono ?_
   rintro e w4 ⟨rfl,hL4⟩
   have HL4 := hid (qag.trans _ _ _ HL3.out hL4)
   have b0 : w4.cell? ⟨A2,0,none⟩ = some (.int .i64 0) := qac (i := 0) (HB3.out.later hL4) rfl
   have b1 : w4.cell? ⟨A2,1,none⟩ = some (.int .i64 0) := qac (i := 1) (HB3.out.later hL4) rfl
   have b2 : w4.cell? ⟨A2,2,none⟩ = some (.string ⟨#[]⟩) := qac (i := 2) (HB3.out.later hL4) rfl
   have bl := qad b0
   have hzz := HZZ.out
   clear hL4
   go_wp2_with fail
   exact bodyPost_ret (results_tmp rfl _ _ _) rfl ⟨by simp,HL4.out⟩
 | ok kx =>
   obtain ⟨rfl,hcp,hkp⟩ := check_ok hc
   have HC := hid hc; have HCP := hid hcp; have HKP := hid hkp
   obtain ⟨fb,hfb⟩ : ∃ b,fitsP cs row = b := ⟨_,rfl⟩
   have HFB := hid hfb
   cases fb with
   | false =>
     have hev : evalR cs row (.ok kx.2) = .error 4 := by unfold evalR; rw [hc]; simp only; rw [if_neg (by rw [hfb]; simp)]
     rw [hev] at hm
     obtain rfl := hm
     unfold errV
     clear hc hr hL1 hev hcp hkp hfb
     rw [show Val.v qaa = .agg #[.int .i64 0,.int .i64 0,.string ⟨#[]⟩] from rfl]
     go_upto_region 2 with (fail)
     obtain ⟨A2,hA2⟩ : ∃ A,A = w1.heap.size := ⟨_,rfl⟩
     obtain ⟨w2,hw2⟩ : ∃ x,x = w1.alloc (.cells #[.int .i64 0,.int .i64 0,.string ⟨#[]⟩] 38) := ⟨_,rfl⟩
     have hL2 : qag w1 w2 := hw2 ▸ qag.alloc _ _
     have HB2 : Hid (qcm w2 A2 qaa) := hid (by unfold qcm; rw [hw2,hA2]; exact qap _ _)
     rw [← hw2,← hA2]
     have HL2 := hid (qag.trans _ _ _ HL1.out hL2)
     clear hA2 hw2 hL2
     go_wp2_with fail
     refine (rcheck_any s ao c cs w2 (HA.out.later HL2.out) HOK.out).mono ?_
     rintro e w3 ⟨hL3,r',hr',hm'⟩
     obtain rfl := text_agree HR.out hr'
     rw [HC.out] at hm'
     obtain ⟨B,rfl,hx3⟩ := hm'
     have HOX := hid (HOK.out _ hr')
     have HX3 := hid hx3
     have HL3 := hid (qag.trans _ _ _ HL2.out hL3); have HB3 := hid (HB2.out.later hL3)
     clear hL3 hr' hx3
     go_wp2_with fail
     refine (told_errno 4 w3 (HG.out.later HL3.out)).mono ?_
     rintro e w4 ⟨rfl,hL4⟩
     have HL4 := hid (qag.trans _ _ _ HL3.out hL4); have HB4 := hid (HB3.out.later hL4)
     have HX4 := hid (EIn.kept (hL4.keeps (fun _ => True)) (fun _ _ => trivial) _ _ HX3.out)
     clear hL4
     go_wp2_with fail
     refine (rfits_any rao rc row ao c cs w4 (HRA.out.later HL4.out).el (HA.out.later HL4.out).el ⟨HRA.out.len,HA.out.cap.2⟩).mono ?_
     rintro e w5 ⟨rfl,hL5⟩
     rw [HFB.out]
     have HL5 := hid (qag.trans _ _ _ HL4.out hL5)
     have b0 : w5.cell? ⟨A2,0,none⟩ = some (.int .i64 0) := qac (i := 0) (HB4.out.later hL5) rfl
     have b1 : w5.cell? ⟨A2,1,none⟩ = some (.int .i64 0) := qac (i := 1) (HB4.out.later hL5) rfl
     have b2 : w5.cell? ⟨A2,2,none⟩ = some (.string ⟨#[]⟩) := qac (i := 2) (HB4.out.later hL5) rfl
     have bl := qad b0
     have hzz := HZZ.out
     clear hL5
     go_wp2_with fail
     exact bodyPost_ret (results_tmp rfl _ _ _) rfl ⟨by simp,HL5.out⟩
   | true =>
     have hev : evalR cs row (.ok kx.2) = .ok (qby cs row kx.2) := by unfold evalR; rw [hc]; simp only; rw [if_pos hfb]
     rw [hev] at hm
     obtain rfl := hm
     have HRE := hid fun B w' h1 h2 h3 h4 h5 h6 => rec_all cs row kx.2 kx.1 B (fun _ => True) ao c rao rc w' h1 h2 HA.out.cap.2 (colsP_ok hcp) h3 (fits_ok hfb HRA.out.ok) h4 h5 h6
     obtain ⟨y,hy⟩ : ∃ y,qby cs row kx.2 = y := ⟨_,rfl⟩
     rw [hy] at HRE ⊢
     clear hc hr hL1 hev hcp hkp hfb hy
     rw [vv y]
     go_upto_region 2 with (fail)
     obtain ⟨A2,hA2⟩ : ∃ A,A = w1.heap.size := ⟨_,rfl⟩
     obtain ⟨w2,hw2⟩ : ∃ x,x = w1.alloc (.cells #[.int .i64 y.k,.int .i64 y.n,.string y.t] 38) := ⟨_,rfl⟩
     have hL2 : qag w1 w2 := hw2 ▸ qag.alloc _ _
     have HB2 : Hid (qcm w2 A2 y) := hid (by unfold qcm; rw [hw2,hA2]; exact qap _ _)
     rw [← hw2,← hA2]
     have HL2 := hid (qag.trans _ _ _ HL1.out hL2)
     clear hA2 hw2 hL2
     go_wp2_with fail
     refine (rcheck_any s ao c cs w2 (HA.out.later HL2.out) HOK.out).mono ?_
     rintro e w3 ⟨hL3,r',hr',hm'⟩
     obtain rfl := text_agree HR.out hr'
     rw [HC.out] at hm'
     obtain ⟨B,rfl,hx3⟩ := hm'
     have HOX := hid (HOK.out _ hr')
     have HX3 := hid hx3
     have HL3 := hid (qag.trans _ _ _ HL2.out hL3); have HB3 := hid (HB2.out.later hL3)
     clear hL3 hr' hx3
     go_wp2_with fail
     refine (told_nil w3).mono ?_
     rintro e w4 ⟨rfl,hL4⟩
     have HL4 := hid (qag.trans _ _ _ HL3.out hL4); have HB4 := hid (HB3.out.later hL4)
     have HX4 := hid (EIn.kept (hL4.keeps (fun _ => True)) (fun _ _ => trivial) _ _ HX3.out)
     clear hL4
     go_wp2_with fail
     refine (rfits_any rao rc row ao c cs w4 (HRA.out.later HL4.out).el (HA.out.later HL4.out).el ⟨HRA.out.len,HA.out.cap.2⟩).mono ?_
     rintro e w5 ⟨rfl,hL5⟩
     rw [HFB.out]
     have HL5 := hid (qag.trans _ _ _ HL4.out hL5)
     have HB5 := hid (HB4.out.later hL5)
     have HX5 := hid (EIn.kept (hL5.keeps (fun _ => True)) (fun _ _ => trivial) _ _ HX4.out)
     clear hL5
     go_wp2_with fail
     refine (HRE.out B w5 HX5.out (HA.out.later HL5.out).el (HRA.out.later HL5.out).el HOX.out.1 HOX.out.2 HKP.out).mono ?_
     rintro e w6 ⟨rfl,hL6⟩
     rw [vv y]
     go_upto_region 10 with (fail)
     obtain ⟨A7,hA7⟩ : ∃ A,A = w6.heap.size := ⟨_,rfl⟩
     obtain ⟨w7,hw7⟩ : ∃ x,x = w6.alloc (.cells #[.int .i64 y.k,.int .i64 y.n,.string y.t] 38) := ⟨_,rfl⟩
     have hL7 : qag w6 w7 := hw7 ▸ qag.alloc _ _
     have hO7 : qcm w7 A7 y := by unfold qcm; rw [hw7,hA7]; exact qap _ _
     rw [← hw7,← hA7]
     have HL7 := hid (qag.trans _ _ _ HL5.out (qag.trans _ _ _ hL6 hL7))
     obtain ⟨b0,b1,b2,-,-,-,bl⟩ := ((HB5.out.later hL6).later hL7).cells
     obtain ⟨d0,d1,d2,-,-,-,dl⟩ := hO7.cells
     have hyy : eqV ⟨y.k,y.n,y.t⟩ ⟨y.k,y.n,y.t⟩ = true := (eqV_dec y y).trans (by simp)
     clear hA7 hw7 hL7 hO7 hL6
     go_wp2_with fail
     exact bodyPost_ret (results_tmp rfl _ _ _) rfl ⟨by simp,HL7.out⟩
theorem evals_str (s : ByteArray) (cs : List Col) (row : List Val) (v u : Value) (w : World) (h : SliceOf All ColC 2 w v cs) (hg : ∀ x ∈ cs,ColGood x) (hb : cs.length * 24 ≤ reachBytes) (hr : qcx w u row) (hrg : ∀ x ∈ row,ValOk x) (hrb : row.length * 32 ≤ reachBytes)
  (hE : qea w) (hT : PowTab w) (hS : qdx w) (hG : Laid w) : Calls Tryz.prog 6 #[.string s,v,u] w fun e w' => e = .returned (.bool true) ∧ qag w w' := by
 obtain ⟨ao,c,rfl,ha⟩ := cols_arg h hg hb
 obtain ⟨rao,rc,rfl,hra⟩ := row_argE hr hrg hrb
 have h := evals_walk s.data.toList ao rao c rc cs row w hE hT hS hG ha hra
 rw [strB_data] at h
 exact h
end Go.Proofs.YtgajofkeidjbgaaGreatDoor
