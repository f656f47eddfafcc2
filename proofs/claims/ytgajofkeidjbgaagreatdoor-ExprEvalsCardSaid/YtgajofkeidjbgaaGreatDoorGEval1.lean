/-
  PROVED HERE: a part of the proof of ExprEvals: Eval1.
-/
import Derived.Test.YtgajofkeidjbgaaGreatDoorShort
import Derived.Test.YtgajofkeidjbgaaGreatDoorGCompV
import Derived.Test.YtgajofkeidjbgaaGreatDoorGExprKind
import Derived.Test.YtgajofkeidjbgaaGreatDoorGRefQuote
import Derived.Test.YtgajofkeidjbgaaGreatDoorGRefCall
import Derived.Test.YtgajofkeidjbgaaGreatDoorGRefE
import Derived.Test.YtgajofkeidjbgaaGreatDoorGUnquote
import Derived.Test.YtgajofkeidjbgaaGreatDoorGApp
import Derived.Deep.RegionHeld
namespace Go.Proofs.YtgajofkeidjbgaaGreatDoor
set_option linter.unusedSimpArgs false
set_option linter.unusedVariables false
set_option maxHeartbeats 8000000
set_option maxRecDepth 100000
open Go.RowKit
theorem eqV_dec (x y : Val) : eqV x y = decide (x = y) := by rw [Bool.eq_iff_iff,eqV_iff]; simp
theorem qbo (a b : Int) : (a == b) = decide (a = b) := by rw [Bool.eq_iff_iff]; simp
theorem vv (x : Val) : x.v = .agg #[.int .i64 x.k,.int .i64 x.n,.string x.t] := rfl
theorem qcm.cells {w : World} {R : Nat} {x : Val} (h : qcm w R x) : w.cell? ⟨R,0,none⟩ = some (.int .i64 x.k) ∧ w.cell? ⟨R,1,none⟩ = some (.int .i64 x.n) ∧ w.cell? ⟨R,2,none⟩ = some (.string x.t) ∧ w.frozen? ⟨R,0,none⟩ = false ∧ w.frozen? ⟨R,1,none⟩ = false ∧ w.frozen? ⟨R,2,none⟩ = false ∧ R < w.heap.size :=
 ⟨qac (i := 0) h rfl,qac (i := 1) h rfl,qac (i := 2) h rfl,qaq h,qaq h,qaq h,qch h⟩
theorem qaf {fn : Func} {t : Tmp} (h : fn.results = #[.cell t 38]) {tmps : Array Value} {w : World} {R : Nat} {x : Val} (ht : tmps.getD t undef = .pointer (some ⟨R,0,none⟩)) (hv : qcm w R x) : (results fn tmps).run Tryz.prog w = .ok x.v w := by
 obtain ⟨h0,h1,h2,-⟩ := hv.cells
 have ht' : tmps[t]?.getD undef = .pointer (some ⟨R,0,none⟩) := by simpa using ht
 simp [results,h,ht',go_sem,h0,h1,h2,vv]
theorem set_later {w w' : World} {R : Nat} (h : qag w w') (hR : w.heap.size ≤ R) (x : Val) : qag w (setV w' R x) := qae h hR x
structure Box3 (w0 w : World) (A B R : Nat) (a b : Val) : Prop where
 later : qag w0 w
 a : qcm w A a
 b : qcm w B b
 r : qcm w R qaa
 new : w0.heap.size ≤ R
theorem Box3.go {w0 w w' : World} {A B R : Nat} {a b : Val} (h : Box3 w0 w A B R a b) (k : qag w w') : Box3 w0 w' A B R a b := ⟨qag.trans _ _ _ h.later k,h.a.later k,h.b.later k,h.r.later k,h.new⟩
attribute [local go_sem high] qdq qdp
theorem wrap_mod {a b : Int} (h : -9223372036854775808 ≤ a ∧ a ≤ 9223372036854775807) : wrap64 (a.tmod b) = a.tmod b := by
 have h1 : (a.tmod b).natAbs ≤ a.natAbs := by rw [Int.natAbs_tmod]; exact Nat.mod_le _ _
 have h2 : 0 ≤ a → 0 ≤ a.tmod b := fun h => Int.tmod_nonneg b h
 have h3 : 0 ≤ -a → 0 ≤ -(a.tmod b) := fun h => by rw [← Int.neg_tmod]; exact Int.tmod_nonneg b h
 generalize a.tmod b = r at *
 unfold wrap64
 omega
theorem cat_take (s t : ByteArray) : (s ++ t).extract 0 (min ((s.size : Int) + (t.size : Int)) 60).toNat = qah ((s.data.toList ++ t.data.toList).take 60) := by
 have e : (s ++ t).extract 0 (min ((s.size : Int) + (t.size : Int)) 60).toNat = qah (((s ++ t).data.toList).take (min ((s.size : Int) + (t.size : Int)) 60).toNat) := by
  conv => lhs; rw [← strB_data (s ++ t)]
  rw [qdi,List.drop_zero,Nat.sub_zero]
 rw [e,ByteArray.data_append,Array.toList_append]
 congr 1
 have h1 : (s.data.toList ++ t.data.toList).length = s.size + t.size := by rw [List.length_append]; rfl
 by_cases h : s.size + t.size ≤ 60
 ·rw [List.take_of_length_le (by omega),List.take_of_length_le (by omega)]
 ·congr 1; omega
theorem box_new4 {w w4 : World} {a b d : Val} (h : w4 = (((w.alloc (.cells #[.int .i64 a.k,.int .i64 a.n,.string a.t] 38)).alloc (.cells #[.int .i64 b.k,.int .i64 b.n,.string b.t] 38)).alloc (.cells #[.int .i64 d.k,.int .i64 d.n,.string d.t] 38)).alloc (.cells #[.int .i64 0,.int .i64 0,.string ⟨#[]⟩] 38)) :
  qag w w4 ∧ qcm w4 w.heap.size a ∧ qcm w4 (w.heap.size + 1) b ∧ qcm w4 (w.heap.size + 1 + 1) d ∧ qcm w4 (w.heap.size + 1 + 1 + 1) qaa := by
 subst h
 refine ⟨(((qag.alloc _ _).alloc' _).alloc' _).alloc' _,?_,?_,?_,?_⟩
 ·exact (((qag.alloc (w.alloc (.cells #[.int .i64 a.k,.int .i64 a.n,.string a.t] 38)) _).alloc' _).alloc' _).obj (qap w _)
 ·exact ((qag.alloc _ _).alloc' _).obj (qcp (by simp))
 ·exact (qag.alloc _ _).obj (qcp (by simp))
 ·exact qcp (by simp)
theorem logic_any (a b d : Val) (w : World) : Calls Tryz.prog 104 #[a.v,b.v,d.v] w (qar (logicV a b d) w) := by
 obtain ⟨q0,h0⟩ : ∃ q,eqV a d = q := ⟨_,rfl⟩
 obtain ⟨q1,h1⟩ : ∃ q,eqV b d = q := ⟨_,rfl⟩
 obtain ⟨q2,h2⟩ : ∃ q,(a.k == 0) = q := ⟨_,rfl⟩
 obtain ⟨q3,h3⟩ : ∃ q,(b.k == 0) = q := ⟨_,rfl⟩
 obtain ⟨r,hr⟩ : ∃ r,logicV a b d = r := ⟨_,rfl⟩
 have HR : Hid (r = if (q0 || q1) = true then d else if (q2 || q3) = true then qaa else a) := hid (by
  rw [← hr,← h0,← h1,← h2,← h3,eqV_dec,eqV_dec,qbo,qbo]
  unfold logicV
  simp only [Bool.or_eq_true,decide_eq_true_eq])
 rw [hr]
 clear hr
 go_enter Tryz.func104,Tryz.ntmps104
 go_upto_region 1 with (fail)
 obtain ⟨w1,hw1⟩ : ∃ w1,w1 = (((w.alloc (.cells #[.int .i64 a.k,.int .i64 a.n,.string a.t] 38)).alloc (.cells #[.int .i64 b.k,.int .i64 b.n,.string b.t] 38)).alloc (.cells #[.int .i64 d.k,.int .i64 d.n,.string d.t] 38)).alloc (.cells #[.int .i64 0,.int .i64 0,.string ⟨#[]⟩] 38) := ⟨_,rfl⟩
 obtain ⟨hL1,hA,hB,hD,hR1⟩ := box_new4 hw1
 rw [← hw1]
 clear hw1
 obtain ⟨a0,a1,a2,-,-,-,al⟩ := hA.cells
 obtain ⟨b0,b1,b2,-,-,-,bl⟩ := hB.cells
 obtain ⟨d0,d1,d2,-,-,-,dl⟩ := hD.cells
 obtain ⟨c0,c1,c2,f0,f1,f2,cl⟩ := hR1.cells
 simp only [qaa] at c0 c1 c2
 have HL1 := hid hL1; have HR1 := hid hR1
 clear hL1 hA hB hD hR1
 cases q0 with
 | true =>
   go_wp2_with fail
   refine bodyPost_ret (qaf rfl rfl (HR1.out.set d)) rfl ⟨?_,qae HL1.out (by omega) d⟩
   rw [HR.out]
   rfl
 | false =>
   cases q1 with
   | true =>
     go_wp2_with fail
     refine bodyPost_ret (qaf rfl rfl (HR1.out.set d)) rfl ⟨?_,qae HL1.out (by omega) d⟩
     rw [HR.out]
     rfl
   | false =>
     cases q2 with
     | true =>
       go_wp2_with fail
       refine bodyPost_ret (qaf rfl rfl (HR1.out.set qaa)) rfl ⟨?_,qae HL1.out (by omega) qaa⟩
       rw [HR.out]
       rfl
     | false =>
       cases q3 with
       | true =>
         go_wp2_with fail
         refine bodyPost_ret (qaf rfl rfl (HR1.out.set qaa)) rfl ⟨?_,qae HL1.out (by omega) qaa⟩
         rw [HR.out]
         rfl
       | false =>
         go_wp2_with fail
         refine bodyPost_ret (qaf rfl rfl (HR1.out.set a)) rfl ⟨?_,qae HL1.out (by omega) a⟩
         rw [HR.out]
         rfl
theorem box_new {w w4 : World} {a b : Val} (h : w4 = ((w.alloc (.cells #[.int .i64 a.k,.int .i64 a.n,.string a.t] 38)).alloc (.cells #[.int .i64 b.k,.int .i64 b.n,.string b.t] 38)).alloc (.cells #[.int .i64 0,.int .i64 0,.string ⟨#[]⟩] 38)) :
  qag w w4 ∧ qcm w4 w.heap.size a ∧ qcm w4 (w.heap.size + 1) b ∧ qcm w4 (w.heap.size + 1 + 1) qaa := by
 subst h
 refine ⟨((qag.alloc _ _).alloc' _).alloc' _,?_,?_,?_⟩
 ·exact ((qag.alloc (w.alloc (.cells #[.int .i64 a.k,.int .i64 a.n,.string a.t] 38)) _).alloc' _).obj (qap w _)
 ·exact (qag.alloc _ _).obj (qcp (by simp))
 ·exact qcp (by simp)
theorem qbk (w : World) (a b : Val) : ∃ (w1 : World) (A B R : Nat),w1 = ((w.alloc (.cells #[.int .i64 a.k,.int .i64 a.n,.string a.t] 38)).alloc (.cells #[.int .i64 b.k,.int .i64 b.n,.string b.t] 38)).alloc (.cells #[.int .i64 0,.int .i64 0,.string ⟨#[]⟩] 38) ∧
  A = w.heap.size ∧ B = w.heap.size + 1 ∧ R = w.heap.size + 1 + 1 ∧ Hid (Box3 w w1 A B R a b) ∧ Hid (A ≠ R ∧ B ≠ R) := by
 refine ⟨_,_,_,_,rfl,rfl,rfl,rfl,hid ?_,hid ⟨by omega,by omega⟩⟩
 obtain ⟨h1,h2,h3,h4⟩ := box_new (w := w) (a := a) (b := b) rfl
 exact ⟨h1,h2,h3,h4,by omega⟩
theorem bin_and (a b : Val) (w : World) : Calls Tryz.prog 91 #[.string (qah [97,110,100]),a.v,b.v] w (qar (qdk [97,110,100] a b) w) := by
 obtain ⟨sv,hsv⟩ : ∃ s,s = qah [97,110,100] := ⟨_,rfl⟩
 rw [← hsv]
 have e0 := qay [97,110,100] hsv
 clear hsv
 go_enter Tryz.func91,Tryz.ntmps91
 go_upto_region 2 with (fail)
 obtain ⟨w1,A,B,R,hw1,hA,hB,hR,HB,HN⟩ := qbk w a b
 rw [← hw1,← hR,← hB,← hA]
 clear hw1 hA hB hR
 have hS0 := (HB.out.go (qag.drew w1))
 go_upto_region 3 with (fail)
 refine wp_region_held_drew (S := fun w => qcm w A a ∧ qcm w B b) (by kernel_rfl) ⟨hS0.a,hS0.b⟩ (fun hS => ?_)
 refine tH 0 (a.v) rfl (by kernel_rfl) (fun _ _ _ h => h) ⟨by rfl,?_⟩ hS ?_
 ·rintro w ⟨h0,-⟩
  obtain ⟨h0,h1,h2,-,-,-,h3⟩ := h0.cells
  rw [vv]
  go_simp
 try simp only [Act.put,sib,List.set]
 refine tH 1 (b.v) rfl (by kernel_rfl) (fun _ _ _ h => h) ⟨by rfl,?_⟩ hS ?_
 ·rintro w ⟨-,h0⟩
  obtain ⟨h0,h1,h2,-,-,-,h3⟩ := h0.cells
  rw [vv]
  go_simp
 try simp only [Act.put,sib,List.set]
 refine wpAnyH_ready (rs := [2]) (by kernel_rfl) (by simp) (AllReadyH.cons rfl (fun K hK => ?_) AllReadyH.nil)
 go_simp
 refine (qbx false _).mono ?_
 rintro e w2 ⟨rfl,hL2⟩
 have HB2 := hid (hS0.go hL2)
 refine hK.out _ _ ⟨HB2.out.a,HB2.out.b⟩ (fun hS => ?_)
 clear hK K hS0 hL2
 try simp only [Act.put,sib,List.set]
 refine wpAnyH_ready (rs := [3]) (by kernel_rfl) (by simp) (AllReadyH.cons rfl (fun K hK => ?_) AllReadyH.nil)
 go_simp
 refine (logic_any a b (qav false) w2).mono ?_
 rintro e w3 ⟨rfl,hL3⟩
 have HB3 := hid (HB2.out.go hL3)
 refine hK.out _ _ ⟨HB3.out.a,HB3.out.b⟩ (fun hS => ?_)
 clear hK K hL3
 try simp only [Act.put,sib,List.set]
 have hbin : qdk [97,110,100] a b = logicV a b (qav false) := rfl
 obtain ⟨x,hx⟩ : ∃ x,logicV a b (qav false) = x := ⟨_,rfl⟩
 rw [hx]
 have HX := hid (hbin.trans hx)
 clear hx hbin
 obtain ⟨c0,c1,c2,f0,f1,f2,cl⟩ := HB3.out.r.cells
 simp only [qaa] at c0 c1 c2
 rw [vv x]
 refine wpAnyH_ready (rs := [4]) (by kernel_rfl) (by simp) (AllReadyH.cons rfl (fun K hK => ?_) AllReadyH.nil)
 go_simp
 refine hK.out _ _ ⟨qcm.keep HB3.out.a (Ne.symm HN.out.1),qcm.keep HB3.out.b (Ne.symm HN.out.2)⟩ (fun hS => ?_)
 clear hK K hS
 refine wpAnyH_done (by kernel_rfl) ?_ _
 clear c0 c1 c2 f0 f1 f2 cl
 go_wp2_with fail
 exact bodyPost_ret (qaf rfl rfl (HB3.out.r.set x)) rfl ⟨by rw [HX.out],qae HB3.out.later HB3.out.new x⟩
theorem bin_or (a b : Val) (w : World) : Calls Tryz.prog 91 #[.string (qah [111,114]),a.v,b.v] w (qar (qdk [111,114] a b) w) := by
 obtain ⟨sv,hsv⟩ : ∃ s,s = qah [111,114] := ⟨_,rfl⟩
 rw [← hsv]
 have e0 := qab [97,110,100] hsv (by decide)
 have e1 := qay [111,114] hsv
 clear hsv
 go_enter Tryz.func91,Tryz.ntmps91
 go_upto_region 2 with (fail)
 obtain ⟨w1,A,B,R,hw1,hA,hB,hR,HB,HN⟩ := qbk w a b
 rw [← hw1,← hR,← hB,← hA]
 clear hw1 hA hB hR
 have hS0 := (HB.out.go (qag.drew w1))
 go_upto_region 5 with (fail)
 refine wp_region_held_drew (S := fun w => qcm w A a ∧ qcm w B b) (by kernel_rfl) ⟨hS0.a,hS0.b⟩ (fun hS => ?_)
 refine tH 0 (a.v) rfl (by kernel_rfl) (fun _ _ _ h => h) ⟨by rfl,?_⟩ hS ?_
 ·rintro w ⟨h0,-⟩
  obtain ⟨h0,h1,h2,-,-,-,h3⟩ := h0.cells
  rw [vv]
  go_simp
 try simp only [Act.put,sib,List.set]
 refine tH 1 (b.v) rfl (by kernel_rfl) (fun _ _ _ h => h) ⟨by rfl,?_⟩ hS ?_
 ·rintro w ⟨-,h0⟩
  obtain ⟨h0,h1,h2,-,-,-,h3⟩ := h0.cells
  rw [vv]
  go_simp
 try simp only [Act.put,sib,List.set]
 refine wpAnyH_ready (rs := [2]) (by kernel_rfl) (by simp) (AllReadyH.cons rfl (fun K hK => ?_) AllReadyH.nil)
 go_simp
 refine (qbx true _).mono ?_
 rintro e w2 ⟨rfl,hL2⟩
 have HB2 := hid (hS0.go hL2)
 refine hK.out _ _ ⟨HB2.out.a,HB2.out.b⟩ (fun hS => ?_)
 clear hK K hS0 hL2
 try simp only [Act.put,sib,List.set]
 refine wpAnyH_ready (rs := [3]) (by kernel_rfl) (by simp) (AllReadyH.cons rfl (fun K hK => ?_) AllReadyH.nil)
 go_simp
 refine (logic_any a b (qav true) w2).mono ?_
 rintro e w3 ⟨rfl,hL3⟩
 have HB3 := hid (HB2.out.go hL3)
 refine hK.out _ _ ⟨HB3.out.a,HB3.out.b⟩ (fun hS => ?_)
 clear hK K hL3
 try simp only [Act.put,sib,List.set]
 have hbin : qdk [111,114] a b = logicV a b (qav true) := rfl
 obtain ⟨x,hx⟩ : ∃ x,logicV a b (qav true) = x := ⟨_,rfl⟩
 rw [hx]
 have HX := hid (hbin.trans hx)
 clear hx hbin
 obtain ⟨c0,c1,c2,f0,f1,f2,cl⟩ := HB3.out.r.cells
 simp only [qaa] at c0 c1 c2
 rw [vv x]
 refine wpAnyH_ready (rs := [4]) (by kernel_rfl) (by simp) (AllReadyH.cons rfl (fun K hK => ?_) AllReadyH.nil)
 go_simp
 refine hK.out _ _ ⟨qcm.keep HB3.out.a (Ne.symm HN.out.1),qcm.keep HB3.out.b (Ne.symm HN.out.2)⟩ (fun hS => ?_)
 clear hK K hS
 refine wpAnyH_done (by kernel_rfl) ?_ _
 clear c0 c1 c2 f0 f1 f2 cl
 go_wp2_with fail
 exact bodyPost_ret (qaf rfl rfl (HB3.out.r.set x)) rfl ⟨by rw [HX.out],qae HB3.out.later HB3.out.new x⟩
theorem bin_eq (a b : Val) (w : World) : Calls Tryz.prog 91 #[.string (qah [61]),a.v,b.v] w (qar (qdk [61] a b) w) := by
 obtain ⟨sv,hsv⟩ : ∃ s,s = qah [61] := ⟨_,rfl⟩
 rw [← hsv]
 have e0 := qab [97,110,100] hsv (by decide)
 have e1 := qab [111,114] hsv (by decide)
 have g0 := qay [61] hsv
 clear hsv
 go_enter Tryz.func91,Tryz.ntmps91
 go_upto_region 2 with (fail)
 obtain ⟨w1,A,B,R,hw1,hA,hB,hR,HB,HN⟩ := qbk w a b
 rw [← hw1,← hR,← hB,← hA]
 clear hw1 hA hB hR
 obtain ⟨a0,a1,a2,-,-,-,al⟩ := HB.out.a.cells
 obtain ⟨b0,b1,b2,-,-,-,bl⟩ := HB.out.b.cells
 obtain ⟨c0,c1,c2,f0,f1,f2,cl⟩ := HB.out.r.cells
 simp only [qaa] at c0 c1 c2
 obtain ⟨q2,h2⟩ : ∃ q,(a.k == 0) = q := ⟨_,rfl⟩
 obtain ⟨q3,h3⟩ : ∃ q,(b.k == 0) = q := ⟨_,rfl⟩
 have HBV : Hid (qdk [61] a b = if (q2 || q3) = true then qaa else qcy [61] a b) := hid (by
  rw [← h2,← h3,qbo,qbo]
  simp only [Bool.or_eq_true,decide_eq_true_eq]
  rfl)
 by_cases hq : (q2 || q3) = true
 ·have HX : Hid (qdk [61] a b = qaa) := hid (by rw [HBV.out,if_pos hq])
  have hfin : ∀ r : Val,r = qaa → Ending.returned r.v = .returned (qdk [61] a b).v := fun r h => by rw [HX.out,h]
  have HFIN := hid hfin
  clear HBV hfin
  cases q2
  ·cases q3
   ·cases hq
   ·clear hq
    go_wp2_with fail
    exact bodyPost_ret (qaf rfl rfl (HB.out.r.set qaa)) rfl ⟨HFIN.out _ rfl,qae HB.out.later HB.out.new qaa⟩
  ·clear hq
   go_wp2_with fail
   exact bodyPost_ret (qaf rfl rfl (HB.out.r.set qaa)) rfl ⟨HFIN.out _ rfl,qae HB.out.later HB.out.new qaa⟩
 have HX : Hid (qdk [61] a b = qcy [61] a b) := hid (by rw [HBV.out,if_neg hq])
 clear HBV
 obtain ⟨rfl,rfl⟩ : q2 = false ∧ q3 = false := by cases q2 <;> cases q3 <;> first | exact ⟨rfl,rfl⟩ | exact absurd rfl hq
 clear hq
 go_wp2_with fail
 refine (qcf a b w1).mono ?_
 rintro e w2 ⟨rfl,hL2⟩
 have HB2 := hid (HB.out.go hL2)
 clear hL2 a0 a1 a2 al b0 b1 b2 bl c0 c1 c2 f0 f1 f2 cl h2 h3
 obtain ⟨cv,hcv⟩ : ∃ n,qba a b = n := ⟨_,rfl⟩
 have HCV := hid hcv
 rw [hcv]
 clear hcv
 obtain ⟨a0,a1,a2,-,-,-,al⟩ := HB2.out.a.cells
 obtain ⟨b0,b1,b2,-,-,-,bl⟩ := HB2.out.b.cells
 go_wp2_with fail
 obtain ⟨bq,hbq⟩ : ∃ b,decide (cv = 0) = b := ⟨_,rfl⟩
 have HBQ := hid hbq
 rw [qbo,hbq]
 clear hbq
 refine (qbx bq w2).mono ?_
 rintro e w3 ⟨rfl,hL3⟩
 have HB3 := hid (HB2.out.go hL3)
 clear hL3 a0 a1 a2 al b0 b1 b2 bl
 obtain ⟨c0,c1,c2,f0,f1,f2,cl⟩ := HB3.out.r.cells
 simp only [qaa] at c0 c1 c2
 obtain ⟨r,hr⟩ : ∃ r : Val,r = ⟨2,if bq = true then 1 else 0,ByteArray.empty⟩ := ⟨_,rfl⟩
 have HRR := hid hr
 rw [← hr,vv r]
 clear hr
 go_wp2_with fail
 refine bodyPost_ret (qaf rfl rfl (HB3.out.r.set r)) rfl ⟨?_,qae HB3.out.later HB3.out.new r⟩
 rw [HX.out,HRR.out]
 rw [← HBQ.out,← HCV.out]
 rfl
theorem bin_ne (a b : Val) (w : World) : Calls Tryz.prog 91 #[.string (qah [60,62]),a.v,b.v] w (qar (qdk [60,62] a b) w) := by
 obtain ⟨sv,hsv⟩ : ∃ s,s = qah [60,62] := ⟨_,rfl⟩
 rw [← hsv]
 have e0 := qab [97,110,100] hsv (by decide)
 have e1 := qab [111,114] hsv (by decide)
 have g0 := qab [61] hsv (by decide)
 have g1 := qay [60,62] hsv
 clear hsv
 go_enter Tryz.func91,Tryz.ntmps91
 go_upto_region 2 with (fail)
 obtain ⟨w1,A,B,R,hw1,hA,hB,hR,HB,HN⟩ := qbk w a b
 rw [← hw1,← hR,← hB,← hA]
 clear hw1 hA hB hR
 obtain ⟨a0,a1,a2,-,-,-,al⟩ := HB.out.a.cells
 obtain ⟨b0,b1,b2,-,-,-,bl⟩ := HB.out.b.cells
 obtain ⟨c0,c1,c2,f0,f1,f2,cl⟩ := HB.out.r.cells
 simp only [qaa] at c0 c1 c2
 obtain ⟨q2,h2⟩ : ∃ q,(a.k == 0) = q := ⟨_,rfl⟩
 obtain ⟨q3,h3⟩ : ∃ q,(b.k == 0) = q := ⟨_,rfl⟩
 have HBV : Hid (qdk [60,62] a b = if (q2 || q3) = true then qaa else qcy [60,62] a b) := hid (by
  rw [← h2,← h3,qbo,qbo]
  simp only [Bool.or_eq_true,decide_eq_true_eq]
  rfl)
 by_cases hq : (q2 || q3) = true
 ·have HX : Hid (qdk [60,62] a b = qaa) := hid (by rw [HBV.out,if_pos hq])
  have hfin : ∀ r : Val,r = qaa → Ending.returned r.v = .returned (qdk [60,62] a b).v := fun r h => by rw [HX.out,h]
  have HFIN := hid hfin
  clear HBV hfin
  cases q2
  ·cases q3
   ·cases hq
   ·clear hq
    go_wp2_with fail
    exact bodyPost_ret (qaf rfl rfl (HB.out.r.set qaa)) rfl ⟨HFIN.out _ rfl,qae HB.out.later HB.out.new qaa⟩
  ·clear hq
   go_wp2_with fail
   exact bodyPost_ret (qaf rfl rfl (HB.out.r.set qaa)) rfl ⟨HFIN.out _ rfl,qae HB.out.later HB.out.new qaa⟩
 have HX : Hid (qdk [60,62] a b = qcy [60,62] a b) := hid (by rw [HBV.out,if_neg hq])
 clear HBV
 obtain ⟨rfl,rfl⟩ : q2 = false ∧ q3 = false := by cases q2 <;> cases q3 <;> first | exact ⟨rfl,rfl⟩ | exact absurd rfl hq
 clear hq
 go_wp2_with fail
 refine (qcf a b w1).mono ?_
 rintro e w2 ⟨rfl,hL2⟩
 have HB2 := hid (HB.out.go hL2)
 clear hL2 a0 a1 a2 al b0 b1 b2 bl c0 c1 c2 f0 f1 f2 cl h2 h3
 obtain ⟨cv,hcv⟩ : ∃ n,qba a b = n := ⟨_,rfl⟩
 have HCV := hid hcv
 rw [hcv]
 clear hcv
 obtain ⟨a0,a1,a2,-,-,-,al⟩ := HB2.out.a.cells
 obtain ⟨b0,b1,b2,-,-,-,bl⟩ := HB2.out.b.cells
 go_wp2_with fail
 obtain ⟨bq,hbq⟩ : ∃ b,decide (cv ≠ 0) = b := ⟨_,rfl⟩
 have HBQ := hid hbq
 rw [show (cv != 0) = decide (cv ≠ 0) by rw [Bool.eq_iff_iff]; simp,hbq]
 clear hbq
 refine (qbx bq w2).mono ?_
 rintro e w3 ⟨rfl,hL3⟩
 have HB3 := hid (HB2.out.go hL3)
 clear hL3 a0 a1 a2 al b0 b1 b2 bl
 obtain ⟨c0,c1,c2,f0,f1,f2,cl⟩ := HB3.out.r.cells
 simp only [qaa] at c0 c1 c2
 obtain ⟨r,hr⟩ : ∃ r : Val,r = ⟨2,if bq = true then 1 else 0,ByteArray.empty⟩ := ⟨_,rfl⟩
 have HRR := hid hr
 rw [← hr,vv r]
 clear hr
 go_wp2_with fail
 refine bodyPost_ret (qaf rfl rfl (HB3.out.r.set r)) rfl ⟨?_,qae HB3.out.later HB3.out.new r⟩
 rw [HX.out,HRR.out]
 rw [← HBQ.out,← HCV.out]
 rfl
theorem bin_lt (a b : Val) (w : World) : Calls Tryz.prog 91 #[.string (qah [60]),a.v,b.v] w (qar (qdk [60] a b) w) := by
 obtain ⟨sv,hsv⟩ : ∃ s,s = qah [60] := ⟨_,rfl⟩
 rw [← hsv]
 have e0 := qab [97,110,100] hsv (by decide)
 have e1 := qab [111,114] hsv (by decide)
 have g0 := qab [61] hsv (by decide)
 have g1 := qab [60,62] hsv (by decide)
 have g2 := qay [60] hsv
 clear hsv
 go_enter Tryz.func91,Tryz.ntmps91
 go_upto_region 2 with (fail)
 obtain ⟨w1,A,B,R,hw1,hA,hB,hR,HB,HN⟩ := qbk w a b
 rw [← hw1,← hR,← hB,← hA]
 clear hw1 hA hB hR
 obtain ⟨a0,a1,a2,-,-,-,al⟩ := HB.out.a.cells
 obtain ⟨b0,b1,b2,-,-,-,bl⟩ := HB.out.b.cells
 obtain ⟨c0,c1,c2,f0,f1,f2,cl⟩ := HB.out.r.cells
 simp only [qaa] at c0 c1 c2
 obtain ⟨q2,h2⟩ : ∃ q,(a.k == 0) = q := ⟨_,rfl⟩
 obtain ⟨q3,h3⟩ : ∃ q,(b.k == 0) = q := ⟨_,rfl⟩
 have HBV : Hid (qdk [60] a b = if (q2 || q3) = true then qaa else qcy [60] a b) := hid (by
  rw [← h2,← h3,qbo,qbo]
  simp only [Bool.or_eq_true,decide_eq_true_eq]
  rfl)
 by_cases hq : (q2 || q3) = true
 ·have HX : Hid (qdk [60] a b = qaa) := hid (by rw [HBV.out,if_pos hq])
  have hfin : ∀ r : Val,r = qaa → Ending.returned r.v = .returned (qdk [60] a b).v := fun r h => by rw [HX.out,h]
  have HFIN := hid hfin
  clear HBV hfin
  cases q2
  ·cases q3
   ·cases hq
   ·clear hq
    go_wp2_with fail
    exact bodyPost_ret (qaf rfl rfl (HB.out.r.set qaa)) rfl ⟨HFIN.out _ rfl,qae HB.out.later HB.out.new qaa⟩
  ·clear hq
   go_wp2_with fail
   exact bodyPost_ret (qaf rfl rfl (HB.out.r.set qaa)) rfl ⟨HFIN.out _ rfl,qae HB.out.later HB.out.new qaa⟩
 have HX : Hid (qdk [60] a b = qcy [60] a b) := hid (by rw [HBV.out,if_neg hq])
 clear HBV
 obtain ⟨rfl,rfl⟩ : q2 = false ∧ q3 = false := by cases q2 <;> cases q3 <;> first | exact ⟨rfl,rfl⟩ | exact absurd rfl hq
 clear hq
 go_wp2_with fail
 refine (qcf a b w1).mono ?_
 rintro e w2 ⟨rfl,hL2⟩
 have HB2 := hid (HB.out.go hL2)
 clear hL2 a0 a1 a2 al b0 b1 b2 bl c0 c1 c2 f0 f1 f2 cl h2 h3
 obtain ⟨cv,hcv⟩ : ∃ n,qba a b = n := ⟨_,rfl⟩
 have HCV := hid hcv
 rw [hcv]
 clear hcv
 obtain ⟨a0,a1,a2,-,-,-,al⟩ := HB2.out.a.cells
 obtain ⟨b0,b1,b2,-,-,-,bl⟩ := HB2.out.b.cells
 go_wp2_with fail
 obtain ⟨bq,hbq⟩ : ∃ b,decide (cv < 0) = b := ⟨_,rfl⟩
 have HBQ := hid hbq
 rw [hbq]
 clear hbq
 refine (qbx bq w2).mono ?_
 rintro e w3 ⟨rfl,hL3⟩
 have HB3 := hid (HB2.out.go hL3)
 clear hL3 a0 a1 a2 al b0 b1 b2 bl
 obtain ⟨c0,c1,c2,f0,f1,f2,cl⟩ := HB3.out.r.cells
 simp only [qaa] at c0 c1 c2
 obtain ⟨r,hr⟩ : ∃ r : Val,r = ⟨2,if bq = true then 1 else 0,ByteArray.empty⟩ := ⟨_,rfl⟩
 have HRR := hid hr
 rw [← hr,vv r]
 clear hr
 go_wp2_with fail
 refine bodyPost_ret (qaf rfl rfl (HB3.out.r.set r)) rfl ⟨?_,qae HB3.out.later HB3.out.new r⟩
 rw [HX.out,HRR.out]
 rw [← HBQ.out,← HCV.out]
 rfl
theorem bin_le (a b : Val) (w : World) : Calls Tryz.prog 91 #[.string (qah [60,61]),a.v,b.v] w (qar (qdk [60,61] a b) w) := by
 obtain ⟨sv,hsv⟩ : ∃ s,s = qah [60,61] := ⟨_,rfl⟩
 rw [← hsv]
 have e0 := qab [97,110,100] hsv (by decide)
 have e1 := qab [111,114] hsv (by decide)
 have g0 := qab [61] hsv (by decide)
 have g1 := qab [60,62] hsv (by decide)
 have g2 := qab [60] hsv (by decide)
 have g3 := qay [60,61] hsv
 clear hsv
 go_enter Tryz.func91,Tryz.ntmps91
 go_upto_region 2 with (fail)
 obtain ⟨w1,A,B,R,hw1,hA,hB,hR,HB,HN⟩ := qbk w a b
 rw [← hw1,← hR,← hB,← hA]
 clear hw1 hA hB hR
 obtain ⟨a0,a1,a2,-,-,-,al⟩ := HB.out.a.cells
 obtain ⟨b0,b1,b2,-,-,-,bl⟩ := HB.out.b.cells
 obtain ⟨c0,c1,c2,f0,f1,f2,cl⟩ := HB.out.r.cells
 simp only [qaa] at c0 c1 c2
 obtain ⟨q2,h2⟩ : ∃ q,(a.k == 0) = q := ⟨_,rfl⟩
 obtain ⟨q3,h3⟩ : ∃ q,(b.k == 0) = q := ⟨_,rfl⟩
 have HBV : Hid (qdk [60,61] a b = if (q2 || q3) = true then qaa else qcy [60,61] a b) := hid (by
  rw [← h2,← h3,qbo,qbo]
  simp only [Bool.or_eq_true,decide_eq_true_eq]
  rfl)
 by_cases hq : (q2 || q3) = true
 ·have HX : Hid (qdk [60,61] a b = qaa) := hid (by rw [HBV.out,if_pos hq])
  have hfin : ∀ r : Val,r = qaa → Ending.returned r.v = .returned (qdk [60,61] a b).v := fun r h => by rw [HX.out,h]
  have HFIN := hid hfin
  clear HBV hfin
  cases q2
  ·cases q3
   ·cases hq
   ·clear hq
    go_wp2_with fail
    exact bodyPost_ret (qaf rfl rfl (HB.out.r.set qaa)) rfl ⟨HFIN.out _ rfl,qae HB.out.later HB.out.new qaa⟩
  ·clear hq
   go_wp2_with fail
   exact bodyPost_ret (qaf rfl rfl (HB.out.r.set qaa)) rfl ⟨HFIN.out _ rfl,qae HB.out.later HB.out.new qaa⟩
 have HX : Hid (qdk [60,61] a b = qcy [60,61] a b) := hid (by rw [HBV.out,if_neg hq])
 clear HBV
 obtain ⟨rfl,rfl⟩ : q2 = false ∧ q3 = false := by cases q2 <;> cases q3 <;> first | exact ⟨rfl,rfl⟩ | exact absurd rfl hq
 clear hq
 go_wp2_with fail
 refine (qcf a b w1).mono ?_
 rintro e w2 ⟨rfl,hL2⟩
 have HB2 := hid (HB.out.go hL2)
 clear hL2 a0 a1 a2 al b0 b1 b2 bl c0 c1 c2 f0 f1 f2 cl h2 h3
 obtain ⟨cv,hcv⟩ : ∃ n,qba a b = n := ⟨_,rfl⟩
 have HCV := hid hcv
 rw [hcv]
 clear hcv
 obtain ⟨a0,a1,a2,-,-,-,al⟩ := HB2.out.a.cells
 obtain ⟨b0,b1,b2,-,-,-,bl⟩ := HB2.out.b.cells
 go_wp2_with fail
 obtain ⟨bq,hbq⟩ : ∃ b,decide (cv ≤ 0) = b := ⟨_,rfl⟩
 have HBQ := hid hbq
 rw [hbq]
 clear hbq
 refine (qbx bq w2).mono ?_
 rintro e w3 ⟨rfl,hL3⟩
 have HB3 := hid (HB2.out.go hL3)
 clear hL3 a0 a1 a2 al b0 b1 b2 bl
 obtain ⟨c0,c1,c2,f0,f1,f2,cl⟩ := HB3.out.r.cells
 simp only [qaa] at c0 c1 c2
 obtain ⟨r,hr⟩ : ∃ r : Val,r = ⟨2,if bq = true then 1 else 0,ByteArray.empty⟩ := ⟨_,rfl⟩
 have HRR := hid hr
 rw [← hr,vv r]
 clear hr
 go_wp2_with fail
 refine bodyPost_ret (qaf rfl rfl (HB3.out.r.set r)) rfl ⟨?_,qae HB3.out.later HB3.out.new r⟩
 rw [HX.out,HRR.out]
 rw [← HBQ.out,← HCV.out]
 rfl
theorem bin_gt (a b : Val) (w : World) : Calls Tryz.prog 91 #[.string (qah [62]),a.v,b.v] w (qar (qdk [62] a b) w) := by
 obtain ⟨sv,hsv⟩ : ∃ s,s = qah [62] := ⟨_,rfl⟩
 rw [← hsv]
 have e0 := qab [97,110,100] hsv (by decide)
 have e1 := qab [111,114] hsv (by decide)
 have g0 := qab [61] hsv (by decide)
 have g1 := qab [60,62] hsv (by decide)
 have g2 := qab [60] hsv (by decide)
 have g3 := qab [60,61] hsv (by decide)
 have g4 := qay [62] hsv
 clear hsv
 go_enter Tryz.func91,Tryz.ntmps91
 go_upto_region 2 with (fail)
 obtain ⟨w1,A,B,R,hw1,hA,hB,hR,HB,HN⟩ := qbk w a b
 rw [← hw1,← hR,← hB,← hA]
 clear hw1 hA hB hR
 obtain ⟨a0,a1,a2,-,-,-,al⟩ := HB.out.a.cells
 obtain ⟨b0,b1,b2,-,-,-,bl⟩ := HB.out.b.cells
 obtain ⟨c0,c1,c2,f0,f1,f2,cl⟩ := HB.out.r.cells
 simp only [qaa] at c0 c1 c2
 obtain ⟨q2,h2⟩ : ∃ q,(a.k == 0) = q := ⟨_,rfl⟩
 obtain ⟨q3,h3⟩ : ∃ q,(b.k == 0) = q := ⟨_,rfl⟩
 have HBV : Hid (qdk [62] a b = if (q2 || q3) = true then qaa else qcy [62] a b) := hid (by
  rw [← h2,← h3,qbo,qbo]
  simp only [Bool.or_eq_true,decide_eq_true_eq]
  rfl)
 by_cases hq : (q2 || q3) = true
 ·have HX : Hid (qdk [62] a b = qaa) := hid (by rw [HBV.out,if_pos hq])
  have hfin : ∀ r : Val,r = qaa → Ending.returned r.v = .returned (qdk [62] a b).v := fun r h => by rw [HX.out,h]
  have HFIN := hid hfin
  clear HBV hfin
  cases q2
  ·cases q3
   ·cases hq
   ·clear hq
    go_wp2_with fail
    exact bodyPost_ret (qaf rfl rfl (HB.out.r.set qaa)) rfl ⟨HFIN.out _ rfl,qae HB.out.later HB.out.new qaa⟩
  ·clear hq
   go_wp2_with fail
   exact bodyPost_ret (qaf rfl rfl (HB.out.r.set qaa)) rfl ⟨HFIN.out _ rfl,qae HB.out.later HB.out.new qaa⟩
 have HX : Hid (qdk [62] a b = qcy [62] a b) := hid (by rw [HBV.out,if_neg hq])
 clear HBV
 obtain ⟨rfl,rfl⟩ : q2 = false ∧ q3 = false := by cases q2 <;> cases q3 <;> first | exact ⟨rfl,rfl⟩ | exact absurd rfl hq
 clear hq
 go_wp2_with fail
 refine (qcf a b w1).mono ?_
 rintro e w2 ⟨rfl,hL2⟩
 have HB2 := hid (HB.out.go hL2)
 clear hL2 a0 a1 a2 al b0 b1 b2 bl c0 c1 c2 f0 f1 f2 cl h2 h3
 obtain ⟨cv,hcv⟩ : ∃ n,qba a b = n := ⟨_,rfl⟩
 have HCV := hid hcv
 rw [hcv]
 clear hcv
 obtain ⟨a0,a1,a2,-,-,-,al⟩ := HB2.out.a.cells
 obtain ⟨b0,b1,b2,-,-,-,bl⟩ := HB2.out.b.cells
 go_wp2_with fail
 obtain ⟨bq,hbq⟩ : ∃ b,decide (0 < cv) = b := ⟨_,rfl⟩
 have HBQ := hid hbq
 rw [hbq]
 clear hbq
 refine (qbx bq w2).mono ?_
 rintro e w3 ⟨rfl,hL3⟩
 have HB3 := hid (HB2.out.go hL3)
 clear hL3 a0 a1 a2 al b0 b1 b2 bl
 obtain ⟨c0,c1,c2,f0,f1,f2,cl⟩ := HB3.out.r.cells
 simp only [qaa] at c0 c1 c2
 obtain ⟨r,hr⟩ : ∃ r : Val,r = ⟨2,if bq = true then 1 else 0,ByteArray.empty⟩ := ⟨_,rfl⟩
 have HRR := hid hr
 rw [← hr,vv r]
 clear hr
 go_wp2_with fail
 refine bodyPost_ret (qaf rfl rfl (HB3.out.r.set r)) rfl ⟨?_,qae HB3.out.later HB3.out.new r⟩
 rw [HX.out,HRR.out]
 rw [← HBQ.out,← HCV.out]
 rfl
theorem bin_ge (a b : Val) (w : World) : Calls Tryz.prog 91 #[.string (qah [62,61]),a.v,b.v] w (qar (qdk [62,61] a b) w) := by
 obtain ⟨sv,hsv⟩ : ∃ s,s = qah [62,61] := ⟨_,rfl⟩
 rw [← hsv]
 have e0 := qab [97,110,100] hsv (by decide)
 have e1 := qab [111,114] hsv (by decide)
 have g0 := qab [61] hsv (by decide)
 have g1 := qab [60,62] hsv (by decide)
 have g2 := qab [60] hsv (by decide)
 have g3 := qab [60,61] hsv (by decide)
 have g4 := qab [62] hsv (by decide)
 have g5 := qay [62,61] hsv
 clear hsv
 go_enter Tryz.func91,Tryz.ntmps91
 go_upto_region 2 with (fail)
 obtain ⟨w1,A,B,R,hw1,hA,hB,hR,HB,HN⟩ := qbk w a b
 rw [← hw1,← hR,← hB,← hA]
 clear hw1 hA hB hR
 obtain ⟨a0,a1,a2,-,-,-,al⟩ := HB.out.a.cells
 obtain ⟨b0,b1,b2,-,-,-,bl⟩ := HB.out.b.cells
 obtain ⟨c0,c1,c2,f0,f1,f2,cl⟩ := HB.out.r.cells
 simp only [qaa] at c0 c1 c2
 obtain ⟨q2,h2⟩ : ∃ q,(a.k == 0) = q := ⟨_,rfl⟩
 obtain ⟨q3,h3⟩ : ∃ q,(b.k == 0) = q := ⟨_,rfl⟩
 have HBV : Hid (qdk [62,61] a b = if (q2 || q3) = true then qaa else qcy [62,61] a b) := hid (by
  rw [← h2,← h3,qbo,qbo]
  simp only [Bool.or_eq_true,decide_eq_true_eq]
  rfl)
 by_cases hq : (q2 || q3) = true
 ·have HX : Hid (qdk [62,61] a b = qaa) := hid (by rw [HBV.out,if_pos hq])
  have hfin : ∀ r : Val,r = qaa → Ending.returned r.v = .returned (qdk [62,61] a b).v := fun r h => by rw [HX.out,h]
  have HFIN := hid hfin
  clear HBV hfin
  cases q2
  ·cases q3
   ·cases hq
   ·clear hq
    go_wp2_with fail
    exact bodyPost_ret (qaf rfl rfl (HB.out.r.set qaa)) rfl ⟨HFIN.out _ rfl,qae HB.out.later HB.out.new qaa⟩
  ·clear hq
   go_wp2_with fail
   exact bodyPost_ret (qaf rfl rfl (HB.out.r.set qaa)) rfl ⟨HFIN.out _ rfl,qae HB.out.later HB.out.new qaa⟩
 have HX : Hid (qdk [62,61] a b = qcy [62,61] a b) := hid (by rw [HBV.out,if_neg hq])
 clear HBV
 obtain ⟨rfl,rfl⟩ : q2 = false ∧ q3 = false := by cases q2 <;> cases q3 <;> first | exact ⟨rfl,rfl⟩ | exact absurd rfl hq
 clear hq
 go_wp2_with fail
 refine (qcf a b w1).mono ?_
 rintro e w2 ⟨rfl,hL2⟩
 have HB2 := hid (HB.out.go hL2)
 clear hL2 a0 a1 a2 al b0 b1 b2 bl c0 c1 c2 f0 f1 f2 cl h2 h3
 obtain ⟨cv,hcv⟩ : ∃ n,qba a b = n := ⟨_,rfl⟩
 have HCV := hid hcv
 rw [hcv]
 clear hcv
 obtain ⟨a0,a1,a2,-,-,-,al⟩ := HB2.out.a.cells
 obtain ⟨b0,b1,b2,-,-,-,bl⟩ := HB2.out.b.cells
 go_wp2_with fail
 obtain ⟨bq,hbq⟩ : ∃ b,decide (0 ≤ cv) = b := ⟨_,rfl⟩
 have HBQ := hid hbq
 rw [hbq]
 clear hbq
 refine (qbx bq w2).mono ?_
 rintro e w3 ⟨rfl,hL3⟩
 have HB3 := hid (HB2.out.go hL3)
 clear hL3 a0 a1 a2 al b0 b1 b2 bl
 obtain ⟨c0,c1,c2,f0,f1,f2,cl⟩ := HB3.out.r.cells
 simp only [qaa] at c0 c1 c2
 obtain ⟨r,hr⟩ : ∃ r : Val,r = ⟨2,if bq = true then 1 else 0,ByteArray.empty⟩ := ⟨_,rfl⟩
 have HRR := hid hr
 rw [← hr,vv r]
 clear hr
 go_wp2_with fail
 refine bodyPost_ret (qaf rfl rfl (HB3.out.r.set r)) rfl ⟨?_,qae HB3.out.later HB3.out.new r⟩
 rw [HX.out,HRR.out]
 rw [← HBQ.out,← HCV.out]
 rfl
theorem bin_add (a b : Val) (w : World) : Calls Tryz.prog 91 #[.string (qah [43]),a.v,b.v] w (qar (qdk [43] a b) w) := by
 obtain ⟨sv,hsv⟩ : ∃ s,s = qah [43] := ⟨_,rfl⟩
 rw [← hsv]
 have e0 := qab [97,110,100] hsv (by decide)
 have e1 := qab [111,114] hsv (by decide)
 have g0 := qab [61] hsv (by decide)
 have g1 := qab [60,62] hsv (by decide)
 have g2 := qab [60] hsv (by decide)
 have g3 := qab [60,61] hsv (by decide)
 have g4 := qab [62] hsv (by decide)
 have g5 := qab [62,61] hsv (by decide)
 have g6 := qab [43,43] hsv (by decide)
 have g7 := qay [43] hsv
 clear hsv
 go_enter Tryz.func91,Tryz.ntmps91
 go_upto_region 2 with (fail)
 obtain ⟨w1,A,B,R,hw1,hA,hB,hR,HB,HN⟩ := qbk w a b
 rw [← hw1,← hR,← hB,← hA]
 clear hw1 hA hB hR
 obtain ⟨a0,a1,a2,-,-,-,al⟩ := HB.out.a.cells
 obtain ⟨b0,b1,b2,-,-,-,bl⟩ := HB.out.b.cells
 obtain ⟨c0,c1,c2,f0,f1,f2,cl⟩ := HB.out.r.cells
 simp only [qaa] at c0 c1 c2
 obtain ⟨q2,h2⟩ : ∃ q,(a.k == 0) = q := ⟨_,rfl⟩
 obtain ⟨q3,h3⟩ : ∃ q,(b.k == 0) = q := ⟨_,rfl⟩
 have HBV : Hid (qdk [43] a b = if (q2 || q3) = true then qaa else qcy [43] a b) := hid (by
  rw [← h2,← h3,qbo,qbo]
  simp only [Bool.or_eq_true,decide_eq_true_eq]
  rfl)
 by_cases hq : (q2 || q3) = true
 ·have HX : Hid (qdk [43] a b = qaa) := hid (by rw [HBV.out,if_pos hq])
  have hfin : ∀ r : Val,r = qaa → Ending.returned r.v = .returned (qdk [43] a b).v := fun r h => by rw [HX.out,h]
  have HFIN := hid hfin
  clear HBV hfin
  cases q2
  ·cases q3
   ·cases hq
   ·clear hq
    go_wp2_with fail
    exact bodyPost_ret (qaf rfl rfl (HB.out.r.set qaa)) rfl ⟨HFIN.out _ rfl,qae HB.out.later HB.out.new qaa⟩
  ·clear hq
   go_wp2_with fail
   exact bodyPost_ret (qaf rfl rfl (HB.out.r.set qaa)) rfl ⟨HFIN.out _ rfl,qae HB.out.later HB.out.new qaa⟩
 have HX : Hid (qdk [43] a b = qcy [43] a b) := hid (by rw [HBV.out,if_neg hq])
 clear HBV
 obtain ⟨rfl,rfl⟩ : q2 = false ∧ q3 = false := by cases q2 <;> cases q3 <;> first | exact ⟨rfl,rfl⟩ | exact absurd rfl hq
 clear hq
 go_wp2_with fail
 refine (qcf a b w1).mono ?_
 rintro e w2 ⟨rfl,hL2⟩
 have HB2 := hid (HB.out.go hL2)
 clear hL2 a0 a1 a2 al b0 b1 b2 bl c0 c1 c2 f0 f1 f2 cl h2 h3
 obtain ⟨cv,hcv⟩ : ∃ n,qba a b = n := ⟨_,rfl⟩
 have HCV := hid hcv
 rw [hcv]
 clear hcv
 obtain ⟨a0,a1,a2,-,-,-,al⟩ := HB2.out.a.cells
 obtain ⟨b0,b1,b2,-,-,-,bl⟩ := HB2.out.b.cells
 go_wp2_with fail
 refine (vof_any (wrap64 (a.n + b.n)) w2).mono ?_
 rintro e w3 ⟨rfl,hL3⟩
 have HB3 := hid (HB2.out.go hL3)
 clear hL3 a0 a1 a2 al b0 b1 b2 bl
 obtain ⟨c0,c1,c2,f0,f1,f2,cl⟩ := HB3.out.r.cells
 simp only [qaa] at c0 c1 c2
 obtain ⟨r,hr⟩ : ∃ r : Val,r = ⟨1,wrap64 (a.n + b.n),ByteArray.empty⟩ := ⟨_,rfl⟩
 have HRR := hid hr
 rw [← hr,vv r]
 clear hr
 go_wp2_with fail
 refine bodyPost_ret (qaf rfl rfl (HB3.out.r.set r)) rfl ⟨?_,qae HB3.out.later HB3.out.new r⟩
 rw [HX.out,HRR.out]
 rfl
theorem bin_sub (a b : Val) (w : World) : Calls Tryz.prog 91 #[.string (qah [45]),a.v,b.v] w (qar (qdk [45] a b) w) := by
 obtain ⟨sv,hsv⟩ : ∃ s,s = qah [45] := ⟨_,rfl⟩
 rw [← hsv]
 have e0 := qab [97,110,100] hsv (by decide)
 have e1 := qab [111,114] hsv (by decide)
 have g0 := qab [61] hsv (by decide)
 have g1 := qab [60,62] hsv (by decide)
 have g2 := qab [60] hsv (by decide)
 have g3 := qab [60,61] hsv (by decide)
 have g4 := qab [62] hsv (by decide)
 have g5 := qab [62,61] hsv (by decide)
 have g6 := qab [43,43] hsv (by decide)
 have g7 := qab [43] hsv (by decide)
 have g8 := qay [45] hsv
 clear hsv
 go_enter Tryz.func91,Tryz.ntmps91
 go_upto_region 2 with (fail)
 obtain ⟨w1,A,B,R,hw1,hA,hB,hR,HB,HN⟩ := qbk w a b
 rw [← hw1,← hR,← hB,← hA]
 clear hw1 hA hB hR
 obtain ⟨a0,a1,a2,-,-,-,al⟩ := HB.out.a.cells
 obtain ⟨b0,b1,b2,-,-,-,bl⟩ := HB.out.b.cells
 obtain ⟨c0,c1,c2,f0,f1,f2,cl⟩ := HB.out.r.cells
 simp only [qaa] at c0 c1 c2
 obtain ⟨q2,h2⟩ : ∃ q,(a.k == 0) = q := ⟨_,rfl⟩
 obtain ⟨q3,h3⟩ : ∃ q,(b.k == 0) = q := ⟨_,rfl⟩
 have HBV : Hid (qdk [45] a b = if (q2 || q3) = true then qaa else qcy [45] a b) := hid (by
  rw [← h2,← h3,qbo,qbo]
  simp only [Bool.or_eq_true,decide_eq_true_eq]
  rfl)
 by_cases hq : (q2 || q3) = true
 ·have HX : Hid (qdk [45] a b = qaa) := hid (by rw [HBV.out,if_pos hq])
  have hfin : ∀ r : Val,r = qaa → Ending.returned r.v = .returned (qdk [45] a b).v := fun r h => by rw [HX.out,h]
  have HFIN := hid hfin
  clear HBV hfin
  cases q2
  ·cases q3
   ·cases hq
   ·clear hq
    go_wp2_with fail
    exact bodyPost_ret (qaf rfl rfl (HB.out.r.set qaa)) rfl ⟨HFIN.out _ rfl,qae HB.out.later HB.out.new qaa⟩
  ·clear hq
   go_wp2_with fail
   exact bodyPost_ret (qaf rfl rfl (HB.out.r.set qaa)) rfl ⟨HFIN.out _ rfl,qae HB.out.later HB.out.new qaa⟩
 have HX : Hid (qdk [45] a b = qcy [45] a b) := hid (by rw [HBV.out,if_neg hq])
 clear HBV
 obtain ⟨rfl,rfl⟩ : q2 = false ∧ q3 = false := by cases q2 <;> cases q3 <;> first | exact ⟨rfl,rfl⟩ | exact absurd rfl hq
 clear hq
 go_wp2_with fail
 refine (qcf a b w1).mono ?_
 rintro e w2 ⟨rfl,hL2⟩
 have HB2 := hid (HB.out.go hL2)
 clear hL2 a0 a1 a2 al b0 b1 b2 bl c0 c1 c2 f0 f1 f2 cl h2 h3
 obtain ⟨cv,hcv⟩ : ∃ n,qba a b = n := ⟨_,rfl⟩
 have HCV := hid hcv
 rw [hcv]
 clear hcv
 obtain ⟨a0,a1,a2,-,-,-,al⟩ := HB2.out.a.cells
 obtain ⟨b0,b1,b2,-,-,-,bl⟩ := HB2.out.b.cells
 go_wp2_with fail
 refine (vof_any (wrap64 (a.n - b.n)) w2).mono ?_
 rintro e w3 ⟨rfl,hL3⟩
 have HB3 := hid (HB2.out.go hL3)
 clear hL3 a0 a1 a2 al b0 b1 b2 bl
 obtain ⟨c0,c1,c2,f0,f1,f2,cl⟩ := HB3.out.r.cells
 simp only [qaa] at c0 c1 c2
 obtain ⟨r,hr⟩ : ∃ r : Val,r = ⟨1,wrap64 (a.n - b.n),ByteArray.empty⟩ := ⟨_,rfl⟩
 have HRR := hid hr
 rw [← hr,vv r]
 clear hr
 go_wp2_with fail
 refine bodyPost_ret (qaf rfl rfl (HB3.out.r.set r)) rfl ⟨?_,qae HB3.out.later HB3.out.new r⟩
 rw [HX.out,HRR.out]
 rfl
theorem bin_mul (a b : Val) (w : World) : Calls Tryz.prog 91 #[.string (qah [42]),a.v,b.v] w (qar (qdk [42] a b) w) := by
 obtain ⟨sv,hsv⟩ : ∃ s,s = qah [42] := ⟨_,rfl⟩
 rw [← hsv]
 have e0 := qab [97,110,100] hsv (by decide)
 have e1 := qab [111,114] hsv (by decide)
 have g0 := qab [61] hsv (by decide)
 have g1 := qab [60,62] hsv (by decide)
 have g2 := qab [60] hsv (by decide)
 have g3 := qab [60,61] hsv (by decide)
 have g4 := qab [62] hsv (by decide)
 have g5 := qab [62,61] hsv (by decide)
 have g6 := qab [43,43] hsv (by decide)
 have g7 := qab [43] hsv (by decide)
 have g8 := qab [45] hsv (by decide)
 have g9 := qay [42] hsv
 clear hsv
 go_enter Tryz.func91,Tryz.ntmps91
 go_upto_region 2 with (fail)
 obtain ⟨w1,A,B,R,hw1,hA,hB,hR,HB,HN⟩ := qbk w a b
 rw [← hw1,← hR,← hB,← hA]
 clear hw1 hA hB hR
 obtain ⟨a0,a1,a2,-,-,-,al⟩ := HB.out.a.cells
 obtain ⟨b0,b1,b2,-,-,-,bl⟩ := HB.out.b.cells
 obtain ⟨c0,c1,c2,f0,f1,f2,cl⟩ := HB.out.r.cells
 simp only [qaa] at c0 c1 c2
 obtain ⟨q2,h2⟩ : ∃ q,(a.k == 0) = q := ⟨_,rfl⟩
 obtain ⟨q3,h3⟩ : ∃ q,(b.k == 0) = q := ⟨_,rfl⟩
 have HBV : Hid (qdk [42] a b = if (q2 || q3) = true then qaa else qcy [42] a b) := hid (by
  rw [← h2,← h3,qbo,qbo]
  simp only [Bool.or_eq_true,decide_eq_true_eq]
  rfl)
 by_cases hq : (q2 || q3) = true
 ·have HX : Hid (qdk [42] a b = qaa) := hid (by rw [HBV.out,if_pos hq])
  have hfin : ∀ r : Val,r = qaa → Ending.returned r.v = .returned (qdk [42] a b).v := fun r h => by rw [HX.out,h]
  have HFIN := hid hfin
  clear HBV hfin
  cases q2
  ·cases q3
   ·cases hq
   ·clear hq
    go_wp2_with fail
    exact bodyPost_ret (qaf rfl rfl (HB.out.r.set qaa)) rfl ⟨HFIN.out _ rfl,qae HB.out.later HB.out.new qaa⟩
  ·clear hq
   go_wp2_with fail
   exact bodyPost_ret (qaf rfl rfl (HB.out.r.set qaa)) rfl ⟨HFIN.out _ rfl,qae HB.out.later HB.out.new qaa⟩
 have HX : Hid (qdk [42] a b = qcy [42] a b) := hid (by rw [HBV.out,if_neg hq])
 clear HBV
 obtain ⟨rfl,rfl⟩ : q2 = false ∧ q3 = false := by cases q2 <;> cases q3 <;> first | exact ⟨rfl,rfl⟩ | exact absurd rfl hq
 clear hq
 go_wp2_with fail
 refine (qcf a b w1).mono ?_
 rintro e w2 ⟨rfl,hL2⟩
 have HB2 := hid (HB.out.go hL2)
 clear hL2 a0 a1 a2 al b0 b1 b2 bl c0 c1 c2 f0 f1 f2 cl h2 h3
 obtain ⟨cv,hcv⟩ : ∃ n,qba a b = n := ⟨_,rfl⟩
 have HCV := hid hcv
 rw [hcv]
 clear hcv
 obtain ⟨a0,a1,a2,-,-,-,al⟩ := HB2.out.a.cells
 obtain ⟨b0,b1,b2,-,-,-,bl⟩ := HB2.out.b.cells
 go_wp2_with fail
 refine (vof_any (wrap64 (a.n * b.n)) w2).mono ?_
 rintro e w3 ⟨rfl,hL3⟩
 have HB3 := hid (HB2.out.go hL3)
 clear hL3 a0 a1 a2 al b0 b1 b2 bl
 obtain ⟨c0,c1,c2,f0,f1,f2,cl⟩ := HB3.out.r.cells
 simp only [qaa] at c0 c1 c2
 obtain ⟨r,hr⟩ : ∃ r : Val,r = ⟨1,wrap64 (a.n * b.n),ByteArray.empty⟩ := ⟨_,rfl⟩
 have HRR := hid hr
 rw [← hr,vv r]
 clear hr
 go_wp2_with fail
 refine bodyPost_ret (qaf rfl rfl (HB3.out.r.set r)) rfl ⟨?_,qae HB3.out.later HB3.out.new r⟩
 rw [HX.out,HRR.out]
 rfl
theorem bin_quo (a b : Val) (w : World) : Calls Tryz.prog 91 #[.string (qah [47]),a.v,b.v] w (qar (qdk [47] a b) w) := by
 obtain ⟨sv,hsv⟩ : ∃ s,s = qah [47] := ⟨_,rfl⟩
 rw [← hsv]
 have e0 := qab [97,110,100] hsv (by decide)
 have e1 := qab [111,114] hsv (by decide)
 have g0 := qab [61] hsv (by decide)
 have g1 := qab [60,62] hsv (by decide)
 have g2 := qab [60] hsv (by decide)
 have g3 := qab [60,61] hsv (by decide)
 have g4 := qab [62] hsv (by decide)
 have g5 := qab [62,61] hsv (by decide)
 have g6 := qab [43,43] hsv (by decide)
 have g7 := qab [43] hsv (by decide)
 have g8 := qab [45] hsv (by decide)
 have g9 := qab [42] hsv (by decide)
 have g10 := qay [47] hsv
 clear hsv
 go_enter Tryz.func91,Tryz.ntmps91
 go_upto_region 2 with (fail)
 obtain ⟨w1,A,B,R,hw1,hA,hB,hR,HB,HN⟩ := qbk w a b
 rw [← hw1,← hR,← hB,← hA]
 clear hw1 hA hB hR
 obtain ⟨a0,a1,a2,-,-,-,al⟩ := HB.out.a.cells
 obtain ⟨b0,b1,b2,-,-,-,bl⟩ := HB.out.b.cells
 obtain ⟨c0,c1,c2,f0,f1,f2,cl⟩ := HB.out.r.cells
 simp only [qaa] at c0 c1 c2
 obtain ⟨q2,h2⟩ : ∃ q,(a.k == 0) = q := ⟨_,rfl⟩
 obtain ⟨q3,h3⟩ : ∃ q,(b.k == 0) = q := ⟨_,rfl⟩
 have HBV : Hid (qdk [47] a b = if (q2 || q3) = true then qaa else qcy [47] a b) := hid (by
  rw [← h2,← h3,qbo,qbo]
  simp only [Bool.or_eq_true,decide_eq_true_eq]
  rfl)
 by_cases hq : (q2 || q3) = true
 ·have HX : Hid (qdk [47] a b = qaa) := hid (by rw [HBV.out,if_pos hq])
  have hfin : ∀ r : Val,r = qaa → Ending.returned r.v = .returned (qdk [47] a b).v := fun r h => by rw [HX.out,h]
  have HFIN := hid hfin
  clear HBV hfin
  cases q2
  ·cases q3
   ·cases hq
   ·clear hq
    go_wp2_with fail
    exact bodyPost_ret (qaf rfl rfl (HB.out.r.set qaa)) rfl ⟨HFIN.out _ rfl,qae HB.out.later HB.out.new qaa⟩
  ·clear hq
   go_wp2_with fail
   exact bodyPost_ret (qaf rfl rfl (HB.out.r.set qaa)) rfl ⟨HFIN.out _ rfl,qae HB.out.later HB.out.new qaa⟩
 have HX : Hid (qdk [47] a b = qcy [47] a b) := hid (by rw [HBV.out,if_neg hq])
 clear HBV
 obtain ⟨rfl,rfl⟩ : q2 = false ∧ q3 = false := by cases q2 <;> cases q3 <;> first | exact ⟨rfl,rfl⟩ | exact absurd rfl hq
 clear hq
 go_wp2_with fail
 refine (qcf a b w1).mono ?_
 rintro e w2 ⟨rfl,hL2⟩
 have HB2 := hid (HB.out.go hL2)
 clear hL2 a0 a1 a2 al b0 b1 b2 bl c0 c1 c2 f0 f1 f2 cl h2 h3
 obtain ⟨cv,hcv⟩ : ∃ n,qba a b = n := ⟨_,rfl⟩
 have HCV := hid hcv
 rw [hcv]
 clear hcv
 obtain ⟨a0,a1,a2,-,-,-,al⟩ := HB2.out.a.cells
 obtain ⟨b0,b1,b2,-,-,-,bl⟩ := HB2.out.b.cells
 by_cases hz : b.n = 0
 ·have HZ := hid hz
  rw [hz] at b1
  have HB3 := HB2
  obtain ⟨c0,c1,c2,f0,f1,f2,cl⟩ := HB3.out.r.cells
  simp only [qaa] at c0 c1 c2
  clear hz
  go_wp2_with fail
  refine bodyPost_ret (qaf rfl rfl (HB3.out.r.set qaa)) rfl ⟨?_,qae HB3.out.later HB3.out.new qaa⟩
  rw [HX.out]
  show _ = Ending.returned (Val.v (if b.n = 0 then qaa else _))
  rw [if_pos HZ.out]
 have HZ := hid hz
 have hz' : (b.n == 0) = false := by simpa using hz
 go_wp2_with fail
 refine (vof_any (wrap64 (a.n.tdiv b.n)) w2).mono ?_
 rintro e w3 ⟨rfl,hL3⟩
 have HB3 := hid (HB2.out.go hL3)
 clear hL3 a0 a1 a2 al b0 b1 b2 bl
 obtain ⟨c0,c1,c2,f0,f1,f2,cl⟩ := HB3.out.r.cells
 simp only [qaa] at c0 c1 c2
 obtain ⟨r,hr⟩ : ∃ r : Val,r = ⟨1,wrap64 (a.n.tdiv b.n),ByteArray.empty⟩ := ⟨_,rfl⟩
 have HRR := hid hr
 rw [← hr,vv r]
 clear hr
 go_wp2_with fail
 refine bodyPost_ret (qaf rfl rfl (HB3.out.r.set r)) rfl ⟨?_,qae HB3.out.later HB3.out.new r⟩
 rw [HX.out,HRR.out]
 show _ = Ending.returned (Val.v (if b.n = 0 then qaa else _))
 rw [if_neg HZ.out]
 rfl
theorem bin_rem (a b : Val) (hn : -9223372036854775808 ≤ a.n ∧ a.n ≤ 9223372036854775807) (w : World) : Calls Tryz.prog 91 #[.string (qah [37]),a.v,b.v] w (qar (qdk [37] a b) w) := by
 have HW : Hid (wrap64 (a.n.tmod b.n) = a.n.tmod b.n) := hid (wrap_mod hn)
 clear hn
 obtain ⟨sv,hsv⟩ : ∃ s,s = qah [37] := ⟨_,rfl⟩
 rw [← hsv]
 have e0 := qab [97,110,100] hsv (by decide)
 have e1 := qab [111,114] hsv (by decide)
 have g0 := qab [61] hsv (by decide)
 have g1 := qab [60,62] hsv (by decide)
 have g2 := qab [60] hsv (by decide)
 have g3 := qab [60,61] hsv (by decide)
 have g4 := qab [62] hsv (by decide)
 have g5 := qab [62,61] hsv (by decide)
 have g6 := qab [43,43] hsv (by decide)
 have g7 := qab [43] hsv (by decide)
 have g8 := qab [45] hsv (by decide)
 have g9 := qab [42] hsv (by decide)
 have g10 := qab [47] hsv (by decide)
 clear hsv
 go_enter Tryz.func91,Tryz.ntmps91
 go_upto_region 2 with (fail)
 obtain ⟨w1,A,B,R,hw1,hA,hB,hR,HB,HN⟩ := qbk w a b
 rw [← hw1,← hR,← hB,← hA]
 clear hw1 hA hB hR
 obtain ⟨a0,a1,a2,-,-,-,al⟩ := HB.out.a.cells
 obtain ⟨b0,b1,b2,-,-,-,bl⟩ := HB.out.b.cells
 obtain ⟨c0,c1,c2,f0,f1,f2,cl⟩ := HB.out.r.cells
 simp only [qaa] at c0 c1 c2
 obtain ⟨q2,h2⟩ : ∃ q,(a.k == 0) = q := ⟨_,rfl⟩
 obtain ⟨q3,h3⟩ : ∃ q,(b.k == 0) = q := ⟨_,rfl⟩
 have HBV : Hid (qdk [37] a b = if (q2 || q3) = true then qaa else qcy [37] a b) := hid (by
  rw [← h2,← h3,qbo,qbo]
  simp only [Bool.or_eq_true,decide_eq_true_eq]
  rfl)
 by_cases hq : (q2 || q3) = true
 ·have HX : Hid (qdk [37] a b = qaa) := hid (by rw [HBV.out,if_pos hq])
  have hfin : ∀ r : Val,r = qaa → Ending.returned r.v = .returned (qdk [37] a b).v := fun r h => by rw [HX.out,h]
  have HFIN := hid hfin
  clear HBV hfin
  cases q2
  ·cases q3
   ·cases hq
   ·clear hq
    go_wp2_with fail
    exact bodyPost_ret (qaf rfl rfl (HB.out.r.set qaa)) rfl ⟨HFIN.out _ rfl,qae HB.out.later HB.out.new qaa⟩
  ·clear hq
   go_wp2_with fail
   exact bodyPost_ret (qaf rfl rfl (HB.out.r.set qaa)) rfl ⟨HFIN.out _ rfl,qae HB.out.later HB.out.new qaa⟩
 have HX : Hid (qdk [37] a b = qcy [37] a b) := hid (by rw [HBV.out,if_neg hq])
 clear HBV
 obtain ⟨rfl,rfl⟩ : q2 = false ∧ q3 = false := by cases q2 <;> cases q3 <;> first | exact ⟨rfl,rfl⟩ | exact absurd rfl hq
 clear hq
 go_wp2_with fail
 refine (qcf a b w1).mono ?_
 rintro e w2 ⟨rfl,hL2⟩
 have HB2 := hid (HB.out.go hL2)
 clear hL2 a0 a1 a2 al b0 b1 b2 bl c0 c1 c2 f0 f1 f2 cl h2 h3
 obtain ⟨cv,hcv⟩ : ∃ n,qba a b = n := ⟨_,rfl⟩
 have HCV := hid hcv
 rw [hcv]
 clear hcv
 obtain ⟨a0,a1,a2,-,-,-,al⟩ := HB2.out.a.cells
 obtain ⟨b0,b1,b2,-,-,-,bl⟩ := HB2.out.b.cells
 by_cases hz : b.n = 0
 ·have HZ := hid hz
  rw [hz] at b1
  have HB3 := HB2
  obtain ⟨c0,c1,c2,f0,f1,f2,cl⟩ := HB3.out.r.cells
  simp only [qaa] at c0 c1 c2
  clear hz
  go_wp2_with fail
  refine bodyPost_ret (qaf rfl rfl (HB3.out.r.set qaa)) rfl ⟨?_,qae HB3.out.later HB3.out.new qaa⟩
  rw [HX.out]
  show _ = Ending.returned (Val.v (if b.n = 0 then qaa else _))
  rw [if_pos HZ.out]
 have HZ := hid hz
 have hz' : (b.n == 0) = false := by simpa using hz
 go_wp2_with fail
 rw [← HW.out]
 refine (vof_any (wrap64 (a.n.tmod b.n)) w2).mono ?_
 rintro e w3 ⟨rfl,hL3⟩
 have HB3 := hid (HB2.out.go hL3)
 clear hL3 a0 a1 a2 al b0 b1 b2 bl
 obtain ⟨c0,c1,c2,f0,f1,f2,cl⟩ := HB3.out.r.cells
 simp only [qaa] at c0 c1 c2
 obtain ⟨r,hr⟩ : ∃ r : Val,r = ⟨1,wrap64 (a.n.tmod b.n),ByteArray.empty⟩ := ⟨_,rfl⟩
 have HRR := hid hr
 rw [← hr,vv r]
 clear hr
 go_wp2_with fail
 refine bodyPost_ret (qaf rfl rfl (HB3.out.r.set r)) rfl ⟨?_,qae HB3.out.later HB3.out.new r⟩
 rw [HX.out,HRR.out]
 show _ = Ending.returned (Val.v (if b.n = 0 then qaa else _))
 rw [if_neg HZ.out]
 rfl
theorem bin_cat (a b : Val) (hsz : a.t.size ≤ 1000 ∧ b.t.size ≤ 1000) (w : World) : Calls Tryz.prog 91 #[.string (qah [43,43]),a.v,b.v] w (qar (qdk [43,43] a b) w) := by
 obtain ⟨sv,hsv⟩ : ∃ s,s = qah [43,43] := ⟨_,rfl⟩
 rw [← hsv]
 have e0 := qab [97,110,100] hsv (by decide)
 have e1 := qab [111,114] hsv (by decide)
 have g0 := qab [61] hsv (by decide)
 have g1 := qab [60,62] hsv (by decide)
 have g2 := qab [60] hsv (by decide)
 have g3 := qab [60,61] hsv (by decide)
 have g4 := qab [62] hsv (by decide)
 have g5 := qab [62,61] hsv (by decide)
 have g6 := qay [43,43] hsv
 clear hsv
 go_enter Tryz.func91,Tryz.ntmps91
 go_upto_region 2 with (fail)
 obtain ⟨w1,A,B,R,hw1,hA,hB,hR,HB,HN⟩ := qbk w a b
 rw [← hw1,← hR,← hB,← hA]
 clear hw1 hA hB hR
 have HSZ := hid hsz
 clear hsz
 obtain ⟨a0,a1,a2,-,-,-,al⟩ := HB.out.a.cells
 obtain ⟨b0,b1,b2,-,-,-,bl⟩ := HB.out.b.cells
 obtain ⟨c0,c1,c2,f0,f1,f2,cl⟩ := HB.out.r.cells
 simp only [qaa] at c0 c1 c2
 obtain ⟨q2,h2⟩ : ∃ q,(a.k == 0) = q := ⟨_,rfl⟩
 obtain ⟨q3,h3⟩ : ∃ q,(b.k == 0) = q := ⟨_,rfl⟩
 have HBV : Hid (qdk [43,43] a b = if (q2 || q3) = true then qaa else qcy [43,43] a b) := hid (by
  rw [← h2,← h3,qbo,qbo]
  simp only [Bool.or_eq_true,decide_eq_true_eq]
  rfl)
 by_cases hq : (q2 || q3) = true
 ·have HX : Hid (qdk [43,43] a b = qaa) := hid (by rw [HBV.out,if_pos hq])
  have hfin : ∀ r : Val,r = qaa → Ending.returned r.v = .returned (qdk [43,43] a b).v := fun r h => by rw [HX.out,h]
  have HFIN := hid hfin
  clear HBV hfin
  cases q2
  ·cases q3
   ·cases hq
   ·clear hq
    go_wp2_with fail
    exact bodyPost_ret (qaf rfl rfl (HB.out.r.set qaa)) rfl ⟨HFIN.out _ rfl,qae HB.out.later HB.out.new qaa⟩
  ·clear hq
   go_wp2_with fail
   exact bodyPost_ret (qaf rfl rfl (HB.out.r.set qaa)) rfl ⟨HFIN.out _ rfl,qae HB.out.later HB.out.new qaa⟩
 have HX : Hid (qdk [43,43] a b = qcy [43,43] a b) := hid (by rw [HBV.out,if_neg hq])
 clear HBV
 obtain ⟨rfl,rfl⟩ : q2 = false ∧ q3 = false := by cases q2 <;> cases q3 <;> first | exact ⟨rfl,rfl⟩ | exact absurd rfl hq
 clear hq
 go_wp2_with fail
 refine (qcf a b w1).mono ?_
 rintro e w2 ⟨rfl,hL2⟩
 have HB2 := hid (HB.out.go hL2)
 clear hL2 a0 a1 a2 al b0 b1 b2 bl c0 c1 c2 f0 f1 f2 cl h2 h3
 obtain ⟨cv,hcv⟩ : ∃ n,qba a b = n := ⟨_,rfl⟩
 have HCV := hid hcv
 rw [hcv]
 clear hcv
 obtain ⟨a0,a1,a2,-,-,-,al⟩ := HB2.out.a.cells
 obtain ⟨b0,b1,b2,-,-,-,bl⟩ := HB2.out.b.cells
 have hs1 : ¬ (9223372036854775807 : Int) < a.t.size + b.t.size := by have := HSZ.out; omega
 go_wp2_with fail
 refine (vwords_any _ w2).mono ?_
 rintro e w3 ⟨rfl,hL3⟩
 have HB3 := hid (HB2.out.go hL3)
 clear hL3 a0 a1 a2 al b0 b1 b2 bl
 obtain ⟨c0,c1,c2,f0,f1,f2,cl⟩ := HB3.out.r.cells
 simp only [qaa] at c0 c1 c2
 obtain ⟨r,hr⟩ : ∃ r : Val,r = ⟨3,0,(a.t ++ b.t).extract 0 (min ((a.t.size : Int) + (b.t.size : Int)) 60).toNat⟩ := ⟨_,rfl⟩
 have HRR := hid hr
 rw [← hr,vv r]
 clear hr
 go_wp2_with fail
 refine bodyPost_ret (qaf rfl rfl (HB3.out.r.set r)) rfl ⟨?_,qae HB3.out.later HB3.out.new r⟩
 rw [HX.out,HRR.out]
 rw [cat_take a.t b.t]
 rfl
end Go.Proofs.YtgajofkeidjbgaaGreatDoor
