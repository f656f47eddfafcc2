/-
  PROVED HERE: a part of the proof of ExprEvals: RStrict.
-/
import Derived.Test.YtgajofkeidjbgaaGreatDoorShort
import Derived.Test.YtgajofkeidjbgaaGreatDoorGEval2
import Derived.Test.YtgajofkeidjbgaaGreatDoorGRFits
namespace Go.Proofs.YtgajofkeidjbgaaGreatDoor
set_option linter.unusedSimpArgs false
set_option linter.unusedVariables false
set_option maxHeartbeats 8000000
set_option maxRecDepth 100000
open Go.RowKit
attribute [local go_sem high] qdq qdp
theorem qca (b : Bool) (w : World) : Calls Tryz.prog 34 #[.bool b] w (qar ⟨2,if b = true then 1 else 0,ByteArray.empty⟩ w) := by
 cases b
 ·
  go_enter Tryz.func34,Tryz.ntmps34
  go_wp2_with fail
  exact bodyPost_ret (v := .agg #[.int .i64 2,.int .i64 0,.string ⟨#[]⟩]) (by simp [results,Tryz.results34,go_sem]) rfl ⟨rfl,qag.alloc _ _⟩
 ·
  go_enter Tryz.func34,Tryz.ntmps34
  go_wp2_with fail
  exact bodyPost_ret (v := .agg #[.int .i64 2,.int .i64 1,.string ⟨#[]⟩]) (by simp [results,Tryz.results34,go_sem]) rfl ⟨rfl,qag.alloc _ _⟩
theorem qdt (n : Int) (w : World) : Calls Tryz.prog 62 #[.int .i64 n] w (qar ⟨1,n,ByteArray.empty⟩ w) := by
 go_enter Tryz.func62,Tryz.ntmps62
 go_wp2_with fail
 exact bodyPost_ret (v := .agg #[.int .i64 1,.int .i64 n,.string ⟨#[]⟩]) (by simp [results,Tryz.results62,go_sem]) rfl ⟨rfl,qag.alloc _ _⟩
theorem rtext_any (t : ByteArray) (w : World) : Calls Tryz.prog 63 #[.string t] w (qar ⟨3,0,t⟩ w) := by
 go_enter Tryz.func63,Tryz.ntmps63
 go_wp2_with fail
 exact bodyPost_ret (v := .agg #[.int .i64 3,.int .i64 0,.string t]) (by simp [results,Tryz.results63,go_sem]) rfl ⟨rfl,qag.alloc _ _⟩
theorem rs_and (X : Nat) (nm : List UInt8) (a b : Val) (w : World) (hX : w.cell? ⟨X,0,none⟩ = some (.string (qah [97,110,100]))) : Calls Tryz.prog 35 #[.pointer (some ⟨X,0,none⟩),a.v,b.v] w (qar (qat [97,110,100] nm a b) w) := by
 obtain ⟨x,hx⟩ : ∃ x,qat [97,110,100] nm a b = x := ⟨_,rfl⟩
 have HX : Hid (qat [97,110,100] nm a b = x) := hid hx
 rw [hx]
 clear hx
 obtain ⟨sv,hsv⟩ : ∃ s,s = qah [97,110,100] := ⟨_,rfl⟩
 rw [← hsv] at hX
 have e0 := qay [97,110,100] hsv
 clear hsv
 go_enter Tryz.func35,Tryz.ntmps35
 go_upto_region 1 with (fail)
 obtain ⟨w1,A,B,R,hw1,hA,hB,hR,HB,-⟩ := qbk w a b
 rw [← hw1,← hR,← hB,← hA]
 clear hw1 hA hB hR
 obtain ⟨a0,a1,a2,-,-,-,al⟩ := HB.out.a.cells
 obtain ⟨b0,b1,b2,-,-,-,bl⟩ := HB.out.b.cells
 go_wp2_with fail
 refine (qbi a b w1).mono ?_
 rintro e w2 ⟨rfl,hL2⟩
 have HB2 := hid (HB.out.go hL2)
 replace hX := HB2.out.later.cell hX
 have hXl := qad hX
 obtain ⟨bf,hbf⟩ : ∃ q,beforeV a b = q := ⟨_,rfl⟩
 have HBF := hid hbf
 rw [hbf]
 clear hL2 a0 a1 a2 al b0 b1 b2 bl hbf
 obtain ⟨a0,a1,a2,-,-,-,al⟩ := HB2.out.a.cells
 obtain ⟨b0,b1,b2,-,-,-,bl⟩ := HB2.out.b.cells
 go_wp2_with fail
 refine (qca true w2).mono ?_
 rintro e w3 ⟨rfl,hL3⟩
 have HB3 := hid (HB2.out.go hL3)
 obtain ⟨r,hr⟩ : ∃ r : Val,r = ⟨2,if true = true then 1 else 0,ByteArray.empty⟩ := ⟨_,rfl⟩
 have HRR := hid hr
 rw [← hr,vv r]
 clear hr hL3 a0 a1 a2 al b0 b1 b2 bl hX hXl
 obtain ⟨c0,c1,c2,f0,f1,f2,cl⟩ := HB3.out.r.cells
 simp only [qaa] at c0 c1 c2
 go_wp2_with fail
 refine bodyPost_ret (qaf rfl rfl (HB3.out.r.set r)) rfl ⟨?_,qae HB3.out.later HB3.out.new r⟩
 rw [← HX.out,HRR.out]
 rfl
theorem rs_or (X : Nat) (nm : List UInt8) (a b : Val) (w : World) (hX : w.cell? ⟨X,0,none⟩ = some (.string (qah [111,114]))) : Calls Tryz.prog 35 #[.pointer (some ⟨X,0,none⟩),a.v,b.v] w (qar (qat [111,114] nm a b) w) := by
 obtain ⟨x,hx⟩ : ∃ x,qat [111,114] nm a b = x := ⟨_,rfl⟩
 have HX : Hid (qat [111,114] nm a b = x) := hid hx
 rw [hx]
 clear hx
 obtain ⟨sv,hsv⟩ : ∃ s,s = qah [111,114] := ⟨_,rfl⟩
 rw [← hsv] at hX
 have e0 := qab [97,110,100] hsv (by decide)
 have e1 := qay [111,114] hsv
 clear hsv
 go_enter Tryz.func35,Tryz.ntmps35
 go_upto_region 1 with (fail)
 obtain ⟨w1,A,B,R,hw1,hA,hB,hR,HB,-⟩ := qbk w a b
 rw [← hw1,← hR,← hB,← hA]
 clear hw1 hA hB hR
 obtain ⟨a0,a1,a2,-,-,-,al⟩ := HB.out.a.cells
 obtain ⟨b0,b1,b2,-,-,-,bl⟩ := HB.out.b.cells
 go_wp2_with fail
 refine (qbi a b w1).mono ?_
 rintro e w2 ⟨rfl,hL2⟩
 have HB2 := hid (HB.out.go hL2)
 replace hX := HB2.out.later.cell hX
 have hXl := qad hX
 obtain ⟨bf,hbf⟩ : ∃ q,beforeV a b = q := ⟨_,rfl⟩
 have HBF := hid hbf
 rw [hbf]
 clear hL2 a0 a1 a2 al b0 b1 b2 bl hbf
 obtain ⟨a0,a1,a2,-,-,-,al⟩ := HB2.out.a.cells
 obtain ⟨b0,b1,b2,-,-,-,bl⟩ := HB2.out.b.cells
 go_wp2_with fail
 refine (qca false w2).mono ?_
 rintro e w3 ⟨rfl,hL3⟩
 have HB3 := hid (HB2.out.go hL3)
 obtain ⟨r,hr⟩ : ∃ r : Val,r = ⟨2,if false = true then 1 else 0,ByteArray.empty⟩ := ⟨_,rfl⟩
 have HRR := hid hr
 rw [← hr,vv r]
 clear hr hL3 a0 a1 a2 al b0 b1 b2 bl hX hXl
 obtain ⟨c0,c1,c2,f0,f1,f2,cl⟩ := HB3.out.r.cells
 simp only [qaa] at c0 c1 c2
 go_wp2_with fail
 refine bodyPost_ret (qaf rfl rfl (HB3.out.r.set r)) rfl ⟨?_,qae HB3.out.later HB3.out.new r⟩
 rw [← HX.out,HRR.out]
 rfl
theorem rs_not (X : Nat) (nm : List UInt8) (a b : Val) (w : World) (hX : w.cell? ⟨X,0,none⟩ = some (.string (qah [110,111,116]))) : Calls Tryz.prog 35 #[.pointer (some ⟨X,0,none⟩),a.v,b.v] w (qar (qat [110,111,116] nm a b) w) := by
 obtain ⟨x,hx⟩ : ∃ x,qat [110,111,116] nm a b = x := ⟨_,rfl⟩
 have HX : Hid (qat [110,111,116] nm a b = x) := hid hx
 rw [hx]
 clear hx
 obtain ⟨sv,hsv⟩ : ∃ s,s = qah [110,111,116] := ⟨_,rfl⟩
 rw [← hsv] at hX
 have e0 := qab [97,110,100] hsv (by decide)
 have e1 := qab [111,114] hsv (by decide)
 have e2 := qay [110,111,116] hsv
 clear hsv
 go_enter Tryz.func35,Tryz.ntmps35
 go_upto_region 1 with (fail)
 obtain ⟨w1,A,B,R,hw1,hA,hB,hR,HB,-⟩ := qbk w a b
 rw [← hw1,← hR,← hB,← hA]
 clear hw1 hA hB hR
 obtain ⟨a0,a1,a2,-,-,-,al⟩ := HB.out.a.cells
 obtain ⟨b0,b1,b2,-,-,-,bl⟩ := HB.out.b.cells
 go_wp2_with fail
 refine (qbi a b w1).mono ?_
 rintro e w2 ⟨rfl,hL2⟩
 have HB2 := hid (HB.out.go hL2)
 replace hX := HB2.out.later.cell hX
 have hXl := qad hX
 obtain ⟨bf,hbf⟩ : ∃ q,beforeV a b = q := ⟨_,rfl⟩
 have HBF := hid hbf
 rw [hbf]
 clear hL2 a0 a1 a2 al b0 b1 b2 bl hbf
 obtain ⟨a0,a1,a2,-,-,-,al⟩ := HB2.out.a.cells
 obtain ⟨b0,b1,b2,-,-,-,bl⟩ := HB2.out.b.cells
 obtain ⟨q,hq⟩ : ∃ q,decide (a.n = 0) = q := ⟨_,rfl⟩
 have HQ := hid hq
 have hqe : (a.n == 0) = q := by rw [qbo]; exact hq
 clear hq
 go_wp2_with fail
 try rw [hqe]
 refine (qca q w2).mono ?_
 clear hqe
 rintro e w3 ⟨rfl,hL3⟩
 have HB3 := hid (HB2.out.go hL3)
 obtain ⟨r,hr⟩ : ∃ r : Val,r = ⟨2,if q = true then 1 else 0,ByteArray.empty⟩ := ⟨_,rfl⟩
 have HRR := hid hr
 rw [← hr,vv r]
 clear hr hL3 a0 a1 a2 al b0 b1 b2 bl hX hXl
 obtain ⟨c0,c1,c2,f0,f1,f2,cl⟩ := HB3.out.r.cells
 simp only [qaa] at c0 c1 c2
 go_wp2_with fail
 refine bodyPost_ret (qaf rfl rfl (HB3.out.r.set r)) rfl ⟨?_,qae HB3.out.later HB3.out.new r⟩
 rw [← HX.out,HRR.out]
 rw [← HQ.out]
 rfl
theorem rs_minus (X : Nat) (nm : List UInt8) (a b : Val) (w : World) (hX : w.cell? ⟨X,0,none⟩ = some (.string (qah [109,105,110,117,115]))) : Calls Tryz.prog 35 #[.pointer (some ⟨X,0,none⟩),a.v,b.v] w (qar (qat [109,105,110,117,115] nm a b) w) := by
 obtain ⟨x,hx⟩ : ∃ x,qat [109,105,110,117,115] nm a b = x := ⟨_,rfl⟩
 have HX : Hid (qat [109,105,110,117,115] nm a b = x) := hid hx
 rw [hx]
 clear hx
 obtain ⟨sv,hsv⟩ : ∃ s,s = qah [109,105,110,117,115] := ⟨_,rfl⟩
 rw [← hsv] at hX
 have e0 := qab [97,110,100] hsv (by decide)
 have e1 := qab [111,114] hsv (by decide)
 have e2 := qab [110,111,116] hsv (by decide)
 have e3 := qay [109,105,110,117,115] hsv
 clear hsv
 go_enter Tryz.func35,Tryz.ntmps35
 go_upto_region 1 with (fail)
 obtain ⟨w1,A,B,R,hw1,hA,hB,hR,HB,-⟩ := qbk w a b
 rw [← hw1,← hR,← hB,← hA]
 clear hw1 hA hB hR
 obtain ⟨a0,a1,a2,-,-,-,al⟩ := HB.out.a.cells
 obtain ⟨b0,b1,b2,-,-,-,bl⟩ := HB.out.b.cells
 go_wp2_with fail
 refine (qbi a b w1).mono ?_
 rintro e w2 ⟨rfl,hL2⟩
 have HB2 := hid (HB.out.go hL2)
 replace hX := HB2.out.later.cell hX
 have hXl := qad hX
 obtain ⟨bf,hbf⟩ : ∃ q,beforeV a b = q := ⟨_,rfl⟩
 have HBF := hid hbf
 rw [hbf]
 clear hL2 a0 a1 a2 al b0 b1 b2 bl hbf
 obtain ⟨a0,a1,a2,-,-,-,al⟩ := HB2.out.a.cells
 obtain ⟨b0,b1,b2,-,-,-,bl⟩ := HB2.out.b.cells
 go_wp2_with fail
 refine (qdt (wrap64 (-a.n)) w2).mono ?_
 rintro e w3 ⟨rfl,hL3⟩
 have HB3 := hid (HB2.out.go hL3)
 obtain ⟨r,hr⟩ : ∃ r : Val,r = ⟨1,(wrap64 (-a.n)),ByteArray.empty⟩ := ⟨_,rfl⟩
 have HRR := hid hr
 rw [← hr,vv r]
 clear hr hL3 a0 a1 a2 al b0 b1 b2 bl hX hXl
 obtain ⟨c0,c1,c2,f0,f1,f2,cl⟩ := HB3.out.r.cells
 simp only [qaa] at c0 c1 c2
 go_wp2_with fail
 refine bodyPost_ret (qaf rfl rfl (HB3.out.r.set r)) rfl ⟨?_,qae HB3.out.later HB3.out.new r⟩
 rw [← HX.out,HRR.out]
 rfl
theorem rs_eq (X : Nat) (nm : List UInt8) (a b : Val) (w : World) (hX : w.cell? ⟨X,0,none⟩ = some (.string (qah [61]))) : Calls Tryz.prog 35 #[.pointer (some ⟨X,0,none⟩),a.v,b.v] w (qar (qat [61] nm a b) w) := by
 obtain ⟨x,hx⟩ : ∃ x,qat [61] nm a b = x := ⟨_,rfl⟩
 have HX : Hid (qat [61] nm a b = x) := hid hx
 rw [hx]
 clear hx
 obtain ⟨sv,hsv⟩ : ∃ s,s = qah [61] := ⟨_,rfl⟩
 rw [← hsv] at hX
 have e0 := qab [97,110,100] hsv (by decide)
 have e1 := qab [111,114] hsv (by decide)
 have e2 := qab [110,111,116] hsv (by decide)
 have e3 := qab [109,105,110,117,115] hsv (by decide)
 have e4 := qay [61] hsv
 clear hsv
 go_enter Tryz.func35,Tryz.ntmps35
 go_upto_region 1 with (fail)
 obtain ⟨w1,A,B,R,hw1,hA,hB,hR,HB,-⟩ := qbk w a b
 rw [← hw1,← hR,← hB,← hA]
 clear hw1 hA hB hR
 obtain ⟨a0,a1,a2,-,-,-,al⟩ := HB.out.a.cells
 obtain ⟨b0,b1,b2,-,-,-,bl⟩ := HB.out.b.cells
 go_wp2_with fail
 refine (qbi a b w1).mono ?_
 rintro e w2 ⟨rfl,hL2⟩
 have HB2 := hid (HB.out.go hL2)
 replace hX := HB2.out.later.cell hX
 have hXl := qad hX
 obtain ⟨bf,hbf⟩ : ∃ q,beforeV a b = q := ⟨_,rfl⟩
 have HBF := hid hbf
 rw [hbf]
 clear hL2 a0 a1 a2 al b0 b1 b2 bl hbf
 obtain ⟨a0,a1,a2,-,-,-,al⟩ := HB2.out.a.cells
 obtain ⟨b0,b1,b2,-,-,-,bl⟩ := HB2.out.b.cells
 obtain ⟨q,hq⟩ : ∃ q,decide (a = b) = q := ⟨_,rfl⟩
 have HQ := hid hq
 have hqe : eqV ⟨a.k,a.n,a.t⟩ ⟨b.k,b.n,b.t⟩ = q := by rw [← hq,eqV_dec]
 clear hq
 go_wp2_with fail
 try rw [hqe]
 refine (qca q w2).mono ?_
 clear hqe
 rintro e w3 ⟨rfl,hL3⟩
 have HB3 := hid (HB2.out.go hL3)
 obtain ⟨r,hr⟩ : ∃ r : Val,r = ⟨2,if q = true then 1 else 0,ByteArray.empty⟩ := ⟨_,rfl⟩
 have HRR := hid hr
 rw [← hr,vv r]
 clear hr hL3 a0 a1 a2 al b0 b1 b2 bl hX hXl
 obtain ⟨c0,c1,c2,f0,f1,f2,cl⟩ := HB3.out.r.cells
 simp only [qaa] at c0 c1 c2
 go_wp2_with fail
 refine bodyPost_ret (qaf rfl rfl (HB3.out.r.set r)) rfl ⟨?_,qae HB3.out.later HB3.out.new r⟩
 rw [← HX.out,HRR.out]
 rw [← HQ.out]
 rfl
theorem rs_ne (X : Nat) (nm : List UInt8) (a b : Val) (w : World) (hX : w.cell? ⟨X,0,none⟩ = some (.string (qah [60,62]))) : Calls Tryz.prog 35 #[.pointer (some ⟨X,0,none⟩),a.v,b.v] w (qar (qat [60,62] nm a b) w) := by
 obtain ⟨x,hx⟩ : ∃ x,qat [60,62] nm a b = x := ⟨_,rfl⟩
 have HX : Hid (qat [60,62] nm a b = x) := hid hx
 rw [hx]
 clear hx
 obtain ⟨sv,hsv⟩ : ∃ s,s = qah [60,62] := ⟨_,rfl⟩
 rw [← hsv] at hX
 have e0 := qab [97,110,100] hsv (by decide)
 have e1 := qab [111,114] hsv (by decide)
 have e2 := qab [110,111,116] hsv (by decide)
 have e3 := qab [109,105,110,117,115] hsv (by decide)
 have e4 := qab [61] hsv (by decide)
 have e5 := qay [60,62] hsv
 clear hsv
 go_enter Tryz.func35,Tryz.ntmps35
 go_upto_region 1 with (fail)
 obtain ⟨w1,A,B,R,hw1,hA,hB,hR,HB,-⟩ := qbk w a b
 rw [← hw1,← hR,← hB,← hA]
 clear hw1 hA hB hR
 obtain ⟨a0,a1,a2,-,-,-,al⟩ := HB.out.a.cells
 obtain ⟨b0,b1,b2,-,-,-,bl⟩ := HB.out.b.cells
 go_wp2_with fail
 refine (qbi a b w1).mono ?_
 rintro e w2 ⟨rfl,hL2⟩
 have HB2 := hid (HB.out.go hL2)
 replace hX := HB2.out.later.cell hX
 have hXl := qad hX
 obtain ⟨bf,hbf⟩ : ∃ q,beforeV a b = q := ⟨_,rfl⟩
 have HBF := hid hbf
 rw [hbf]
 clear hL2 a0 a1 a2 al b0 b1 b2 bl hbf
 obtain ⟨a0,a1,a2,-,-,-,al⟩ := HB2.out.a.cells
 obtain ⟨b0,b1,b2,-,-,-,bl⟩ := HB2.out.b.cells
 obtain ⟨q,hq⟩ : ∃ q,decide (a ≠ b) = q := ⟨_,rfl⟩
 have HQ := hid hq
 have hqe : (!eqV ⟨a.k,a.n,a.t⟩ ⟨b.k,b.n,b.t⟩) = q := by rw [← hq,eqV_dec]; show (!decide (a = b)) = decide (a ≠ b); by_cases h : a = b <;> simp [h]
 clear hq
 go_wp2_with fail
 try rw [hqe]
 refine (qca q w2).mono ?_
 clear hqe
 rintro e w3 ⟨rfl,hL3⟩
 have HB3 := hid (HB2.out.go hL3)
 obtain ⟨r,hr⟩ : ∃ r : Val,r = ⟨2,if q = true then 1 else 0,ByteArray.empty⟩ := ⟨_,rfl⟩
 have HRR := hid hr
 rw [← hr,vv r]
 clear hr hL3 a0 a1 a2 al b0 b1 b2 bl hX hXl
 obtain ⟨c0,c1,c2,f0,f1,f2,cl⟩ := HB3.out.r.cells
 simp only [qaa] at c0 c1 c2
 go_wp2_with fail
 refine bodyPost_ret (qaf rfl rfl (HB3.out.r.set r)) rfl ⟨?_,qae HB3.out.later HB3.out.new r⟩
 rw [← HX.out,HRR.out]
 rw [← HQ.out]
 rfl
theorem rs_lt (X : Nat) (nm : List UInt8) (a b : Val) (w : World) (hX : w.cell? ⟨X,0,none⟩ = some (.string (qah [60]))) : Calls Tryz.prog 35 #[.pointer (some ⟨X,0,none⟩),a.v,b.v] w (qar (qat [60] nm a b) w) := by
 obtain ⟨x,hx⟩ : ∃ x,qat [60] nm a b = x := ⟨_,rfl⟩
 have HX : Hid (qat [60] nm a b = x) := hid hx
 rw [hx]
 clear hx
 obtain ⟨sv,hsv⟩ : ∃ s,s = qah [60] := ⟨_,rfl⟩
 rw [← hsv] at hX
 have e0 := qab [97,110,100] hsv (by decide)
 have e1 := qab [111,114] hsv (by decide)
 have e2 := qab [110,111,116] hsv (by decide)
 have e3 := qab [109,105,110,117,115] hsv (by decide)
 have e4 := qab [61] hsv (by decide)
 have e5 := qab [60,62] hsv (by decide)
 have e6 := qay [60] hsv
 clear hsv
 go_enter Tryz.func35,Tryz.ntmps35
 go_upto_region 1 with (fail)
 obtain ⟨w1,A,B,R,hw1,hA,hB,hR,HB,-⟩ := qbk w a b
 rw [← hw1,← hR,← hB,← hA]
 clear hw1 hA hB hR
 obtain ⟨a0,a1,a2,-,-,-,al⟩ := HB.out.a.cells
 obtain ⟨b0,b1,b2,-,-,-,bl⟩ := HB.out.b.cells
 go_wp2_with fail
 refine (qbi a b w1).mono ?_
 rintro e w2 ⟨rfl,hL2⟩
 have HB2 := hid (HB.out.go hL2)
 replace hX := HB2.out.later.cell hX
 have hXl := qad hX
 obtain ⟨bf,hbf⟩ : ∃ q,beforeV a b = q := ⟨_,rfl⟩
 have HBF := hid hbf
 rw [hbf]
 clear hL2 a0 a1 a2 al b0 b1 b2 bl hbf
 obtain ⟨a0,a1,a2,-,-,-,al⟩ := HB2.out.a.cells
 obtain ⟨b0,b1,b2,-,-,-,bl⟩ := HB2.out.b.cells
 go_wp2_with fail
 refine (qca bf w2).mono ?_
 rintro e w3 ⟨rfl,hL3⟩
 have HB3 := hid (HB2.out.go hL3)
 obtain ⟨r,hr⟩ : ∃ r : Val,r = ⟨2,if bf = true then 1 else 0,ByteArray.empty⟩ := ⟨_,rfl⟩
 have HRR := hid hr
 rw [← hr,vv r]
 clear hr hL3 a0 a1 a2 al b0 b1 b2 bl hX hXl
 obtain ⟨c0,c1,c2,f0,f1,f2,cl⟩ := HB3.out.r.cells
 simp only [qaa] at c0 c1 c2
 go_wp2_with fail
 refine bodyPost_ret (qaf rfl rfl (HB3.out.r.set r)) rfl ⟨?_,qae HB3.out.later HB3.out.new r⟩
 rw [← HX.out,HRR.out]
 rw [← HBF.out]
 rfl
theorem rs_le (X : Nat) (nm : List UInt8) (a b : Val) (w : World) (hX : w.cell? ⟨X,0,none⟩ = some (.string (qah [60,61]))) : Calls Tryz.prog 35 #[.pointer (some ⟨X,0,none⟩),a.v,b.v] w (qar (qat [60,61] nm a b) w) := by
 obtain ⟨x,hx⟩ : ∃ x,qat [60,61] nm a b = x := ⟨_,rfl⟩
 have HX : Hid (qat [60,61] nm a b = x) := hid hx
 rw [hx]
 clear hx
 obtain ⟨sv,hsv⟩ : ∃ s,s = qah [60,61] := ⟨_,rfl⟩
 rw [← hsv] at hX
 have e0 := qab [97,110,100] hsv (by decide)
 have e1 := qab [111,114] hsv (by decide)
 have e2 := qab [110,111,116] hsv (by decide)
 have e3 := qab [109,105,110,117,115] hsv (by decide)
 have e4 := qab [61] hsv (by decide)
 have e5 := qab [60,62] hsv (by decide)
 have e6 := qab [60] hsv (by decide)
 have e7 := qay [60,61] hsv
 clear hsv
 go_enter Tryz.func35,Tryz.ntmps35
 go_upto_region 1 with (fail)
 obtain ⟨w1,A,B,R,hw1,hA,hB,hR,HB,-⟩ := qbk w a b
 rw [← hw1,← hR,← hB,← hA]
 clear hw1 hA hB hR
 obtain ⟨a0,a1,a2,-,-,-,al⟩ := HB.out.a.cells
 obtain ⟨b0,b1,b2,-,-,-,bl⟩ := HB.out.b.cells
 go_wp2_with fail
 refine (qbi a b w1).mono ?_
 rintro e w2 ⟨rfl,hL2⟩
 have HB2 := hid (HB.out.go hL2)
 replace hX := HB2.out.later.cell hX
 have hXl := qad hX
 obtain ⟨bf,hbf⟩ : ∃ q,beforeV a b = q := ⟨_,rfl⟩
 have HBF := hid hbf
 rw [hbf]
 clear hL2 a0 a1 a2 al b0 b1 b2 bl hbf
 obtain ⟨a0,a1,a2,-,-,-,al⟩ := HB2.out.a.cells
 obtain ⟨b0,b1,b2,-,-,-,bl⟩ := HB2.out.b.cells
 obtain ⟨q,hq⟩ : ∃ q,decide (a = b) = q := ⟨_,rfl⟩
 have HQ := hid hq
 have hqe : eqV ⟨a.k,a.n,a.t⟩ ⟨b.k,b.n,b.t⟩ = q := by rw [← hq,eqV_dec]
 clear hq
 cases bf
 ·
  go_wp2_with fail
  try rw [hqe]
  refine (qca q w2).mono ?_
  clear hqe
  rintro e w3 ⟨rfl,hL3⟩
  have HB3 := hid (HB2.out.go hL3)
  obtain ⟨r,hr⟩ : ∃ r : Val,r = ⟨2,if q = true then 1 else 0,ByteArray.empty⟩ := ⟨_,rfl⟩
  have HRR := hid hr
  rw [← hr,vv r]
  clear hr hL3 a0 a1 a2 al b0 b1 b2 bl hX hXl
  obtain ⟨c0,c1,c2,f0,f1,f2,cl⟩ := HB3.out.r.cells
  simp only [qaa] at c0 c1 c2
  go_wp2_with fail
  refine bodyPost_ret (qaf rfl rfl (HB3.out.r.set r)) rfl ⟨?_,qae HB3.out.later HB3.out.new r⟩
  rw [← HX.out,HRR.out]
  rw [show qat [60,61] nm a b = qav (beforeV a b || decide (a = b)) from rfl,HBF.out,HQ.out]
  try cases q
  all_goals rfl
 ·
  go_wp2_with fail
  try rw [hqe]
  refine (qca true w2).mono ?_
  clear hqe
  rintro e w3 ⟨rfl,hL3⟩
  have HB3 := hid (HB2.out.go hL3)
  obtain ⟨r,hr⟩ : ∃ r : Val,r = ⟨2,if true = true then 1 else 0,ByteArray.empty⟩ := ⟨_,rfl⟩
  have HRR := hid hr
  rw [← hr,vv r]
  clear hr hL3 a0 a1 a2 al b0 b1 b2 bl hX hXl
  obtain ⟨c0,c1,c2,f0,f1,f2,cl⟩ := HB3.out.r.cells
  simp only [qaa] at c0 c1 c2
  go_wp2_with fail
  refine bodyPost_ret (qaf rfl rfl (HB3.out.r.set r)) rfl ⟨?_,qae HB3.out.later HB3.out.new r⟩
  rw [← HX.out,HRR.out]
  rw [show qat [60,61] nm a b = qav (beforeV a b || decide (a = b)) from rfl,HBF.out,HQ.out]
  try cases q
  all_goals rfl
theorem rs_gt (X : Nat) (nm : List UInt8) (a b : Val) (w : World) (hX : w.cell? ⟨X,0,none⟩ = some (.string (qah [62]))) : Calls Tryz.prog 35 #[.pointer (some ⟨X,0,none⟩),a.v,b.v] w (qar (qat [62] nm a b) w) := by
 obtain ⟨x,hx⟩ : ∃ x,qat [62] nm a b = x := ⟨_,rfl⟩
 have HX : Hid (qat [62] nm a b = x) := hid hx
 rw [hx]
 clear hx
 obtain ⟨sv,hsv⟩ : ∃ s,s = qah [62] := ⟨_,rfl⟩
 rw [← hsv] at hX
 have e0 := qab [97,110,100] hsv (by decide)
 have e1 := qab [111,114] hsv (by decide)
 have e2 := qab [110,111,116] hsv (by decide)
 have e3 := qab [109,105,110,117,115] hsv (by decide)
 have e4 := qab [61] hsv (by decide)
 have e5 := qab [60,62] hsv (by decide)
 have e6 := qab [60] hsv (by decide)
 have e7 := qab [60,61] hsv (by decide)
 have e8 := qay [62] hsv
 clear hsv
 go_enter Tryz.func35,Tryz.ntmps35
 go_upto_region 1 with (fail)
 obtain ⟨w1,A,B,R,hw1,hA,hB,hR,HB,-⟩ := qbk w a b
 rw [← hw1,← hR,← hB,← hA]
 clear hw1 hA hB hR
 obtain ⟨a0,a1,a2,-,-,-,al⟩ := HB.out.a.cells
 obtain ⟨b0,b1,b2,-,-,-,bl⟩ := HB.out.b.cells
 go_wp2_with fail
 refine (qbi a b w1).mono ?_
 rintro e w2 ⟨rfl,hL2⟩
 have HB2 := hid (HB.out.go hL2)
 replace hX := HB2.out.later.cell hX
 have hXl := qad hX
 obtain ⟨bf,hbf⟩ : ∃ q,beforeV a b = q := ⟨_,rfl⟩
 have HBF := hid hbf
 rw [hbf]
 clear hL2 a0 a1 a2 al b0 b1 b2 bl hbf
 obtain ⟨a0,a1,a2,-,-,-,al⟩ := HB2.out.a.cells
 obtain ⟨b0,b1,b2,-,-,-,bl⟩ := HB2.out.b.cells
 obtain ⟨q,hq⟩ : ∃ q,decide (a ≠ b) = q := ⟨_,rfl⟩
 have HQ := hid hq
 have hqe : (!eqV ⟨a.k,a.n,a.t⟩ ⟨b.k,b.n,b.t⟩) = q := by rw [← hq,eqV_dec]; show (!decide (a = b)) = decide (a ≠ b); by_cases h : a = b <;> simp [h]
 clear hq
 cases bf
 ·
  go_wp2_with fail
  try rw [hqe]
  refine (qca q w2).mono ?_
  clear hqe
  rintro e w3 ⟨rfl,hL3⟩
  have HB3 := hid (HB2.out.go hL3)
  obtain ⟨r,hr⟩ : ∃ r : Val,r = ⟨2,if q = true then 1 else 0,ByteArray.empty⟩ := ⟨_,rfl⟩
  have HRR := hid hr
  rw [← hr,vv r]
  clear hr hL3 a0 a1 a2 al b0 b1 b2 bl hX hXl
  obtain ⟨c0,c1,c2,f0,f1,f2,cl⟩ := HB3.out.r.cells
  simp only [qaa] at c0 c1 c2
  go_wp2_with fail
  refine bodyPost_ret (qaf rfl rfl (HB3.out.r.set r)) rfl ⟨?_,qae HB3.out.later HB3.out.new r⟩
  rw [← HX.out,HRR.out]
  rw [show qat [62] nm a b = qav (!beforeV a b && decide (a ≠ b)) from rfl,HBF.out,HQ.out]
  try cases q
  all_goals rfl
 ·
  go_wp2_with fail
  try rw [hqe]
  refine (qca false w2).mono ?_
  clear hqe
  rintro e w3 ⟨rfl,hL3⟩
  have HB3 := hid (HB2.out.go hL3)
  obtain ⟨r,hr⟩ : ∃ r : Val,r = ⟨2,if false = true then 1 else 0,ByteArray.empty⟩ := ⟨_,rfl⟩
  have HRR := hid hr
  rw [← hr,vv r]
  clear hr hL3 a0 a1 a2 al b0 b1 b2 bl hX hXl
  obtain ⟨c0,c1,c2,f0,f1,f2,cl⟩ := HB3.out.r.cells
  simp only [qaa] at c0 c1 c2
  go_wp2_with fail
  refine bodyPost_ret (qaf rfl rfl (HB3.out.r.set r)) rfl ⟨?_,qae HB3.out.later HB3.out.new r⟩
  rw [← HX.out,HRR.out]
  rw [show qat [62] nm a b = qav (!beforeV a b && decide (a ≠ b)) from rfl,HBF.out,HQ.out]
  try cases q
  all_goals rfl
theorem rs_ge (X : Nat) (nm : List UInt8) (a b : Val) (w : World) (hX : w.cell? ⟨X,0,none⟩ = some (.string (qah [62,61]))) : Calls Tryz.prog 35 #[.pointer (some ⟨X,0,none⟩),a.v,b.v] w (qar (qat [62,61] nm a b) w) := by
 obtain ⟨x,hx⟩ : ∃ x,qat [62,61] nm a b = x := ⟨_,rfl⟩
 have HX : Hid (qat [62,61] nm a b = x) := hid hx
 rw [hx]
 clear hx
 obtain ⟨sv,hsv⟩ : ∃ s,s = qah [62,61] := ⟨_,rfl⟩
 rw [← hsv] at hX
 have e0 := qab [97,110,100] hsv (by decide)
 have e1 := qab [111,114] hsv (by decide)
 have e2 := qab [110,111,116] hsv (by decide)
 have e3 := qab [109,105,110,117,115] hsv (by decide)
 have e4 := qab [61] hsv (by decide)
 have e5 := qab [60,62] hsv (by decide)
 have e6 := qab [60] hsv (by decide)
 have e7 := qab [60,61] hsv (by decide)
 have e8 := qab [62] hsv (by decide)
 have e9 := qay [62,61] hsv
 clear hsv
 go_enter Tryz.func35,Tryz.ntmps35
 go_upto_region 1 with (fail)
 obtain ⟨w1,A,B,R,hw1,hA,hB,hR,HB,-⟩ := qbk w a b
 rw [← hw1,← hR,← hB,← hA]
 clear hw1 hA hB hR
 obtain ⟨a0,a1,a2,-,-,-,al⟩ := HB.out.a.cells
 obtain ⟨b0,b1,b2,-,-,-,bl⟩ := HB.out.b.cells
 go_wp2_with fail
 refine (qbi a b w1).mono ?_
 rintro e w2 ⟨rfl,hL2⟩
 have HB2 := hid (HB.out.go hL2)
 replace hX := HB2.out.later.cell hX
 have hXl := qad hX
 obtain ⟨bf,hbf⟩ : ∃ q,beforeV a b = q := ⟨_,rfl⟩
 have HBF := hid hbf
 rw [hbf]
 clear hL2 a0 a1 a2 al b0 b1 b2 bl hbf
 obtain ⟨a0,a1,a2,-,-,-,al⟩ := HB2.out.a.cells
 obtain ⟨b0,b1,b2,-,-,-,bl⟩ := HB2.out.b.cells
 go_wp2_with fail
 refine (qca (!bf) w2).mono ?_
 rintro e w3 ⟨rfl,hL3⟩
 have HB3 := hid (HB2.out.go hL3)
 obtain ⟨r,hr⟩ : ∃ r : Val,r = ⟨2,if (!bf) = true then 1 else 0,ByteArray.empty⟩ := ⟨_,rfl⟩
 have HRR := hid hr
 rw [← hr,vv r]
 clear hr hL3 a0 a1 a2 al b0 b1 b2 bl hX hXl
 obtain ⟨c0,c1,c2,f0,f1,f2,cl⟩ := HB3.out.r.cells
 simp only [qaa] at c0 c1 c2
 go_wp2_with fail
 refine bodyPost_ret (qaf rfl rfl (HB3.out.r.set r)) rfl ⟨?_,qae HB3.out.later HB3.out.new r⟩
 rw [← HX.out,HRR.out]
 rw [← HBF.out]
 rfl
theorem rs_add (X : Nat) (nm : List UInt8) (a b : Val) (w : World) (hX : w.cell? ⟨X,0,none⟩ = some (.string (qah [43]))) : Calls Tryz.prog 35 #[.pointer (some ⟨X,0,none⟩),a.v,b.v] w (qar (qat [43] nm a b) w) := by
 obtain ⟨x,hx⟩ : ∃ x,qat [43] nm a b = x := ⟨_,rfl⟩
 have HX : Hid (qat [43] nm a b = x) := hid hx
 rw [hx]
 clear hx
 obtain ⟨sv,hsv⟩ : ∃ s,s = qah [43] := ⟨_,rfl⟩
 rw [← hsv] at hX
 have e0 := qab [97,110,100] hsv (by decide)
 have e1 := qab [111,114] hsv (by decide)
 have e2 := qab [110,111,116] hsv (by decide)
 have e3 := qab [109,105,110,117,115] hsv (by decide)
 have e4 := qab [61] hsv (by decide)
 have e5 := qab [60,62] hsv (by decide)
 have e6 := qab [60] hsv (by decide)
 have e7 := qab [60,61] hsv (by decide)
 have e8 := qab [62] hsv (by decide)
 have e9 := qab [62,61] hsv (by decide)
 have e10 := qab [43,43] hsv (by decide)
 have e11 := qay [43] hsv
 clear hsv
 go_enter Tryz.func35,Tryz.ntmps35
 go_upto_region 1 with (fail)
 obtain ⟨w1,A,B,R,hw1,hA,hB,hR,HB,-⟩ := qbk w a b
 rw [← hw1,← hR,← hB,← hA]
 clear hw1 hA hB hR
 obtain ⟨a0,a1,a2,-,-,-,al⟩ := HB.out.a.cells
 obtain ⟨b0,b1,b2,-,-,-,bl⟩ := HB.out.b.cells
 go_wp2_with fail
 refine (qbi a b w1).mono ?_
 rintro e w2 ⟨rfl,hL2⟩
 have HB2 := hid (HB.out.go hL2)
 replace hX := HB2.out.later.cell hX
 have hXl := qad hX
 obtain ⟨bf,hbf⟩ : ∃ q,beforeV a b = q := ⟨_,rfl⟩
 have HBF := hid hbf
 rw [hbf]
 clear hL2 a0 a1 a2 al b0 b1 b2 bl hbf
 obtain ⟨a0,a1,a2,-,-,-,al⟩ := HB2.out.a.cells
 obtain ⟨b0,b1,b2,-,-,-,bl⟩ := HB2.out.b.cells
 go_wp2_with fail
 refine (qdt (wrap64 (a.n + b.n)) w2).mono ?_
 rintro e w3 ⟨rfl,hL3⟩
 have HB3 := hid (HB2.out.go hL3)
 obtain ⟨r,hr⟩ : ∃ r : Val,r = ⟨1,(wrap64 (a.n + b.n)),ByteArray.empty⟩ := ⟨_,rfl⟩
 have HRR := hid hr
 rw [← hr,vv r]
 clear hr hL3 a0 a1 a2 al b0 b1 b2 bl hX hXl
 obtain ⟨c0,c1,c2,f0,f1,f2,cl⟩ := HB3.out.r.cells
 simp only [qaa] at c0 c1 c2
 go_wp2_with fail
 refine bodyPost_ret (qaf rfl rfl (HB3.out.r.set r)) rfl ⟨?_,qae HB3.out.later HB3.out.new r⟩
 rw [← HX.out,HRR.out]
 rfl
theorem rs_sub (X : Nat) (nm : List UInt8) (a b : Val) (w : World) (hX : w.cell? ⟨X,0,none⟩ = some (.string (qah [45]))) : Calls Tryz.prog 35 #[.pointer (some ⟨X,0,none⟩),a.v,b.v] w (qar (qat [45] nm a b) w) := by
 obtain ⟨x,hx⟩ : ∃ x,qat [45] nm a b = x := ⟨_,rfl⟩
 have HX : Hid (qat [45] nm a b = x) := hid hx
 rw [hx]
 clear hx
 obtain ⟨sv,hsv⟩ : ∃ s,s = qah [45] := ⟨_,rfl⟩
 rw [← hsv] at hX
 have e0 := qab [97,110,100] hsv (by decide)
 have e1 := qab [111,114] hsv (by decide)
 have e2 := qab [110,111,116] hsv (by decide)
 have e3 := qab [109,105,110,117,115] hsv (by decide)
 have e4 := qab [61] hsv (by decide)
 have e5 := qab [60,62] hsv (by decide)
 have e6 := qab [60] hsv (by decide)
 have e7 := qab [60,61] hsv (by decide)
 have e8 := qab [62] hsv (by decide)
 have e9 := qab [62,61] hsv (by decide)
 have e10 := qab [43,43] hsv (by decide)
 have e11 := qab [43] hsv (by decide)
 have e12 := qay [45] hsv
 clear hsv
 go_enter Tryz.func35,Tryz.ntmps35
 go_upto_region 1 with (fail)
 obtain ⟨w1,A,B,R,hw1,hA,hB,hR,HB,-⟩ := qbk w a b
 rw [← hw1,← hR,← hB,← hA]
 clear hw1 hA hB hR
 obtain ⟨a0,a1,a2,-,-,-,al⟩ := HB.out.a.cells
 obtain ⟨b0,b1,b2,-,-,-,bl⟩ := HB.out.b.cells
 go_wp2_with fail
 refine (qbi a b w1).mono ?_
 rintro e w2 ⟨rfl,hL2⟩
 have HB2 := hid (HB.out.go hL2)
 replace hX := HB2.out.later.cell hX
 have hXl := qad hX
 obtain ⟨bf,hbf⟩ : ∃ q,beforeV a b = q := ⟨_,rfl⟩
 have HBF := hid hbf
 rw [hbf]
 clear hL2 a0 a1 a2 al b0 b1 b2 bl hbf
 obtain ⟨a0,a1,a2,-,-,-,al⟩ := HB2.out.a.cells
 obtain ⟨b0,b1,b2,-,-,-,bl⟩ := HB2.out.b.cells
 go_wp2_with fail
 refine (qdt (wrap64 (a.n - b.n)) w2).mono ?_
 rintro e w3 ⟨rfl,hL3⟩
 have HB3 := hid (HB2.out.go hL3)
 obtain ⟨r,hr⟩ : ∃ r : Val,r = ⟨1,(wrap64 (a.n - b.n)),ByteArray.empty⟩ := ⟨_,rfl⟩
 have HRR := hid hr
 rw [← hr,vv r]
 clear hr hL3 a0 a1 a2 al b0 b1 b2 bl hX hXl
 obtain ⟨c0,c1,c2,f0,f1,f2,cl⟩ := HB3.out.r.cells
 simp only [qaa] at c0 c1 c2
 go_wp2_with fail
 refine bodyPost_ret (qaf rfl rfl (HB3.out.r.set r)) rfl ⟨?_,qae HB3.out.later HB3.out.new r⟩
 rw [← HX.out,HRR.out]
 rfl
theorem rs_mul (X : Nat) (nm : List UInt8) (a b : Val) (w : World) (hX : w.cell? ⟨X,0,none⟩ = some (.string (qah [42]))) : Calls Tryz.prog 35 #[.pointer (some ⟨X,0,none⟩),a.v,b.v] w (qar (qat [42] nm a b) w) := by
 obtain ⟨x,hx⟩ : ∃ x,qat [42] nm a b = x := ⟨_,rfl⟩
 have HX : Hid (qat [42] nm a b = x) := hid hx
 rw [hx]
 clear hx
 obtain ⟨sv,hsv⟩ : ∃ s,s = qah [42] := ⟨_,rfl⟩
 rw [← hsv] at hX
 have e0 := qab [97,110,100] hsv (by decide)
 have e1 := qab [111,114] hsv (by decide)
 have e2 := qab [110,111,116] hsv (by decide)
 have e3 := qab [109,105,110,117,115] hsv (by decide)
 have e4 := qab [61] hsv (by decide)
 have e5 := qab [60,62] hsv (by decide)
 have e6 := qab [60] hsv (by decide)
 have e7 := qab [60,61] hsv (by decide)
 have e8 := qab [62] hsv (by decide)
 have e9 := qab [62,61] hsv (by decide)
 have e10 := qab [43,43] hsv (by decide)
 have e11 := qab [43] hsv (by decide)
 have e12 := qab [45] hsv (by decide)
 have e13 := qay [42] hsv
 clear hsv
 go_enter Tryz.func35,Tryz.ntmps35
 go_upto_region 1 with (fail)
 obtain ⟨w1,A,B,R,hw1,hA,hB,hR,HB,-⟩ := qbk w a b
 rw [← hw1,← hR,← hB,← hA]
 clear hw1 hA hB hR
 obtain ⟨a0,a1,a2,-,-,-,al⟩ := HB.out.a.cells
 obtain ⟨b0,b1,b2,-,-,-,bl⟩ := HB.out.b.cells
 go_wp2_with fail
 refine (qbi a b w1).mono ?_
 rintro e w2 ⟨rfl,hL2⟩
 have HB2 := hid (HB.out.go hL2)
 replace hX := HB2.out.later.cell hX
 have hXl := qad hX
 obtain ⟨bf,hbf⟩ : ∃ q,beforeV a b = q := ⟨_,rfl⟩
 have HBF := hid hbf
 rw [hbf]
 clear hL2 a0 a1 a2 al b0 b1 b2 bl hbf
 obtain ⟨a0,a1,a2,-,-,-,al⟩ := HB2.out.a.cells
 obtain ⟨b0,b1,b2,-,-,-,bl⟩ := HB2.out.b.cells
 go_wp2_with fail
 refine (qdt (wrap64 (a.n * b.n)) w2).mono ?_
 rintro e w3 ⟨rfl,hL3⟩
 have HB3 := hid (HB2.out.go hL3)
 obtain ⟨r,hr⟩ : ∃ r : Val,r = ⟨1,(wrap64 (a.n * b.n)),ByteArray.empty⟩ := ⟨_,rfl⟩
 have HRR := hid hr
 rw [← hr,vv r]
 clear hr hL3 a0 a1 a2 al b0 b1 b2 bl hX hXl
 obtain ⟨c0,c1,c2,f0,f1,f2,cl⟩ := HB3.out.r.cells
 simp only [qaa] at c0 c1 c2
 go_wp2_with fail
 refine bodyPost_ret (qaf rfl rfl (HB3.out.r.set r)) rfl ⟨?_,qae HB3.out.later HB3.out.new r⟩
 rw [← HX.out,HRR.out]
 rfl
theorem rs_quo (X : Nat) (nm : List UInt8) (a b : Val) (w : World) (hX : w.cell? ⟨X,0,none⟩ = some (.string (qah [47]))) : Calls Tryz.prog 35 #[.pointer (some ⟨X,0,none⟩),a.v,b.v] w (qar (qat [47] nm a b) w) := by
 obtain ⟨x,hx⟩ : ∃ x,qat [47] nm a b = x := ⟨_,rfl⟩
 have HX : Hid (qat [47] nm a b = x) := hid hx
 rw [hx]
 clear hx
 obtain ⟨sv,hsv⟩ : ∃ s,s = qah [47] := ⟨_,rfl⟩
 rw [← hsv] at hX
 have e0 := qab [97,110,100] hsv (by decide)
 have e1 := qab [111,114] hsv (by decide)
 have e2 := qab [110,111,116] hsv (by decide)
 have e3 := qab [109,105,110,117,115] hsv (by decide)
 have e4 := qab [61] hsv (by decide)
 have e5 := qab [60,62] hsv (by decide)
 have e6 := qab [60] hsv (by decide)
 have e7 := qab [60,61] hsv (by decide)
 have e8 := qab [62] hsv (by decide)
 have e9 := qab [62,61] hsv (by decide)
 have e10 := qab [43,43] hsv (by decide)
 have e11 := qab [43] hsv (by decide)
 have e12 := qab [45] hsv (by decide)
 have e13 := qab [42] hsv (by decide)
 have e14 := qay [47] hsv
 clear hsv
 go_enter Tryz.func35,Tryz.ntmps35
 go_upto_region 1 with (fail)
 obtain ⟨w1,A,B,R,hw1,hA,hB,hR,HB,-⟩ := qbk w a b
 rw [← hw1,← hR,← hB,← hA]
 clear hw1 hA hB hR
 obtain ⟨a0,a1,a2,-,-,-,al⟩ := HB.out.a.cells
 obtain ⟨b0,b1,b2,-,-,-,bl⟩ := HB.out.b.cells
 go_wp2_with fail
 refine (qbi a b w1).mono ?_
 rintro e w2 ⟨rfl,hL2⟩
 have HB2 := hid (HB.out.go hL2)
 replace hX := HB2.out.later.cell hX
 have hXl := qad hX
 obtain ⟨bf,hbf⟩ : ∃ q,beforeV a b = q := ⟨_,rfl⟩
 have HBF := hid hbf
 rw [hbf]
 clear hL2 a0 a1 a2 al b0 b1 b2 bl hbf
 obtain ⟨a0,a1,a2,-,-,-,al⟩ := HB2.out.a.cells
 obtain ⟨b0,b1,b2,-,-,-,bl⟩ := HB2.out.b.cells
 by_cases hz : b.n = 0
 ·have HZ := hid hz
  rw [hz] at b1
  clear hz
  obtain ⟨c0,c1,c2,f0,f1,f2,cl⟩ := HB2.out.r.cells
  simp only [qaa] at c0 c1 c2
  go_wp2_with fail
  refine bodyPost_ret (qaf rfl rfl (HB2.out.r.set qaa)) rfl ⟨?_,qae HB2.out.later HB2.out.new qaa⟩
  rw [← HX.out]
  show _ = Ending.returned (Val.v (if b.n = 0 then qaa else _))
  rw [if_pos HZ.out]
 have HZ := hid hz
 have hz' : (b.n == 0) = false := by simpa using hz
 go_wp2_with fail
 refine (qdt (wrap64 (a.n.tdiv b.n)) w2).mono ?_
 clear hz hz'
 rintro e w3 ⟨rfl,hL3⟩
 have HB3 := hid (HB2.out.go hL3)
 obtain ⟨r,hr⟩ : ∃ r : Val,r = ⟨1,(wrap64 (a.n.tdiv b.n)),ByteArray.empty⟩ := ⟨_,rfl⟩
 have HRR := hid hr
 rw [← hr,vv r]
 clear hr hL3 a0 a1 a2 al b0 b1 b2 bl hX hXl
 obtain ⟨c0,c1,c2,f0,f1,f2,cl⟩ := HB3.out.r.cells
 simp only [qaa] at c0 c1 c2
 go_wp2_with fail
 refine bodyPost_ret (qaf rfl rfl (HB3.out.r.set r)) rfl ⟨?_,qae HB3.out.later HB3.out.new r⟩
 rw [← HX.out,HRR.out]
 show _ = Ending.returned (Val.v (if b.n = 0 then qaa else _))
 rw [if_neg HZ.out]
 rfl
theorem rs_rem (X : Nat) (nm : List UInt8) (a b : Val) (hn : -9223372036854775808 ≤ a.n ∧ a.n ≤ 9223372036854775807) (w : World) (hX : w.cell? ⟨X,0,none⟩ = some (.string (qah [37]))) : Calls Tryz.prog 35 #[.pointer (some ⟨X,0,none⟩),a.v,b.v] w (qar (qat [37] nm a b) w) := by
 have HW : Hid (wrap64 (a.n.tmod b.n) = a.n.tmod b.n) := hid (wrap_mod hn)
 clear hn
 obtain ⟨x,hx⟩ : ∃ x,qat [37] nm a b = x := ⟨_,rfl⟩
 have HX : Hid (qat [37] nm a b = x) := hid hx
 rw [hx]
 clear hx
 obtain ⟨sv,hsv⟩ : ∃ s,s = qah [37] := ⟨_,rfl⟩
 rw [← hsv] at hX
 have e0 := qab [97,110,100] hsv (by decide)
 have e1 := qab [111,114] hsv (by decide)
 have e2 := qab [110,111,116] hsv (by decide)
 have e3 := qab [109,105,110,117,115] hsv (by decide)
 have e4 := qab [61] hsv (by decide)
 have e5 := qab [60,62] hsv (by decide)
 have e6 := qab [60] hsv (by decide)
 have e7 := qab [60,61] hsv (by decide)
 have e8 := qab [62] hsv (by decide)
 have e9 := qab [62,61] hsv (by decide)
 have e10 := qab [43,43] hsv (by decide)
 have e11 := qab [43] hsv (by decide)
 have e12 := qab [45] hsv (by decide)
 have e13 := qab [42] hsv (by decide)
 have e14 := qab [47] hsv (by decide)
 have e15 := qay [37] hsv
 clear hsv
 go_enter Tryz.func35,Tryz.ntmps35
 go_upto_region 1 with (fail)
 obtain ⟨w1,A,B,R,hw1,hA,hB,hR,HB,-⟩ := qbk w a b
 rw [← hw1,← hR,← hB,← hA]
 clear hw1 hA hB hR
 obtain ⟨a0,a1,a2,-,-,-,al⟩ := HB.out.a.cells
 obtain ⟨b0,b1,b2,-,-,-,bl⟩ := HB.out.b.cells
 go_wp2_with fail
 refine (qbi a b w1).mono ?_
 rintro e w2 ⟨rfl,hL2⟩
 have HB2 := hid (HB.out.go hL2)
 replace hX := HB2.out.later.cell hX
 have hXl := qad hX
 obtain ⟨bf,hbf⟩ : ∃ q,beforeV a b = q := ⟨_,rfl⟩
 have HBF := hid hbf
 rw [hbf]
 clear hL2 a0 a1 a2 al b0 b1 b2 bl hbf
 obtain ⟨a0,a1,a2,-,-,-,al⟩ := HB2.out.a.cells
 obtain ⟨b0,b1,b2,-,-,-,bl⟩ := HB2.out.b.cells
 by_cases hz : b.n = 0
 ·have HZ := hid hz
  rw [hz] at b1
  clear hz
  obtain ⟨c0,c1,c2,f0,f1,f2,cl⟩ := HB2.out.r.cells
  simp only [qaa] at c0 c1 c2
  go_wp2_with fail
  refine bodyPost_ret (qaf rfl rfl (HB2.out.r.set qaa)) rfl ⟨?_,qae HB2.out.later HB2.out.new qaa⟩
  rw [← HX.out]
  show _ = Ending.returned (Val.v (if b.n = 0 then qaa else _))
  rw [if_pos HZ.out]
 have HZ := hid hz
 have hz' : (b.n == 0) = false := by simpa using hz
 go_wp2_with fail
 rw [← HW.out]
 refine (qdt (wrap64 (a.n.tmod b.n)) w2).mono ?_
 clear hz hz'
 rintro e w3 ⟨rfl,hL3⟩
 have HB3 := hid (HB2.out.go hL3)
 obtain ⟨r,hr⟩ : ∃ r : Val,r = ⟨1,(wrap64 (a.n.tmod b.n)),ByteArray.empty⟩ := ⟨_,rfl⟩
 have HRR := hid hr
 rw [← hr,vv r]
 clear hr hL3 a0 a1 a2 al b0 b1 b2 bl hX hXl
 obtain ⟨c0,c1,c2,f0,f1,f2,cl⟩ := HB3.out.r.cells
 simp only [qaa] at c0 c1 c2
 go_wp2_with fail
 refine bodyPost_ret (qaf rfl rfl (HB3.out.r.set r)) rfl ⟨?_,qae HB3.out.later HB3.out.new r⟩
 rw [← HX.out,HRR.out]
 show _ = Ending.returned (Val.v (if b.n = 0 then qaa else _))
 rw [if_neg HZ.out]
 rfl
theorem rs_cat (X : Nat) (nm : List UInt8) (a b : Val) (hsz : a.t.size ≤ 1000 ∧ b.t.size ≤ 1000) (w : World) (hX : w.cell? ⟨X,0,none⟩ = some (.string (qah [43,43]))) : Calls Tryz.prog 35 #[.pointer (some ⟨X,0,none⟩),a.v,b.v] w (qar (qat [43,43] nm a b) w) := by
 have HSZ := hid hsz
 clear hsz
 obtain ⟨x,hx⟩ : ∃ x,qat [43,43] nm a b = x := ⟨_,rfl⟩
 have HX : Hid (qat [43,43] nm a b = x) := hid hx
 rw [hx]
 clear hx
 obtain ⟨sv,hsv⟩ : ∃ s,s = qah [43,43] := ⟨_,rfl⟩
 rw [← hsv] at hX
 have e0 := qab [97,110,100] hsv (by decide)
 have e1 := qab [111,114] hsv (by decide)
 have e2 := qab [110,111,116] hsv (by decide)
 have e3 := qab [109,105,110,117,115] hsv (by decide)
 have e4 := qab [61] hsv (by decide)
 have e5 := qab [60,62] hsv (by decide)
 have e6 := qab [60] hsv (by decide)
 have e7 := qab [60,61] hsv (by decide)
 have e8 := qab [62] hsv (by decide)
 have e9 := qab [62,61] hsv (by decide)
 have e10 := qay [43,43] hsv
 clear hsv
 go_enter Tryz.func35,Tryz.ntmps35
 go_upto_region 1 with (fail)
 obtain ⟨w1,A,B,R,hw1,hA,hB,hR,HB,-⟩ := qbk w a b
 rw [← hw1,← hR,← hB,← hA]
 clear hw1 hA hB hR
 obtain ⟨a0,a1,a2,-,-,-,al⟩ := HB.out.a.cells
 obtain ⟨b0,b1,b2,-,-,-,bl⟩ := HB.out.b.cells
 go_wp2_with fail
 refine (qbi a b w1).mono ?_
 rintro e w2 ⟨rfl,hL2⟩
 have HB2 := hid (HB.out.go hL2)
 replace hX := HB2.out.later.cell hX
 have hXl := qad hX
 obtain ⟨bf,hbf⟩ : ∃ q,beforeV a b = q := ⟨_,rfl⟩
 have HBF := hid hbf
 rw [hbf]
 clear hL2 a0 a1 a2 al b0 b1 b2 bl hbf
 obtain ⟨a0,a1,a2,-,-,-,al⟩ := HB2.out.a.cells
 obtain ⟨b0,b1,b2,-,-,-,bl⟩ := HB2.out.b.cells
 have hs1 : ¬ (9223372036854775807 : Int) < a.t.size + b.t.size := by have := HSZ.out; omega
 go_upto_if 84 with (fail)
 obtain ⟨R1,hR1⟩ : ∃ RR_ : (Nat → Value) → World → Prop,RR_ = (fun us wy => us 8 = .string (qah ((a.t.data.toList ++ b.t.data.toList).take 60)) ∧ wy = w2) := ⟨_,rfl⟩
 have HR1 := hid hR1; clear hR1
 refine qau [ff,ff,ff,ff,ff,ff,ff,ff,true,ff,ff,ff,ff,ff,ff,ff,ff,ff,ff,ff,ff,ff,ff,ff,ff,ff,ff,ff,ff,ff,ff,ff,ff,ff,ff,ff,ff,ff,ff,ff,ff,ff,ff,ff,ff,ff,ff,ff,ff,ff,ff,ff,ff,ff,ff,ff,ff,ff,ff,ff,ff,ff,ff,ff,ff,ff,ff,ff,ff,ff,ff,ff,ff,ff,ff,ff,ff,ff,ff,ff,ff,ff,ff,ff,ff,true,true] R1 _ HR1.out ?_ ?_
 ·by_cases h60 : (60 : Int) < a.t.size + b.t.size
  ·have H60 := hid h60
   go_wp2_with fail
   refine Meet.mk' HR1.out rfl ?_
   refine ⟨?_,rfl⟩
   have e60 : (min ((a.t.size : Int) + (b.t.size : Int)) 60).toNat = 60 := by have := H60.out; omega
   rw [← cat_take a.t b.t,e60]
   rfl
  ·have H60 := hid h60
   go_wp2_with fail
   refine Meet.mk' HR1.out rfl ?_
   refine ⟨?_,rfl⟩
   show Value.string (a.t ++ b.t) = _
   rw [List.take_of_length_le (by rw [List.length_append]; have h1 : a.t.data.toList.length = a.t.size := rfl; have h2 : b.t.data.toList.length = b.t.size := rfl; have := H60.out; omega),← qcz,strB_data,strB_data]
 intro us1 wy hrel
 obtain ⟨h8,hwy⟩ := hrel
 simp only [qao,Nat.reduceAdd,h8]
 have Hh8 := hid h8; clear h8
 subst hwy
 go_wp2_with fail
 refine (rtext_any _ wy).mono ?_
 rintro e w3 ⟨rfl,hL3⟩
 have HB3 := hid (HB2.out.go hL3)
 obtain ⟨r,hr⟩ : ∃ r : Val,r = ⟨3,0,qah ((a.t.data.toList ++ b.t.data.toList).take 60)⟩ := ⟨_,rfl⟩
 have HRR := hid hr
 rw [← hr,vv r]
 clear hr hL3 a0 a1 a2 al b0 b1 b2 bl hX hXl
 obtain ⟨c0,c1,c2,f0,f1,f2,cl⟩ := HB3.out.r.cells
 simp only [qaa] at c0 c1 c2
 go_wp2_with fail
 refine bodyPost_ret (qaf rfl rfl (HB3.out.r.set r)) rfl ⟨?_,qae HB3.out.later HB3.out.new r⟩
 rw [← HX.out,HRR.out]
 rfl
theorem rs_len (X : Nat) (a b : Val) (w : World) (hX : w.cell? ⟨X,0,none⟩ = some (.string (qah [99,97,108,108]))) (hN : w.cell? ⟨X,6,none⟩ = some (.string (qah lenW))) : Calls Tryz.prog 35 #[.pointer (some ⟨X,0,none⟩),a.v,b.v] w (qar (qat [99,97,108,108] lenW a b) w) := by
 obtain ⟨x,hx⟩ : ∃ x,qat [99,97,108,108] lenW a b = x := ⟨_,rfl⟩
 have HX : Hid (qat [99,97,108,108] lenW a b = x) := hid hx
 rw [hx]
 clear hx
 obtain ⟨sv,hsv⟩ : ∃ s,s = qah [99,97,108,108] := ⟨_,rfl⟩
 rw [← hsv] at hX
 have e0 := qab [97,110,100] hsv (by decide)
 have e1 := qab [111,114] hsv (by decide)
 have e2 := qab [110,111,116] hsv (by decide)
 have e3 := qab [109,105,110,117,115] hsv (by decide)
 have e4 := qab [61] hsv (by decide)
 have e5 := qab [60,62] hsv (by decide)
 have e6 := qab [60] hsv (by decide)
 have e7 := qab [60,61] hsv (by decide)
 have e8 := qab [62] hsv (by decide)
 have e9 := qab [62,61] hsv (by decide)
 have e10 := qab [43,43] hsv (by decide)
 have e11 := qab [43] hsv (by decide)
 have e12 := qab [45] hsv (by decide)
 have e13 := qab [42] hsv (by decide)
 have e14 := qab [47] hsv (by decide)
 have e15 := qab [37] hsv (by decide)
 obtain ⟨sf,hsf⟩ : ∃ s,s = qah lenW := ⟨_,rfl⟩
 rw [← hsf] at hN
 have g0 : (sf.toList == [108,101,110]) = true := qay lenW hsf
 clear hsf
 clear hsv
 go_enter Tryz.func35,Tryz.ntmps35
 go_upto_region 1 with (fail)
 obtain ⟨w1,A,B,R,hw1,hA,hB,hR,HB,-⟩ := qbk w a b
 rw [← hw1,← hR,← hB,← hA]
 clear hw1 hA hB hR
 obtain ⟨a0,a1,a2,-,-,-,al⟩ := HB.out.a.cells
 obtain ⟨b0,b1,b2,-,-,-,bl⟩ := HB.out.b.cells
 go_wp2_with fail
 refine (qbi a b w1).mono ?_
 rintro e w2 ⟨rfl,hL2⟩
 have HB2 := hid (HB.out.go hL2)
 replace hX := HB2.out.later.cell hX
 replace hN := HB2.out.later.cell hN
 have hXl := qad hX
 obtain ⟨bf,hbf⟩ : ∃ q,beforeV a b = q := ⟨_,rfl⟩
 have HBF := hid hbf
 rw [hbf]
 clear hL2 a0 a1 a2 al b0 b1 b2 bl hbf
 obtain ⟨a0,a1,a2,-,-,-,al⟩ := HB2.out.a.cells
 obtain ⟨b0,b1,b2,-,-,-,bl⟩ := HB2.out.b.cells
 go_wp2_with fail
 refine (qdt a.t.size w2).mono ?_
 rintro e w3 ⟨rfl,hL3⟩
 have HB3 := hid (HB2.out.go hL3)
 obtain ⟨r,hr⟩ : ∃ r : Val,r = ⟨1,a.t.size,ByteArray.empty⟩ := ⟨_,rfl⟩
 have HRR := hid hr
 rw [← hr,vv r]
 clear hr hL3 a0 a1 a2 al b0 b1 b2 bl hX hXl hN
 obtain ⟨c0,c1,c2,f0,f1,f2,cl⟩ := HB3.out.r.cells
 simp only [qaa] at c0 c1 c2
 go_wp2_with fail
 refine bodyPost_ret (qaf rfl rfl (HB3.out.r.set r)) rfl ⟨?_,qae HB3.out.later HB3.out.new r⟩
 rw [← HX.out,HRR.out]
 rfl
theorem rs_abs (X : Nat) (a b : Val) (w : World) (hX : w.cell? ⟨X,0,none⟩ = some (.string (qah [99,97,108,108]))) (hN : w.cell? ⟨X,6,none⟩ = some (.string (qah absW))) : Calls Tryz.prog 35 #[.pointer (some ⟨X,0,none⟩),a.v,b.v] w (qar (qat [99,97,108,108] absW a b) w) := by
 obtain ⟨x,hx⟩ : ∃ x,qat [99,97,108,108] absW a b = x := ⟨_,rfl⟩
 have HX : Hid (qat [99,97,108,108] absW a b = x) := hid hx
 rw [hx]
 clear hx
 obtain ⟨sv,hsv⟩ : ∃ s,s = qah [99,97,108,108] := ⟨_,rfl⟩
 rw [← hsv] at hX
 have e0 := qab [97,110,100] hsv (by decide)
 have e1 := qab [111,114] hsv (by decide)
 have e2 := qab [110,111,116] hsv (by decide)
 have e3 := qab [109,105,110,117,115] hsv (by decide)
 have e4 := qab [61] hsv (by decide)
 have e5 := qab [60,62] hsv (by decide)
 have e6 := qab [60] hsv (by decide)
 have e7 := qab [60,61] hsv (by decide)
 have e8 := qab [62] hsv (by decide)
 have e9 := qab [62,61] hsv (by decide)
 have e10 := qab [43,43] hsv (by decide)
 have e11 := qab [43] hsv (by decide)
 have e12 := qab [45] hsv (by decide)
 have e13 := qab [42] hsv (by decide)
 have e14 := qab [47] hsv (by decide)
 have e15 := qab [37] hsv (by decide)
 obtain ⟨sf,hsf⟩ : ∃ s,s = qah absW := ⟨_,rfl⟩
 rw [← hsf] at hN
 have g0 := qab [108,101,110] hsf (by decide)
 have g1 : (sf.toList == [97,98,115]) = true := qay absW hsf
 clear hsf
 clear hsv
 go_enter Tryz.func35,Tryz.ntmps35
 go_upto_region 1 with (fail)
 obtain ⟨w1,A,B,R,hw1,hA,hB,hR,HB,-⟩ := qbk w a b
 rw [← hw1,← hR,← hB,← hA]
 clear hw1 hA hB hR
 obtain ⟨a0,a1,a2,-,-,-,al⟩ := HB.out.a.cells
 obtain ⟨b0,b1,b2,-,-,-,bl⟩ := HB.out.b.cells
 go_wp2_with fail
 refine (qbi a b w1).mono ?_
 rintro e w2 ⟨rfl,hL2⟩
 have HB2 := hid (HB.out.go hL2)
 replace hX := HB2.out.later.cell hX
 replace hN := HB2.out.later.cell hN
 have hXl := qad hX
 obtain ⟨bf,hbf⟩ : ∃ q,beforeV a b = q := ⟨_,rfl⟩
 have HBF := hid hbf
 rw [hbf]
 clear hL2 a0 a1 a2 al b0 b1 b2 bl hbf
 obtain ⟨a0,a1,a2,-,-,-,al⟩ := HB2.out.a.cells
 obtain ⟨b0,b1,b2,-,-,-,bl⟩ := HB2.out.b.cells
 by_cases hz : a.n < 0
 ·have HZ := hid hz
  go_wp2_with fail
  refine (qdt (wrap64 (-a.n)) w2).mono ?_
  clear hz
  rintro e w3 ⟨rfl,hL3⟩
  have HB3 := hid (HB2.out.go hL3)
  obtain ⟨r,hr⟩ : ∃ r : Val,r = ⟨1,(wrap64 (-a.n)),ByteArray.empty⟩ := ⟨_,rfl⟩
  have HRR := hid hr
  rw [← hr,vv r]
  clear hr hL3 a0 a1 a2 al b0 b1 b2 bl hX hXl hN
  obtain ⟨c0,c1,c2,f0,f1,f2,cl⟩ := HB3.out.r.cells
  simp only [qaa] at c0 c1 c2
  go_wp2_with fail
  refine bodyPost_ret (qaf rfl rfl (HB3.out.r.set r)) rfl ⟨?_,qae HB3.out.later HB3.out.new r⟩
  rw [← HX.out,HRR.out]
  show _ = Ending.returned (Val.v (if a.n < 0 then intV (wrap64 (-a.n)) else a))
  rw [if_pos HZ.out]
  rfl
 ·have HZ := hid hz
  obtain ⟨c0,c1,c2,f0,f1,f2,cl⟩ := HB2.out.r.cells
  simp only [qaa] at c0 c1 c2
  go_wp2_with fail
  refine bodyPost_ret (qaf rfl rfl (HB2.out.r.set a)) rfl ⟨?_,qae HB2.out.later HB2.out.new a⟩
  rw [← HX.out]
  show _ = Ending.returned (Val.v (if a.n < 0 then intV (wrap64 (-a.n)) else a))
  rw [if_neg (by have := HZ.out; omega)]
theorem rs_cut (X : Nat) (a b : Val) (w : World) (hX : w.cell? ⟨X,0,none⟩ = some (.string (qah [99,97,108,108]))) (hN : w.cell? ⟨X,6,none⟩ = some (.string (qah cutW))) : Calls Tryz.prog 35 #[.pointer (some ⟨X,0,none⟩),a.v,b.v] w (qar (qat [99,97,108,108] cutW a b) w) := by
 obtain ⟨x,hx⟩ : ∃ x,qat [99,97,108,108] cutW a b = x := ⟨_,rfl⟩
 have HX : Hid (qat [99,97,108,108] cutW a b = x) := hid hx
 rw [hx]
 clear hx
 obtain ⟨sv,hsv⟩ : ∃ s,s = qah [99,97,108,108] := ⟨_,rfl⟩
 rw [← hsv] at hX
 have e0 := qab [97,110,100] hsv (by decide)
 have e1 := qab [111,114] hsv (by decide)
 have e2 := qab [110,111,116] hsv (by decide)
 have e3 := qab [109,105,110,117,115] hsv (by decide)
 have e4 := qab [61] hsv (by decide)
 have e5 := qab [60,62] hsv (by decide)
 have e6 := qab [60] hsv (by decide)
 have e7 := qab [60,61] hsv (by decide)
 have e8 := qab [62] hsv (by decide)
 have e9 := qab [62,61] hsv (by decide)
 have e10 := qab [43,43] hsv (by decide)
 have e11 := qab [43] hsv (by decide)
 have e12 := qab [45] hsv (by decide)
 have e13 := qab [42] hsv (by decide)
 have e14 := qab [47] hsv (by decide)
 have e15 := qab [37] hsv (by decide)
 obtain ⟨sf,hsf⟩ : ∃ s,s = qah cutW := ⟨_,rfl⟩
 rw [← hsf] at hN
 have g0 := qab [108,101,110] hsf (by decide)
 have g1 := qab [97,98,115] hsf (by decide)
 clear hsf
 clear hsv
 go_enter Tryz.func35,Tryz.ntmps35
 go_upto_region 1 with (fail)
 obtain ⟨w1,A,B,R,hw1,hA,hB,hR,HB,-⟩ := qbk w a b
 rw [← hw1,← hR,← hB,← hA]
 clear hw1 hA hB hR
 obtain ⟨a0,a1,a2,-,-,-,al⟩ := HB.out.a.cells
 obtain ⟨b0,b1,b2,-,-,-,bl⟩ := HB.out.b.cells
 go_wp2_with fail
 refine (qbi a b w1).mono ?_
 rintro e w2 ⟨rfl,hL2⟩
 have HB2 := hid (HB.out.go hL2)
 replace hX := HB2.out.later.cell hX
 replace hN := HB2.out.later.cell hN
 have hXl := qad hX
 obtain ⟨bf,hbf⟩ : ∃ q,beforeV a b = q := ⟨_,rfl⟩
 have HBF := hid hbf
 rw [hbf]
 clear hL2 a0 a1 a2 al b0 b1 b2 bl hbf
 obtain ⟨a0,a1,a2,-,-,-,al⟩ := HB2.out.a.cells
 obtain ⟨b0,b1,b2,-,-,-,bl⟩ := HB2.out.b.cells
 obtain ⟨m,hm⟩ : ∃ m,(if (a.t.size : Int) < (if b.n < 0 then 0 else b.n) then (a.t.size : Int) else if b.n < 0 then 0 else b.n) = m := ⟨_,rfl⟩
 have HM := hid hm
 have hm0 : 0 ≤ m ∧ m ≤ a.t.size := by rw [← hm]; split <;> split <;> omega
 have HM0 := hid hm0
 clear hm hm0
 go_upto_if 160 with (fail)
 obtain ⟨R1,hR1⟩ : ∃ RR_ : (Nat → Value) → World → Prop,RR_ = (fun us wy => us 9 = .int .i64 (if b.n < 0 then 0 else b.n) ∧ wy = w2) := ⟨_,rfl⟩
 have HR1 := hid hR1; clear hR1
 refine qau [ff,ff,ff,ff,ff,ff,ff,ff,ff,true] R1 _ HR1.out ?_ ?_
 ·by_cases hz : b.n < 0
  ·have HZ := hid hz
   go_wp2_with fail
   refine Meet.mk' HR1.out rfl ?_
   exact ⟨by rw [if_pos HZ.out]; rfl,rfl⟩
  ·have HZ := hid hz
   go_wp2_with fail
   refine Meet.mk' HR1.out rfl ?_
   exact ⟨by rw [if_neg (by have := HZ.out; omega)]; rfl,rfl⟩
 intro us1 wy hrel
 obtain ⟨h9,hwy⟩ := hrel
 simp only [qao,Nat.reduceAdd,h9]
 have Hh9 := hid h9; clear h9
 subst hwy
 obtain ⟨m1,hm1⟩ : ∃ m,(if b.n < 0 then 0 else b.n) = m := ⟨_,rfl⟩
 have HM1 : Hid ((if (a.t.size : Int) < m1 then (a.t.size : Int) else m1) = m) := hid (by rw [← hm1]; exact HM.out)
 rw [hm1]
 clear hm1
 go_upto_if 165 with (fail)
 obtain ⟨R2,hR2⟩ : ∃ RR_ : (Nat → Value) → World → Prop,RR_ = (fun us wz => us 9 = .int .i64 m ∧ wz = wy) := ⟨_,rfl⟩
 have HR2 := hid hR2; clear hR2
 refine qau [ff,ff,ff,ff,ff,ff,ff,ff,ff,true,ff,ff,ff,ff,ff,ff,ff,ff,ff,ff,ff,ff,ff,ff,ff,ff,ff,ff,ff,ff,ff,ff,ff,ff,ff,ff,ff,ff,ff,ff,ff,ff,ff,ff,ff,ff,ff,ff,ff,ff,ff,ff,ff,ff,ff,ff,ff,ff,ff,ff,ff,ff,ff,ff,ff,ff,ff,ff,ff,ff,ff,ff,ff,ff,ff,ff,ff,ff,ff,ff,ff,ff,ff,ff,ff,ff,ff,ff,ff,ff,ff,ff,ff,ff,ff,ff,ff,ff,ff,ff,ff,ff,ff,ff,ff,ff,ff,ff,ff,ff,ff,ff,ff,ff,ff,ff,ff,ff,ff,ff,ff,ff,ff,ff,ff,ff,ff,ff,ff,ff,ff,ff,ff,ff,ff,ff,ff,ff,ff,ff,ff,ff,ff,ff,ff,ff,ff,ff,ff,ff,ff,ff,ff,ff,ff,ff,ff,ff,ff,ff,ff,ff,ff,ff,ff,ff,true,true,true] R2 _ HR2.out ?_ ?_
 ·by_cases hz : (a.t.size : Int) < m1
  ·have HZ := hid hz
   go_wp2_with fail
   refine Meet.mk' HR2.out rfl ?_
   exact ⟨by rw [← HM1.out,if_pos HZ.out]; rfl,rfl⟩
  ·have HZ := hid hz
   go_wp2_with fail
   refine Meet.mk' HR2.out rfl ?_
   exact ⟨by rw [← HM1.out,if_neg (by have := HZ.out; omega)]; rfl,rfl⟩
 intro us2 wz hrel
 obtain ⟨h9,hwz⟩ := hrel
 simp only [qao,Nat.reduceAdd,h9]
 have Hh9 := hid h9; clear h9
 subst hwz
 have hm1 : 0 ≤ m := HM0.out.1
 have hm2 : m ≤ a.t.size := HM0.out.2
 go_wp2_with fail
 refine (rtext_any _ wz).mono ?_
 clear hm1 hm2
 rintro e w3 ⟨rfl,hL3⟩
 have HB3 := hid (HB2.out.go hL3)
 obtain ⟨r,hr⟩ : ∃ r : Val,r = ⟨3,0,a.t.extract 0 m.toNat⟩ := ⟨_,rfl⟩
 have HRR := hid hr
 rw [← hr,vv r]
 clear hr hL3 a0 a1 a2 al b0 b1 b2 bl hX hXl hN
 obtain ⟨c0,c1,c2,f0,f1,f2,cl⟩ := HB3.out.r.cells
 simp only [qaa] at c0 c1 c2
 go_wp2_with fail
 refine bodyPost_ret (qaf rfl rfl (HB3.out.r.set r)) rfl ⟨?_,qae HB3.out.later HB3.out.new r⟩
 rw [← HX.out,HRR.out]
 show _ = Ending.returned (Val.v (textV (a.t.data.toList.take (if (a.t.size : Int) < (if b.n < 0 then 0 else b.n) then (a.t.size : Int) else if b.n < 0 then 0 else b.n).toNat)))
 rw [HM.out,str_take]
 rfl
end Go.Proofs.YtgajofkeidjbgaaGreatDoor
