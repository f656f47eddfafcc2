/-
  PROVED HERE: a part of the proof of ExprEvals: RKind2, ParNest, ParUn1.
-/
import Derived.Test.YtgajofkeidjbgaaGreatDoorShort
import Derived.Test.YtgajofkeidjbgaaGreatDoorGExprIdx
import Derived.Test.YtgajofkeidjbgaaGreatDoorGTabExpr
import Derived.Deep.RegionHeld
namespace Go.Proofs.YtgajofkeidjbgaaGreatDoor
set_option linter.unusedSimpArgs false
set_option linter.unusedVariables false
set_option maxHeartbeats 8000000
set_option maxRecDepth 100000
open Go.RowKit
theorem rres_lenW (B b cp : Nat) (ao : Option Addr) (ks : List Int) (w : World) (hb : w.cell? ⟨B,0,none⟩ = some (.string (qah qcu))) (h2 : w.cell? ⟨B,2,none⟩ = some (.slice ao ks.length cp)) (h6 : w.cell? ⟨B,6,none⟩ = some (.string (qah lenW))) (hk : qdc w b ks) (hlen : ks.length = 1) : Calls Tryz.prog 60 #[.pointer (some ⟨B,0,none⟩),.int .i64 (1),.slice (some ⟨b,0,none⟩) 4 4] w (ResTo (callD lenW ks) w) := by
 obtain ⟨sv,hsv⟩ : ∃ s,s = qah qcu := ⟨_,rfl⟩
 rw [← hsv] at hb
 obtain ⟨sf,hsf⟩ : ∃ s,s = qah lenW := ⟨_,rfl⟩
 rw [← hsf] at h6
 have e0 := qab [110,111,116] hsv (by decide)
 have e1 := qab [109,105,110,117,115] hsv (by decide)
 have e2 := qab [97,110,100] hsv (by decide)
 have e3 := qab [111,114] hsv (by decide)
 have e4 := qab [43,43] hsv (by decide)
 have e5 : (sv.toList == [99,97,108,108]) = true := qay qcu hsv
 have g0 : (sf.toList == [108,101,110]) = true := qay lenW hsf
 obtain ⟨k0,rfl⟩ : ∃ k0,ks = [k0] := by
  match ks,hlen with
  | [x0],_ => exact ⟨_,rfl⟩
 rw [show ([k0] : List Int).length = 1 from rfl] at h2
 have c0 : w.cell? ⟨b,0,none⟩ = some (.int .i64 k0) := qac (i := 0) hk rfl
 have hlt := qad hb
 have hlt2 := qad c0
 clear hk hsv hsf hlen
 obtain ⟨kr,hkr⟩ : ∃ r,callD lenW [k0] = r := ⟨_,rfl⟩
 rw [hkr]
 obtain ⟨q0,hq0⟩ : ∃ q,(k0 == 3) = q := ⟨_,rfl⟩
 have HQ : Hid (kr = if q0 = true then some 1 else none) := hid (by
  rw [← hkr,← hq0,qcl]
  show (if [k0] = [3] then some (1 : Int) else none) = _
  simp)
 clear hkr
 go_enter Tryz.func60,Tryz.ntmps60
 cases q0 <;>
 ·go_wp2_with fail
  exact bodyPost_ret (results_tmp rfl _ _ _) rfl ⟨by rw [HQ.out]; rfl,qag.refl _⟩
theorem rres_absW (B b cp : Nat) (ao : Option Addr) (ks : List Int) (w : World) (hb : w.cell? ⟨B,0,none⟩ = some (.string (qah qcu))) (h2 : w.cell? ⟨B,2,none⟩ = some (.slice ao ks.length cp)) (h6 : w.cell? ⟨B,6,none⟩ = some (.string (qah absW))) (hk : qdc w b ks) (hlen : ks.length = 1) : Calls Tryz.prog 60 #[.pointer (some ⟨B,0,none⟩),.int .i64 (1),.slice (some ⟨b,0,none⟩) 4 4] w (ResTo (callD absW ks) w) := by
 obtain ⟨sv,hsv⟩ : ∃ s,s = qah qcu := ⟨_,rfl⟩
 rw [← hsv] at hb
 obtain ⟨sf,hsf⟩ : ∃ s,s = qah absW := ⟨_,rfl⟩
 rw [← hsf] at h6
 have e0 := qab [110,111,116] hsv (by decide)
 have e1 := qab [109,105,110,117,115] hsv (by decide)
 have e2 := qab [97,110,100] hsv (by decide)
 have e3 := qab [111,114] hsv (by decide)
 have e4 := qab [43,43] hsv (by decide)
 have e5 : (sv.toList == [99,97,108,108]) = true := qay qcu hsv
 have g0 := qab [108,101,110] hsf (by decide)
 have g1 : (sf.toList == [97,98,115]) = true := qay absW hsf
 obtain ⟨k0,rfl⟩ : ∃ k0,ks = [k0] := by
  match ks,hlen with
  | [x0],_ => exact ⟨_,rfl⟩
 rw [show ([k0] : List Int).length = 1 from rfl] at h2
 have c0 : w.cell? ⟨b,0,none⟩ = some (.int .i64 k0) := qac (i := 0) hk rfl
 have hlt := qad hb
 have hlt2 := qad c0
 clear hk hsv hsf hlen
 obtain ⟨kr,hkr⟩ : ∃ r,callD absW [k0] = r := ⟨_,rfl⟩
 rw [hkr]
 obtain ⟨q0,hq0⟩ : ∃ q,(k0 == 1) = q := ⟨_,rfl⟩
 have HQ : Hid (kr = if q0 = true then some 1 else none) := hid (by
  rw [← hkr,← hq0,qcl]
  show (if [k0] = [1] then some (1 : Int) else none) = _
  simp)
 clear hkr
 go_enter Tryz.func60,Tryz.ntmps60
 cases q0 <;>
 ·go_wp2_with fail
  exact bodyPost_ret (results_tmp rfl _ _ _) rfl ⟨by rw [HQ.out]; rfl,qag.refl _⟩
theorem rres_isnullW (B b cp : Nat) (ao : Option Addr) (ks : List Int) (w : World) (hb : w.cell? ⟨B,0,none⟩ = some (.string (qah qcu))) (h2 : w.cell? ⟨B,2,none⟩ = some (.slice ao ks.length cp)) (h6 : w.cell? ⟨B,6,none⟩ = some (.string (qah qbv))) (hk : qdc w b ks) (hlen : ks.length = 1) : Calls Tryz.prog 60 #[.pointer (some ⟨B,0,none⟩),.int .i64 (1),.slice (some ⟨b,0,none⟩) 4 4] w (ResTo (callD qbv ks) w) := by
 obtain ⟨sv,hsv⟩ : ∃ s,s = qah qcu := ⟨_,rfl⟩
 rw [← hsv] at hb
 obtain ⟨sf,hsf⟩ : ∃ s,s = qah qbv := ⟨_,rfl⟩
 rw [← hsf] at h6
 have e0 := qab [110,111,116] hsv (by decide)
 have e1 := qab [109,105,110,117,115] hsv (by decide)
 have e2 := qab [97,110,100] hsv (by decide)
 have e3 := qab [111,114] hsv (by decide)
 have e4 := qab [43,43] hsv (by decide)
 have e5 : (sv.toList == [99,97,108,108]) = true := qay qcu hsv
 have g0 := qab [108,101,110] hsf (by decide)
 have g1 := qab [97,98,115] hsf (by decide)
 have g2 : (sf.toList == [105,115,110,117,108,108]) = true := qay qbv hsf
 obtain ⟨k0,rfl⟩ : ∃ k0,ks = [k0] := by
  match ks,hlen with
  | [x0],_ => exact ⟨_,rfl⟩
 rw [show ([k0] : List Int).length = 1 from rfl] at h2
 have c0 : w.cell? ⟨b,0,none⟩ = some (.int .i64 k0) := qac (i := 0) hk rfl
 have hlt := qad hb
 have hlt2 := qad c0
 clear hk hsv hsf hlen
 obtain ⟨kr,hkr⟩ : ∃ r,callD qbv [k0] = r := ⟨_,rfl⟩
 rw [hkr]
 have HQ : Hid (kr = some 2) := hid (hkr.symm.trans rfl)
 clear hkr
 go_enter Tryz.func60,Tryz.ntmps60
 go_wp2_with fail
 exact bodyPost_ret (results_tmp rfl _ _ _) rfl ⟨by rw [HQ.out]; rfl,qag.refl _⟩
theorem rres_cutW (B b cp : Nat) (ao : Option Addr) (ks : List Int) (w : World) (hb : w.cell? ⟨B,0,none⟩ = some (.string (qah qcu))) (h2 : w.cell? ⟨B,2,none⟩ = some (.slice ao ks.length cp)) (h6 : w.cell? ⟨B,6,none⟩ = some (.string (qah cutW))) (hk : qdc w b ks) (hlen : ks.length = 2) : Calls Tryz.prog 60 #[.pointer (some ⟨B,0,none⟩),.int .i64 (2),.slice (some ⟨b,0,none⟩) 4 4] w (ResTo (callD cutW ks) w) := by
 obtain ⟨sv,hsv⟩ : ∃ s,s = qah qcu := ⟨_,rfl⟩
 rw [← hsv] at hb
 obtain ⟨sf,hsf⟩ : ∃ s,s = qah cutW := ⟨_,rfl⟩
 rw [← hsf] at h6
 have e0 := qab [110,111,116] hsv (by decide)
 have e1 := qab [109,105,110,117,115] hsv (by decide)
 have e2 := qab [97,110,100] hsv (by decide)
 have e3 := qab [111,114] hsv (by decide)
 have e4 := qab [43,43] hsv (by decide)
 have e5 : (sv.toList == [99,97,108,108]) = true := qay qcu hsv
 have g0 := qab [108,101,110] hsf (by decide)
 have g1 := qab [97,98,115] hsf (by decide)
 have g2 := qab [105,115,110,117,108,108] hsf (by decide)
 have g3 : (sf.toList == [99,117,116]) = true := qay cutW hsf
 obtain ⟨k0,k1,rfl⟩ : ∃ k0 k1,ks = [k0,k1] := by
  match ks,hlen with
  | [x0,x1],_ => exact ⟨_,_,rfl⟩
 rw [show ([k0,k1] : List Int).length = 2 from rfl] at h2
 have c0 : w.cell? ⟨b,0,none⟩ = some (.int .i64 k0) := qac (i := 0) hk rfl
 have c1 : w.cell? ⟨b,1,none⟩ = some (.int .i64 k1) := qac (i := 1) hk rfl
 have hlt := qad hb
 have hlt2 := qad c0
 clear hk hsv hsf hlen
 obtain ⟨kr,hkr⟩ : ∃ r,callD cutW [k0,k1] = r := ⟨_,rfl⟩
 rw [hkr]
 obtain ⟨q0,hq0⟩ : ∃ q,(k0 == 3) = q := ⟨_,rfl⟩
 obtain ⟨q1,hq1⟩ : ∃ q,(k1 == 1) = q := ⟨_,rfl⟩
 have HQ : Hid (kr = if (q0 && q1) = true then some 3 else none) := hid (by
  rw [← hkr,← hq0,← hq1,qcl,qcl]
  show (if [k0,k1] = [3,1] then some (3 : Int) else none) = _
  simp)
 clear hkr
 go_enter Tryz.func60,Tryz.ntmps60
 cases q0 <;> cases q1 <;>
 ·go_wp2_with fail
  exact bodyPost_ret (results_tmp rfl _ _ _) rfl ⟨by rw [HQ.out]; rfl,qag.refl _⟩
theorem rres_coalW (B b cp : Nat) (ao : Option Addr) (ks : List Int) (w : World) (hb : w.cell? ⟨B,0,none⟩ = some (.string (qah qcu))) (h2 : w.cell? ⟨B,2,none⟩ = some (.slice ao ks.length cp)) (h6 : w.cell? ⟨B,6,none⟩ = some (.string (qah coalW))) (hk : qdc w b ks) (hlen : ks.length = 2) : Calls Tryz.prog 60 #[.pointer (some ⟨B,0,none⟩),.int .i64 (2),.slice (some ⟨b,0,none⟩) 4 4] w (ResTo (callD coalW ks) w) := by
 obtain ⟨sv,hsv⟩ : ∃ s,s = qah qcu := ⟨_,rfl⟩
 rw [← hsv] at hb
 obtain ⟨sf,hsf⟩ : ∃ s,s = qah coalW := ⟨_,rfl⟩
 rw [← hsf] at h6
 have e0 := qab [110,111,116] hsv (by decide)
 have e1 := qab [109,105,110,117,115] hsv (by decide)
 have e2 := qab [97,110,100] hsv (by decide)
 have e3 := qab [111,114] hsv (by decide)
 have e4 := qab [43,43] hsv (by decide)
 have e5 : (sv.toList == [99,97,108,108]) = true := qay qcu hsv
 have g0 := qab [108,101,110] hsf (by decide)
 have g1 := qab [97,98,115] hsf (by decide)
 have g2 := qab [105,115,110,117,108,108] hsf (by decide)
 have g3 := qab [99,117,116] hsf (by decide)
 have g4 : (sf.toList == [99,111,97,108,101,115,99,101]) = true := qay coalW hsf
 obtain ⟨k0,k1,rfl⟩ : ∃ k0 k1,ks = [k0,k1] := by
  match ks,hlen with
  | [x0,x1],_ => exact ⟨_,_,rfl⟩
 rw [show ([k0,k1] : List Int).length = 2 from rfl] at h2
 have c0 : w.cell? ⟨b,0,none⟩ = some (.int .i64 k0) := qac (i := 0) hk rfl
 have c1 : w.cell? ⟨b,1,none⟩ = some (.int .i64 k1) := qac (i := 1) hk rfl
 have hlt := qad hb
 have hlt2 := qad c0
 clear hk hsv hsf hlen
 obtain ⟨kr,hkr⟩ : ∃ r,callD coalW [k0,k1] = r := ⟨_,rfl⟩
 rw [hkr]
 obtain ⟨q0,hq0⟩ : ∃ q,(k0 == k1) = q := ⟨_,rfl⟩
 have HQ : Hid (kr = if q0 = true then some k0 else none) := hid (by
  rw [← hkr,← hq0,qcl]
  show (if k0 = k1 then some k0 else none) = _
  simp)
 clear hkr
 go_enter Tryz.func60,Tryz.ntmps60
 go_upto_region 40 with (fail)
 refine qaj (by kernel_rfl) (by kernel_rfl) qag qag.refl qag.trans (fun _ => none) (fun _ _ _ _ _ h => by cases h) ?_
 simp only [qam,Nat.reduceAdd]
 refine LexS.out ?_
 iterate 8
  first
  | (refine LexS.skip rfl ?_; simp only [Act.put,sib,List.set])
  | (refine LexS.one' rfl rfl ?_
     apply Exists.intro
     refine ⟨fun w hR hF => ?_,?_⟩
     ·have hP := hR
      repeat (first | replace hP := qag.of_drew hP | replace hP := qag.of_drewN hP | replace hP := qag.of_alloc hP)
      have hcs := hR.cells
      have zc0 := hP.cell c0
      have zc1 := hP.cell c1
      clear hR hF hP
      go_simp
      first | done | rfl
     simp only [Act.put,sib,List.set])
 refine LexS.nil ?_
 intro w2 hL2 hF9
 clear hF9
 repeat (first | replace hL2 := qag.of_drew hL2 | replace hL2 := qag.of_drewN hL2 | replace hL2 := qag.of_alloc hL2)
 have HL2 := hid hL2
 replace c0 := hL2.cell c0
 replace hlt2 := qad c0
 clear hL2 c1 hlt hb h2 h6
 try rw [hq0]
 clear hq0
 cases q0 <;>
 ·go_wp2_with fail
  exact bodyPost_ret (results_tmp rfl _ _ _) rfl ⟨by rw [HQ.out]; rfl,HL2.out⟩
theorem rres_ifW (B b cp : Nat) (ao : Option Addr) (ks : List Int) (w : World) (hb : w.cell? ⟨B,0,none⟩ = some (.string (qah qcu))) (h2 : w.cell? ⟨B,2,none⟩ = some (.slice ao ks.length cp)) (h6 : w.cell? ⟨B,6,none⟩ = some (.string (qah ifW))) (hk : qdc w b ks) (hlen : ks.length = 3) : Calls Tryz.prog 60 #[.pointer (some ⟨B,0,none⟩),.int .i64 (3),.slice (some ⟨b,0,none⟩) 4 4] w (ResTo (callD ifW ks) w) := by
 obtain ⟨sv,hsv⟩ : ∃ s,s = qah qcu := ⟨_,rfl⟩
 rw [← hsv] at hb
 obtain ⟨sf,hsf⟩ : ∃ s,s = qah ifW := ⟨_,rfl⟩
 rw [← hsf] at h6
 have e0 := qab [110,111,116] hsv (by decide)
 have e1 := qab [109,105,110,117,115] hsv (by decide)
 have e2 := qab [97,110,100] hsv (by decide)
 have e3 := qab [111,114] hsv (by decide)
 have e4 := qab [43,43] hsv (by decide)
 have e5 : (sv.toList == [99,97,108,108]) = true := qay qcu hsv
 have g0 := qab [108,101,110] hsf (by decide)
 have g1 := qab [97,98,115] hsf (by decide)
 have g2 := qab [105,115,110,117,108,108] hsf (by decide)
 have g3 := qab [99,117,116] hsf (by decide)
 have g4 := qab [99,111,97,108,101,115,99,101] hsf (by decide)
 have g5 : (sf.toList == [105,102]) = true := qay ifW hsf
 obtain ⟨k0,k1,k2,rfl⟩ : ∃ k0 k1 k2,ks = [k0,k1,k2] := by
  match ks,hlen with
  | [x0,x1,x2],_ => exact ⟨_,_,_,rfl⟩
 rw [show ([k0,k1,k2] : List Int).length = 3 from rfl] at h2
 have c0 : w.cell? ⟨b,0,none⟩ = some (.int .i64 k0) := qac (i := 0) hk rfl
 have c1 : w.cell? ⟨b,1,none⟩ = some (.int .i64 k1) := qac (i := 1) hk rfl
 have c2 : w.cell? ⟨b,2,none⟩ = some (.int .i64 k2) := qac (i := 2) hk rfl
 have hlt := qad hb
 have hlt2 := qad c0
 clear hk hsv hsf hlen
 obtain ⟨kr,hkr⟩ : ∃ r,callD ifW [k0,k1,k2] = r := ⟨_,rfl⟩
 rw [hkr]
 obtain ⟨q0,hq0⟩ : ∃ q,(k0 == 2) = q := ⟨_,rfl⟩
 obtain ⟨q1,hq1⟩ : ∃ q,(k1 == k2) = q := ⟨_,rfl⟩
 have HQ : Hid (kr = if (q0 && q1) = true then some k1 else none) := hid (by
  rw [← hkr,← hq0,← hq1,qcl,qcl]
  show (if k0 = 2 ∧ k1 = k2 then some k1 else none) = _
  simp)
 clear hkr
 go_enter Tryz.func60,Tryz.ntmps60
 go_upto_region 43 with (fail)
 cases q0 <;> cases q1
 all_goals
  refine qaj (by kernel_rfl) (by kernel_rfl) qag qag.refl qag.trans (fun _ => none) (fun _ _ _ _ _ h => by cases h) ?_
  simp only [qam,Nat.reduceAdd]
  refine LexS.out ?_
  iterate 14
   first
   | (refine LexS.skip rfl ?_; simp only [Act.put,sib,List.set])
   | (refine LexS.one' rfl rfl ?_
      apply Exists.intro
      refine ⟨fun w hR hF => ?_,?_⟩
      ·have hP := hR
       repeat (first | replace hP := qag.of_drew hP | replace hP := qag.of_drewN hP | replace hP := qag.of_alloc hP)
       have hcs := hR.cells
       have zc0 := hP.cell c0
       have zc1 := hP.cell c1
       have zc2 := hP.cell c2
       clear hR hF hP
       go_simp
       first | done | rfl
      simp only [Act.put,sib,List.set])
  refine LexS.nil ?_
  intro w2 hL2 hF9
  clear hF9
  repeat (first | replace hL2 := qag.of_drew hL2 | replace hL2 := qag.of_drewN hL2 | replace hL2 := qag.of_alloc hL2)
  have HL2 := hid hL2
  replace c1 := hL2.cell c1
  replace hlt2 := qad c1
  clear hL2 c0 c2 hlt hb h2 h6 hq0 hq1
  go_wp2_with fail
  exact bodyPost_ret (results_tmp rfl _ _ _) rfl ⟨by rw [HQ.out]; rfl,HL2.out⟩
attribute [local go_sem high] tok_f0 tok_f1 tok_f2
theorem PAt.setDepth {w : World} {P d d' : Nat} {l : List Tok} (h : PAt w P d l) : Keeps (fun b => b ≠ P) w (w.setCell ⟨P,1,none⟩ (.int .i64 (d' : Int))) ∧ PAt (w.setCell ⟨P,1,none⟩ (.int .i64 (d' : Int))) P d' l := by
 obtain ⟨v,h1,h2⟩ := h
 have hk : Keeps (fun b => b ≠ P) w (w.setCell ⟨P,1,none⟩ (.int .i64 (d' : Int))) := (Keeps.refl _ w).setCell (p := ⟨P,1,none⟩) (.inl fun h => h rfl) _
 exact ⟨hk,v,qak (i := 1) h1 _,h2.kept hk fun _ _ _ h _ => h⟩
theorem PAt.depth {w : World} {P d : Nat} {l : List Tok} (h : PAt w P d l) : w.cell? ⟨P,1,none⟩ = some (.int .i64 (d : Int)) ∧ w.frozen? ⟨P,1,none⟩ = false := by
 obtain ⟨v,h1,h2⟩ := h
 exact ⟨qac (i := 1) h1 rfl,qaq h1⟩
theorem nested_any (F : FuncId) (hent : ∀ args w,(callFunc F args).run Tryz.prog w = .ok (.enter F args) w) (caps : Array Value) (P d : Nat) (t : Tok) (r l : List Tok) (R : Res → Prop) (w : World) (h : PAt w P d (t :: r)) (hd : d ≤ 12)
  (hF : d + 1 ≤ 12 → ∀ w1,Keeps (fun b => b ≠ P) w w1 → PAt w1 P (d + 1) (t :: r) → Calls Tryz.prog F caps w1 (POut w1 P (d + 1) l R)) :
  Calls Tryz.prog 72 #[.pointer (some ⟨P,0,none⟩),.func (.func F) #[] caps] w (POut w P d l fun s => if 12 < d + 1 then s = .error (4,t.p) else R s) := by
 have HP := hid h; have HD := hid hd; have HF := hid hF
 clear h hd hF
 have hd0 := HP.out.depth.1
 have hz0 := HP.out.depth.2
 have hp := qad hd0
 have hdn : ¬ (9223372036854775807 : Int) < d + 1 := by have := HD.out; omega
 go_enter Tryz.func72,Tryz.ntmps72
 go_upto_region 2 with (fail)
 obtain ⟨w1,hw1⟩ : ∃ w1,w1 = w.setCell ⟨P,1,none⟩ (.int .i64 ((d + 1 : Nat) : Int)) := ⟨_,rfl⟩
 have hs := HP.out.setDepth (d' := d + 1)
 rw [← hw1] at hs
 have HK1 := hid hs.1
 have HP1 := hid hs.2
 clear hs
 rw [show w.setCell ⟨P,1,none⟩ (.int .i64 ((d : Int) + 1)) = w1 from hw1.symm]
 clear hw1 hd0 hz0
 have hd1 := HP1.out.depth.1
 have hz1 := HP1.out.depth.2
 by_cases hn : 12 < d + 1
 ·have hn' : (12 : Int) < ((d + 1 : Nat) : Int) := by omega
  have HN := hid hn
  clear hn
  go_wp2_with fail
  refine (qeo P (d + 1) t r _ HP1.out).mono ?_
  rintro e w2 ⟨rfl,hL⟩
  have HL := hid hL
  clear hL
  unfold Tok.v
  go_wp2_with fail
  refine (qbn 4 t.p _).mono ?_
  rintro e w' ⟨hfl,rfl⟩
  unfold qbr at hfl
  subst hfl
  simp only [Exit.then,Exit.inBlock]
  refine ⟨rfl,HK1.out.trans (HL.out.keeps _),.error (4,t.p),(by show (if 12 < d + 1 then _ else _); rw [if_pos HN.out]),?_⟩
  exact rfl
 ·have hn' : ¬ (12 : Int) < ((d + 1 : Nat) : Int) := by omega
  have HN := hid hn
  clear hn
  go_wp2_with fail
  refine (HF.out (by have := HN.out; omega) w1 HK1.out HP1.out).mono ?_
  rintro e w2 ⟨hk,rs,hr,hm⟩
  have HK2 := hid (HK1.out.trans hk)
  have HRS : Hid ((fun s => if 12 < d + 1 then s = .error (4,t.p) else R s) rs) := hid (by simp only; rw [if_neg HN.out]; exact hr)
  clear hk hr
  cases rs with
  | error f =>
    simp only at hm
    unfold qbr at hm
    subst hm
    refine ⟨rfl,HK2.out,.error f,HRS.out,?_⟩
    exact rfl
  | ok x =>
    obtain ⟨v,rfl,hn2,hp2,he,hl⟩ := hm
    have HN2 := hid hn2; have HP2 := hid hp2; have HEL := hid (And.intro he hl)
    clear hn2 hp2 he hl
    have hd2 := HP2.out.depth.1
    have hz2 := HP2.out.depth.2
    have hsd := HP2.out.setDepth (d' := d)
    have HS := hid hsd
    clear hsd
    obtain ⟨D,hD⟩ : ∃ D : Int,D = ((d + 1 : Nat) : Int) := ⟨_,rfl⟩
    have hDm : D - 1 = (d : Int) := by omega
    have hDl : ¬ D - 1 < -9223372036854775808 := by omega
    have hDh : ¬ 9223372036854775807 < D - 1 := by have := HD.out; omega
    have HDM := hid hDm
    rw [← hD] at hd2
    clear hD hdn hn' hDm
    go_wp2_with fail
    rw [HDM.out]
    refine bodyPost_ret (results_tmp rfl _ _ _) rfl ⟨HK2.out.trans HS.out.1,.ok x,?_,v,rfl,qbh.mono (fun b _ h => ⟨h.1,Nat.le_trans HK1.out.size h.2⟩) _ _ (qbh.kept HS.out.1 (fun _ h => h.1) _ _ HN2.out),HS.out.2,HEL.out.1,HEL.out.2⟩
    have h : (if 12 < d + 1 then (.ok x : Res) = .error (4,t.p) else R (.ok x)) := HRS.out
    rw [if_neg HN.out] at h
    exact h
end Go.Proofs.YtgajofkeidjbgaaGreatDoor
namespace Go.Proofs.YtgajofkeidjbgaaGreatDoor
set_option linter.unusedSimpArgs false
set_option linter.unusedVariables false
set_option maxHeartbeats 2000000
set_option maxRecDepth 100000
open Go.RowKit
attribute [local go_sem high] tok_f0 tok_f1 tok_f2
theorem qbh.shape {S : Nat → Prop} {w : World} {v : Value} {x : Ex} (h : qbh S w v x) : ∃ T B,v = .iface T (.pointer (some ⟨B,0,none⟩)) := by
 cases x with
 | lit x => unfold qbh at h; obtain ⟨B,-,h,-⟩ := h; exact ⟨_,B,h⟩
 | name s p => unfold qbh at h; obtain ⟨B,-,h,-⟩ := h; exact ⟨_,B,h⟩
 | un n p x => unfold qbh at h; obtain ⟨B,u,-,h,-⟩ := h; exact ⟨_,B,h⟩
 | bin o p x y => unfold qbh at h; obtain ⟨B,u1,u2,-,h,-⟩ := h; exact ⟨_,B,h⟩
 | call f p l => unfold qbh at h; obtain ⟨B,vs,a,-,h,-⟩ := h; exact ⟨_,B,h⟩
theorem unary1_any (P X d : Nat) (t : Tok) (r : List Tok) (w : World) (hX : w.cell? ⟨X,0,none⟩ = some (.pointer (some ⟨P,0,none⟩))) (hXP : X ≠ P) (h : PAt w P d (t :: r)) (he : EndL r)
  (hU : ∀ w1,Keeps (fun b => b ≠ P) w w1 → PAt w1 P d r → Calls Tryz.prog 71 #[.pointer (some ⟨P,0,none⟩)] w1 (POut w1 P d r (Par true .un d r))) :
  Calls Tryz.prog 96 #[.pointer (some ⟨X,0,none⟩)] w (POut w P d (t :: r) fun s => ∃ s',Par true .un d r s' ∧ s = match s' with
   | .error f => .error f
   | .ok x => .ok (.un true t.p x.1,x.2)) := by
 have HP := hid h; have HU := hid hU; have HXP := hid hXP; have HEL := hid he
 clear h hU hXP he
 have hx := qad hX
 go_enter Tryz.func96,Tryz.ntmps96
 go_wp2_with fail
 refine wp_region_held_drew (S := fun w => w.cell? ⟨X,0,none⟩ = some (.pointer (some ⟨P,0,none⟩))) (by kernel_rfl) ((qag.drew w).cell hX) (fun hS => ?_)
 refine tH 0 (.pointer (some ⟨P,0,none⟩)) rfl (by kernel_rfl) (fun _ _ _ h => h) ⟨by rfl,?_⟩ hS ?_
 ·intro w hS
  go_simp
 refine tH 3 (.pointer (some ⟨P,0,none⟩)) rfl (by kernel_rfl) (fun _ _ _ h => h) ⟨by rfl,?_⟩ hS ?_
 ·intro w hS
  go_simp
 try simp only [Act.put,sib,List.set]
 refine wpAnyH_ready (rs := [1]) (by kernel_rfl) (by simp) (AllReadyH.cons rfl (fun K hK => ?_) AllReadyH.nil)
 go_simp
 refine (take_any P d t r _ (HP.out.later (qag.drew w))).mono ?_
 rintro e w1 ⟨rfl,hk1,hp1⟩
 have HK1 := hid (((qag.drew w).keeps _).trans hk1)
 have HP1 := hid hp1
 have hS1 := hk1.cell (p := ⟨X,0,none⟩) HXP.out hS
 clear hS hk1 hp1
 unfold Tok.v
 refine hK.out _ _ hS1 (fun hS => ?_)
 clear hK K hS1
 try simp only [Act.put,sib,List.set]
 refine tH 2 (.int .i64 (t.p : Int)) rfl (by kernel_rfl) (fun _ _ _ h => h) ⟨by rfl,?_⟩ hS ?_
 ·intro w hS
  go_simp
 try simp only [Act.put,sib,List.set]
 refine wpAnyH_ready (rs := [4]) (by kernel_rfl) (by simp) (AllReadyH.cons rfl (fun K hK => ?_) AllReadyH.nil)
 go_simp
 refine (HU.out w1 HK1.out HP1.out).mono ?_
 rintro e w2 ⟨hk2,rs,hr,hm⟩
 have HK2 := hid (HK1.out.trans hk2)
 have hS2 := hk2.cell (p := ⟨X,0,none⟩) HXP.out hS
 cases rs with
 | error f =>
   simp only at hm
   unfold qbr at hm
   subst hm
   refine ⟨rfl,HK2.out,.error f,⟨.error f,hr,rfl⟩,?_⟩
   exact rfl
 | ok x =>
   obtain ⟨v,rfl,hn2,hp2,he2,hl2⟩ := hm
   have HN2 := hid hn2; have HP2 := hid hp2; have HE2 := hid (And.intro he2 hl2); have HR2 := hid hr
   clear hn2 hp2 he2 hl2 hr hk2 hS
   refine hK.out _ _ hS2 (fun hS => ?_)
   clear hK K hS2
   obtain ⟨vT,vB,hv⟩ := HN2.out.shape
   subst hv
   try simp only [Act.put,sib,List.set]
   refine wpAnyH_ready (rs := [5]) (by kernel_rfl) (by simp) (AllReadyH.cons rfl (fun K hK => ?_) AllReadyH.nil)
   go_simp
   refine hK.out _ _ hS (fun hS => ?_)
   clear hK K
   try simp only [Act.put,sib,List.set]
   refine wpAnyH_ready (rs := [6]) (by kernel_rfl) (by simp) (AllReadyH.cons rfl (fun K hK => ?_) AllReadyH.nil)
   go_simp
   refine hK.out _ _ ((qag.alloc _ _).cell hS) (fun hS => ?_)
   clear hK K
   try simp only [Act.put,sib,List.set]
   refine wpAnyH_ready (rs := [7]) (by kernel_rfl) (by simp) (AllReadyH.cons rfl (fun K hK => ?_) AllReadyH.nil)
   go_simp
   refine hK.out _ _ hS (fun hS => ?_)
   clear hK K
   try simp only [Act.put,sib,List.set]
   refine wpAnyH_ready (rs := [8]) (by kernel_rfl) (by simp) (AllReadyH.cons rfl (fun K hK => ?_) AllReadyH.nil)
   go_simp
   refine hK.out _ _ hS (fun hS => ?_)
   clear hK K
   refine wpAnyH_done (by kernel_rfl) ?_ _
   go_wp2_with fail
   have hL := qag.alloc w2 (.cells #[.string ⟨#[45]⟩,.int .i64 (t.p : Int),.iface vT (.pointer (some ⟨vB,0,none⟩))] 139)
   have hPs : P < w2.heap.size := by obtain ⟨v,h1,-⟩ := HP2.out; exact (Array.getElem?_eq_some_iff.1 h1).1
   refine bodyPost_ret (results_tmp rfl _ _ _) rfl ⟨HK2.out.trans (hL.keeps _),.ok (.un true t.p x.1,x.2),⟨.ok x,HR2.out,rfl⟩,_,rfl,?_,HP2.out.later hL,HE2.out.1,by have := HE2.out.2; simp only [List.length_cons]; omega⟩
   unfold qbh
   exact ⟨w2.heap.size,_,⟨by omega,HK2.out.size⟩,rfl,qap w2 _,qbh.mono (fun b _ h => ⟨h.1,Nat.le_trans HK1.out.size h.2⟩) _ _ (qbh.kept (hL.keeps (fun b => b ≠ P)) (fun _ h => h.1) _ _ HN2.out)⟩
theorem binary1_any (P X d : Nat) (t : Tok) (r : List Tok) (w : World) (hX : w.cell? ⟨X,0,none⟩ = some (.pointer (some ⟨P,0,none⟩))) (hXP : X ≠ P) (h : PAt w P d (t :: r)) (he : EndL r)
  (hU : ∀ w1,Keeps (fun b => b ≠ P) w w1 → PAt w1 P d r → Calls Tryz.prog 39 #[.pointer (some ⟨P,0,none⟩),.int .i64 2] w1 (POut w1 P d r (Par true (.bin 2) d r))) :
  Calls Tryz.prog 73 #[.pointer (some ⟨X,0,none⟩)] w (POut w P d (t :: r) fun s => ∃ s',Par true (.bin 2) d r s' ∧ s = match s' with
   | .error f => .error f
   | .ok x => .ok (.un false t.p x.1,x.2)) := by
 have HP := hid h; have HU := hid hU; have HXP := hid hXP; have HEL := hid he
 clear h hU hXP he
 have hx := qad hX
 go_enter Tryz.func73,Tryz.ntmps73
 go_wp2_with fail
 refine wp_region_held_drew (S := fun w => w.cell? ⟨X,0,none⟩ = some (.pointer (some ⟨P,0,none⟩))) (by kernel_rfl) ((qag.drew w).cell hX) (fun hS => ?_)
 refine tH 0 (.pointer (some ⟨P,0,none⟩)) rfl (by kernel_rfl) (fun _ _ _ h => h) ⟨by rfl,?_⟩ hS ?_
 ·intro w hS
  go_simp
 refine tH 3 (.pointer (some ⟨P,0,none⟩)) rfl (by kernel_rfl) (fun _ _ _ h => h) ⟨by rfl,?_⟩ hS ?_
 ·intro w hS
  go_simp
 try simp only [Act.put,sib,List.set]
 refine wpAnyH_ready (rs := [1]) (by kernel_rfl) (by simp) (AllReadyH.cons rfl (fun K hK => ?_) AllReadyH.nil)
 go_simp
 refine (take_any P d t r _ (HP.out.later (qag.drew w))).mono ?_
 rintro e w1 ⟨rfl,hk1,hp1⟩
 have HK1 := hid (((qag.drew w).keeps _).trans hk1)
 have HP1 := hid hp1
 have hS1 := hk1.cell (p := ⟨X,0,none⟩) HXP.out hS
 clear hS hk1 hp1
 unfold Tok.v
 refine hK.out _ _ hS1 (fun hS => ?_)
 clear hK K hS1
 try simp only [Act.put,sib,List.set]
 refine tH 2 (.int .i64 (t.p : Int)) rfl (by kernel_rfl) (fun _ _ _ h => h) ⟨by rfl,?_⟩ hS ?_
 ·intro w hS
  go_simp
 try simp only [Act.put,sib,List.set]
 refine wpAnyH_ready (rs := [4]) (by kernel_rfl) (by simp) (AllReadyH.cons rfl (fun K hK => ?_) AllReadyH.nil)
 go_simp
 refine (HU.out w1 HK1.out HP1.out).mono ?_
 rintro e w2 ⟨hk2,rs,hr,hm⟩
 have HK2 := hid (HK1.out.trans hk2)
 have hS2 := hk2.cell (p := ⟨X,0,none⟩) HXP.out hS
 cases rs with
 | error f =>
   simp only at hm
   unfold qbr at hm
   subst hm
   refine ⟨rfl,HK2.out,.error f,⟨.error f,hr,rfl⟩,?_⟩
   exact rfl
 | ok x =>
   obtain ⟨v,rfl,hn2,hp2,he2,hl2⟩ := hm
   have HN2 := hid hn2; have HP2 := hid hp2; have HE2 := hid (And.intro he2 hl2); have HR2 := hid hr
   clear hn2 hp2 he2 hl2 hr hk2 hS
   refine hK.out _ _ hS2 (fun hS => ?_)
   clear hK K hS2
   obtain ⟨vT,vB,hv⟩ := HN2.out.shape
   subst hv
   try simp only [Act.put,sib,List.set]
   refine wpAnyH_ready (rs := [5]) (by kernel_rfl) (by simp) (AllReadyH.cons rfl (fun K hK => ?_) AllReadyH.nil)
   go_simp
   refine hK.out _ _ hS (fun hS => ?_)
   clear hK K
   try simp only [Act.put,sib,List.set]
   refine wpAnyH_ready (rs := [6]) (by kernel_rfl) (by simp) (AllReadyH.cons rfl (fun K hK => ?_) AllReadyH.nil)
   go_simp
   refine hK.out _ _ ((qag.alloc _ _).cell hS) (fun hS => ?_)
   clear hK K
   try simp only [Act.put,sib,List.set]
   refine wpAnyH_ready (rs := [7]) (by kernel_rfl) (by simp) (AllReadyH.cons rfl (fun K hK => ?_) AllReadyH.nil)
   go_simp
   refine hK.out _ _ hS (fun hS => ?_)
   clear hK K
   try simp only [Act.put,sib,List.set]
   refine wpAnyH_ready (rs := [8]) (by kernel_rfl) (by simp) (AllReadyH.cons rfl (fun K hK => ?_) AllReadyH.nil)
   go_simp
   refine hK.out _ _ hS (fun hS => ?_)
   clear hK K
   refine wpAnyH_done (by kernel_rfl) ?_ _
   go_wp2_with fail
   have hL := qag.alloc w2 (.cells #[.string ⟨#[110,111,116]⟩,.int .i64 (t.p : Int),.iface vT (.pointer (some ⟨vB,0,none⟩))] 139)
   have hPs : P < w2.heap.size := by obtain ⟨v,h1,-⟩ := HP2.out; exact (Array.getElem?_eq_some_iff.1 h1).1
   refine bodyPost_ret (results_tmp rfl _ _ _) rfl ⟨HK2.out.trans (hL.keeps _),.ok (.un false t.p x.1,x.2),⟨.ok x,HR2.out,rfl⟩,_,rfl,?_,HP2.out.later hL,HE2.out.1,by have := HE2.out.2; simp only [List.length_cons]; omega⟩
   unfold qbh
   exact ⟨w2.heap.size,_,⟨by omega,HK2.out.size⟩,rfl,qap w2 _,qbh.mono (fun b _ h => ⟨h.1,Nat.le_trans HK1.out.size h.2⟩) _ _ (qbh.kept (hL.keeps (fun b => b ≠ P)) (fun _ h => h.1) _ _ HN2.out)⟩
end Go.Proofs.YtgajofkeidjbgaaGreatDoor
