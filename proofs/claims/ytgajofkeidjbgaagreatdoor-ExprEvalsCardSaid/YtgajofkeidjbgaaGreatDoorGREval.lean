/-
  PROVED HERE: a part of the proof of ExprEvals: REval.
-/
import Derived.Test.YtgajofkeidjbgaaGreatDoorShort
import Derived.Test.YtgajofkeidjbgaaGreatDoorGREvalA
namespace Go.Proofs.YtgajofkeidjbgaaGreatDoor
set_option linter.unusedSimpArgs false
set_option linter.unusedVariables false
set_option maxHeartbeats 8000000
set_option maxRecDepth 100000
open Go.RowKit
def TriAt (w : World) (V : Nat) (a b c : Val) : Prop := w.heap[V]? = some (.cells #[.int .i64 a.k,.int .i64 a.n,.string a.t,.int .i64 b.k,.int .i64 b.n,.string b.t,.int .i64 c.k,.int .i64 c.n,.string c.t] 38 (0,0))
def TriL (w : World) (V : Nat) (l : List Val) : Prop := TriAt w V (l.getD 0 qaa) (l.getD 1 qaa) (l.getD 2 qaa)
def setT (w : World) (V k : Nat) (x : Val) : World := ((w.setCell ⟨V,k * 3,none⟩ (.int .i64 x.k)).setCell ⟨V,k * 3 + 1,none⟩ (.int .i64 x.n)).setCell ⟨V,k * 3 + 2,none⟩ (.string x.t)
theorem TriL.set {w : World} {V k : Nat} {l : List Val} (h : TriL w V l) (hl : l.length = k) (h3 : k < 3) (x : Val) : TriL (setT w V k x) V (l ++ [x]) := by
 subst hl
 unfold TriL TriAt setT at *
 match l,h3 with
 | [],_ => exact qak (i := 2) (qak (i := 1) (qak (i := 0) h _) _) _
 | [a],_ => exact qak (i := 5) (qak (i := 4) (qak (i := 3) h _) _) _
 | [a,b],_ => exact qak (i := 8) (qak (i := 7) (qak (i := 6) h _) _) _
 | _ :: _ :: _ :: _,h3 => exact absurd h3 (by simp)
theorem TriL.cell {w : World} {V : Nat} {l : List Val} (h : TriL w V l) (k : Nat) (h3 : k < 3) : (∃ u,w.cell? ⟨V,k * 3,none⟩ = some u) ∧ (∃ u,w.cell? ⟨V,k * 3 + 1,none⟩ = some u) ∧ ∃ u,w.cell? ⟨V,k * 3 + 2,none⟩ = some u := by
 match k,h3 with
 | 0,_ => exact ⟨⟨_,qac (i := 0) h rfl⟩,⟨_,qac (i := 1) h rfl⟩,⟨_,qac (i := 2) h rfl⟩⟩
 | 1,_ => exact ⟨⟨_,qac (i := 3) h rfl⟩,⟨_,qac (i := 4) h rfl⟩,⟨_,qac (i := 5) h rfl⟩⟩
 | 2,_ => exact ⟨⟨_,qac (i := 6) h rfl⟩,⟨_,qac (i := 7) h rfl⟩,⟨_,qac (i := 8) h rfl⟩⟩
theorem TriL.last {w : World} {V k : Nat} {l : List Val} {x : Val} (h : TriL w V (l ++ [x])) (hl : l.length = k) (h3 : k < 3) : w.cell? ⟨V,k * 3,none⟩ = some (.int .i64 x.k) := by
 subst hl
 match l,h3 with
 | [],_ => exact qac (i := 0) h rfl
 | [a],_ => exact qac (i := 3) h rfl
 | [a,b],_ => exact qac (i := 6) h rfl
 | _ :: _ :: _ :: _,h3 => exact absurd h3 (by simp)
theorem setT_later {w0 w : World} (h : qag w0 w) {V : Nat} (hV : w0.heap.size ≤ V) (k : Nat) (x : Val) : qag w0 (setT w V k x) := ((h.new (p := ⟨V,k * 3,none⟩) hV _).new (p := ⟨V,k * 3 + 1,none⟩) hV _).new (p := ⟨V,k * 3 + 2,none⟩) hV _
theorem setT_keep {w : World} {R V : Nat} {y : Val} (h : qcm w R y) (hne : V ≠ R) (k : Nat) (x : Val) : qcm (setT w V k x) R y := by
 unfold qcm setT
 exact (((Keeps.refl (fun b => b ≠ V) w).setCell (p := ⟨V,k * 3,none⟩) (.inl fun h => h rfl) _).setCell (p := ⟨V,k * 3 + 1,none⟩) (.inl fun h => h rfl) _ |>.setCell (p := ⟨V,k * 3 + 2,none⟩) (.inl fun h => h rfl) _).obj (fun e => hne e.symm) h
def NewV (B : Nat) (cs : Array Value) (t : TypeId) (v : Value) (w : World) : Prop := ∃ b,v = .pointer (some ⟨b,0,none⟩) ∧ w.heap[b]? = some (.cells cs t (0,0)) ∧ B ≤ b
theorem NewV.later {B : Nat} {cs : Array Value} {t : TypeId} {v : Value} {w w' : World} (h : NewV B cs t v w) (k : qag w w') : NewV B cs t v w' := let ⟨b,h1,h2,h3⟩ := h; ⟨b,h1,k.obj h2,h3⟩
structure EvSt (w0 w : World) (B R V F T : Nat) (wh : ByteArray) (nm : Value) (a b d : Val) : Prop where
 later : qag w0 w
 what : w.cell? ⟨B,0,none⟩ = some (.string wh)
 name : w.cell? ⟨B,6,none⟩ = some nm
 ret : qcm w R qaa
 tri : TriAt w V a b d
 no : qcm w F (qav false)
 yes : qcm w T (qav true)
 new : w0.heap.size ≤ R
theorem EvSt.go {w0 w w' : World} {B R V F T : Nat} {wh : ByteArray} {nm : Value} {a b d : Val} (h : EvSt w0 w B R V F T wh nm a b d) (k : qag w w') : EvSt w0 w' B R V F T wh nm a b d :=
 ⟨qag.trans _ _ _ h.later k,k.cell h.what,k.cell h.name,h.ret.later k,k.obj h.tri,h.no.later k,h.yes.later k,h.new⟩
theorem EvSt.cells {w0 w : World} {B R V F T : Nat} {wh : ByteArray} {nm : Value} {a b d : Val} (h : EvSt w0 w B R V F T wh nm a b d) : w.cell? ⟨B,0,none⟩ = some (.string wh) ∧ w.cell? ⟨B,6,none⟩ = some nm ∧ w.cell? ⟨V,0,none⟩ = some (.int .i64 a.k) ∧ w.cell? ⟨V,1,none⟩ = some (.int .i64 a.n) ∧ w.cell? ⟨V,2,none⟩ = some (.string a.t) ∧ w.cell? ⟨V,3,none⟩ = some (.int .i64 b.k) ∧ w.cell? ⟨V,4,none⟩ = some (.int .i64 b.n) ∧ w.cell? ⟨V,5,none⟩ = some (.string b.t) ∧ w.cell? ⟨V,6,none⟩ = some (.int .i64 d.k) ∧ w.cell? ⟨V,7,none⟩ = some (.int .i64 d.n) ∧ w.cell? ⟨V,8,none⟩ = some (.string d.t) ∧ w.cell? ⟨F,0,none⟩ = some (.int .i64 2) ∧ w.cell? ⟨F,1,none⟩ = some (.int .i64 0) ∧ w.cell? ⟨F,2,none⟩ = some (.string ⟨#[]⟩) ∧ w.cell? ⟨T,0,none⟩ = some (.int .i64 2) ∧ w.cell? ⟨T,1,none⟩ = some (.int .i64 1) ∧ w.cell? ⟨T,2,none⟩ = some (.string ⟨#[]⟩) ∧ w.cell? ⟨R,0,none⟩ = some (.int .i64 0) ∧ w.cell? ⟨R,1,none⟩ = some (.int .i64 0) ∧ w.cell? ⟨R,2,none⟩ = some (.string ByteArray.empty) ∧ w.frozen? ⟨R,0,none⟩ = false ∧ w.frozen? ⟨R,1,none⟩ = false ∧ w.frozen? ⟨R,2,none⟩ = false ∧ R < w.heap.size ∧ B < w.heap.size ∧ V < w.heap.size ∧ F < w.heap.size ∧ T < w.heap.size :=
 ⟨h.what,h.name,qac (i := 0) h.tri rfl,qac (i := 1) h.tri rfl,qac (i := 2) h.tri rfl,qac (i := 3) h.tri rfl,qac (i := 4) h.tri rfl,qac (i := 5) h.tri rfl,qac (i := 6) h.tri rfl,qac (i := 7) h.tri rfl,qac (i := 8) h.tri rfl,qac (i := 0) h.no rfl,qac (i := 1) h.no rfl,qac (i := 2) h.no rfl,qac (i := 0) h.yes rfl,qac (i := 1) h.yes rfl,qac (i := 2) h.yes rfl,qac (i := 0) h.ret rfl,qac (i := 1) h.ret rfl,qac (i := 2) h.ret rfl,qaq h.ret,qaq h.ret,qaq h.ret,qch h.ret,qad h.what,qch h.tri,qch h.no,qch h.yes⟩
attribute [local go_sem high] qdq qdp
theorem doc_and {o nm : List UInt8} {v0 v1 v2 : Val} {n : Nat} (h : o = andW) (hv : v0 = qav false ∨ v1 = qav false) : docV o nm v0 v1 v2 n = qav false := by unfold docV; rw [if_pos ⟨h,hv⟩]
theorem doc_or {o nm : List UInt8} {v0 v1 v2 : Val} {n : Nat} (h : o = orW) (hv : v0 = qav true ∨ v1 = qav true) : docV o nm v0 v1 v2 n = qav true := by
 subst h
 unfold docV
 rw [if_neg (fun h => absurd h.1 (by decide)),if_pos ⟨rfl,hv⟩]
theorem doc_fn {o nm : List UInt8} {v0 v1 v2 : Val} {n : Nat} (h : o = qcu) : docV o nm v0 v1 v2 n = if nm = qbv then qav (decide (n = 1)) else if nm = coalW then (if v0.k = 0 then v1 else v0) else if nm = ifW then (if v0 = qav true then v1 else v2) else if 0 < n then qaa else qat o nm v0 v1 := by
 subst h
 unfold docV
 rw [if_neg (fun h => absurd h.1 (by decide)),if_neg (fun h => absurd h.1 (by decide))]
 simp only [true_and]
theorem doc_rest {o nm : List UInt8} {v0 v1 v2 : Val} {n : Nat} (h1 : ¬ (o = andW ∧ (v0 = qav false ∨ v1 = qav false))) (h2 : ¬ (o = orW ∧ (v0 = qav true ∨ v1 = qav true))) (h3 : o ≠ qcu) : docV o nm v0 v1 v2 n = if 0 < n then qaa else qat o nm v0 v1 := by
 unfold docV
 rw [if_neg h1,if_neg h2,if_neg (fun h => h3 h.1),if_neg (fun h => h3 h.1),if_neg (fun h => h3 h.1)]
theorem rec_kids (cs : List Col) (row : List Val) (x : Ex) (hi : isKid x = true) (hsub : ∀ y ∈ qbw x,REC cs row y) : REC cs row x := by
 intro k0 B S ao c rao rc w hn hel hlen hc hr hf ho hcost hk0
 obtain ⟨a,vs,v1,v2,v3,nm,hobj,hkids,hes,hnm⟩ := hn.kids hi
 obtain ⟨hky,hl3,hna,hvs,hdoc⟩ := rev_parts hc hf hi ho hk0
 have hul := es_len hes
 obtain ⟨ag,cp,ha⟩ : ∃ ag cp,a = .slice ag vs.length cp := by
  obtain ⟨ag,cp,hv,-⟩ := hkids
  exact ⟨ag,cp,hv⟩
 have hcellk : ∀ k (h : k < vs.length),∃ b o,ag = some ⟨b,o,none⟩ ∧ w.cell? ⟨b,o + k,none⟩ = some vs[k] := fun k hk => by
  obtain ⟨b,o,c',e,hx⟩ := kids_at hkids (by intro e; rw [e] at hk; exact absurd hk (by simp))
  rw [ha] at e
  simp only [Value.slice.injEq] at e
  exact ⟨b,o,e.1,hx k hk⟩
 subst ha
 have hw := what_kid hi ho
 obtain ⟨wh,hwh⟩ : ∃ s,s = qah (qen x) := ⟨_,rfl⟩
 have e1 : (wh.toList == [118,97,108,117,101]) = false := what_ne hwh hw.1
 have e2 : (wh.toList == [110,97,109,101]) = false := what_ne hwh hw.2.1
 obtain ⟨ba,hba⟩ : ∃ b,decide (qen x = [97,110,100]) = b := ⟨_,rfl⟩
 have e3 : (wh.toList == [97,110,100]) = ba := by rw [hwh,qan,← hba,Bool.eq_iff_iff]; simp
 obtain ⟨bo,hbo⟩ : ∃ b,decide (qen x = [111,114]) = b := ⟨_,rfl⟩
 have e4 : (wh.toList == [111,114]) = bo := by rw [hwh,qan,← hbo,Bool.eq_iff_iff]; simp
 obtain ⟨bc,hbc⟩ : ∃ b,isCallE x = b := ⟨_,rfl⟩
 have e5 : (wh.toList == [99,97,108,108]) = bc := by
  rw [hwh,qan,← hbc,Bool.eq_iff_iff]
  simpa using hw.2.2
 have HW2 : Hid (qen x = qcu ↔ isCallE x = true) := hid hw.2.2
 have HWH := hid hwh; have HBA := hid hba; have HBO := hid hbo; have HBC := hid hbc
 have HOBJ := hid hobj; have HES := hid hes; have HEL := hid hel; have HLN := hid hlen; have HC := hid hc; have HO := hid ho; have HCO := hid hcost; have HSUB := hid hsub; have HKY := hid hky; have HNM := hid hnm; have HUL := hid hul; have HCK := hid hcellk; have HI := hid hi; have HL3 := hid hl3; have HNA := hid hna; have HVS := hid hvs; have HDOC := hid hdoc; have HRW := hid hr; have HF := hid hf
 rw [← hwh] at hobj
 have HOB := hid hobj
 obtain ⟨w1,hw1,hL1,hR1⟩ := qei w
 have c0 : w1.cell? ⟨B,0,none⟩ = some (.string wh) := qac (i := 0) (hL1.obj hobj) rfl
 have hlt := qad c0
 have HL1 := hid hL1; have HR1 := hid hR1
 clear hn hel hlen hc ho hcost hobj hkids hes hnm hul hcellk hw hwh hsub hi hbc hba hbo hky hl3 hna hvs hdoc hr hf hk0 hL1 hR1
 go_enter Tryz.func16,Tryz.ntmps16
 go_upto_region 1 with (fail)
 rw [← hw1]
 clear hw1
 obtain ⟨R,hR⟩ : ∃ R,R = w.heap.size := ⟨_,rfl⟩
 rw [← hR] at HR1 ⊢
 have HRN : Hid (w.heap.size ≤ R) := hid (by omega)
 clear hR
 go_upto_region 7 with (fail)
 obtain ⟨V,hV⟩ : ∃ V,V = w1.heap.size := ⟨_,rfl⟩
 obtain ⟨w2,hw2⟩ : ∃ x,x = w1.alloc (.cells #[.int .i64 0,.int .i64 0,.string ⟨#[]⟩,.int .i64 0,.int .i64 0,.string ⟨#[]⟩,.int .i64 0,.int .i64 0,.string ⟨#[]⟩] 38) := ⟨_,rfl⟩
 have hL2 : qag w1 w2 := hw2 ▸ qag.alloc _ _
 have hT2 : TriL w2 V [] := by unfold TriL TriAt; rw [hw2,hV]; exact qap _ _
 have HVR : Hid (V ≠ R) := hid (by have := qch HR1.out; omega)
 have HVN : Hid (w.heap.size ≤ V) := hid (by have := HL1.out.size; omega)
 rw [← hw2,← hV]
 have HR2 := hid (HR1.out.later hL2)
 have HL2 := hid (qag.trans _ _ _ HL1.out hL2)
 have HT2 := hid hT2
 clear hw2 hV hL2 hT2 c0 hlt HR1 HL1
 go_wp2_with fail
 obtain ⟨R1,hR1⟩ : ∃ RR_ : (Nat → Value) → World → Prop,RR_ = (fun us wx => ∃ k : Nat,us 10 = .int .i64 (k : Int) ∧ k ≤ vs.length ∧ us 9 = .int .i64 ((nullN ((qbe cs row (qbw x)).take k) : Nat) : Int) ∧ qag w wx ∧ qcm wx R qaa ∧ TriL wx V ((qbe cs row (qbw x)).take k)) := ⟨_,rfl⟩
 obtain ⟨mu1,hmu1⟩ : ∃ mu : (Nat → Value) → World → Nat,mu = (fun us _ => vs.length - (intOf (us 10)).toNat) := ⟨_,rfl⟩
 have HR1 := hid hR1; have Hmu1 := hid hmu1; clear hR1 hmu1
 refine qal [ff,ff,ff,ff,ff,ff,ff,ff,ff,true,true,ff,ff,ff,ff,ff,ff,ff,ff,ff,ff,ff,ff,ff,ff,ff,ff,ff,ff,ff,ff,ff,ff,ff,ff,ff,ff,ff,ff,ff,ff,ff,true,true,true,true,true,true,true,true,true,true,true,true,true,true,true,true,true,true,true,true,true,true,true,true,true,true,true,true,true,true] R1 _ mu1 HR1.out ?_ ?_
 ·exact ⟨0,rfl,Nat.zero_le _,rfl,HL2.out,HR2.out,HT2.out⟩
 clear HR2 HL2 HT2 e1 e2
 intro us1 wx hrel
 obtain ⟨k,h10,hk,h9,hL,hR,hT⟩ := hrel
 simp only [qao,Nat.reduceAdd,h10,h9]
 have Hh10 := hid h10; clear h10
 have Hh9 := hid h9; clear h9
 have HL := hid hL; have HR := hid hR; have HT := hid hT; have HKL := hid hk
 have HEL2 : Hid ((qbe cs row (qbw x)).length = vs.length) := hid (by rw [evals_map,List.length_map]; exact HUL.out.symm)
 have c2 : wx.cell? ⟨B,2,none⟩ = some (.slice ag vs.length cp) := qac (i := 2) (hL.obj HOBJ.out) rfl
 have hlt2 := qad c2
 clear hL hR hT
 by_cases hkv : k < vs.length
 ·have hki : (k : Int) < vs.length := by omega
  have HKV := hid hkv
  have hk3 : k < 3 := by have := HL3.out; rw [← HUL.out] at this; omega
  have HK3 := hid hk3
  have hkx : k < (qbw x).length := by rw [← HUL.out]; exact hkv
  have HKX := hid hkx
  obtain ⟨g,o,rfl,hcg⟩ := HCK.out k hkv
  replace hcg := HL.out.cell hcg
  have hen := es_at HES.out k hkx hkv
  obtain ⟨u,hu⟩ : ∃ u,vs[k]'HKV.out = u := ⟨_,rfl⟩
  rw [hu] at hcg hen
  obtain ⟨y,hy⟩ : ∃ y,(qbw x)[k]'HKX.out = y := ⟨_,rfl⟩
  rw [hy] at hen
  obtain ⟨N,rfl⟩ := hen.ptr
  have HEN := hid (EIn.kept (HL.out.keeps S) (fun _ h => h) _ _ hen)
  have hgl := qad hcg
  have HY := hid hy
  have HWK : Hid (wrap64 ((k : Int) + 1) = ((k + 1 : Nat) : Int)) := hid (by have := HK3.out; unfold wrap64; omega)
  have HCY : Hid (qbj y ≤ 1000000) := hid (by have := costs_at (qbw x) k HKX.out; rw [hy] at this; have := kids_cost (x := x); have := HCO.out; omega)
  have HOY : Hid (qef y) := hid (by have := exs_at' (kids_ok HO.out) k HKX.out; rw [hy] at this; exact this)
  have HTK : Hid ((qbe cs row (qbw x)).take (k + 1) = (qbe cs row (qbw x)).take k ++ [qby cs row y]) := hid (by
   rw [List.take_add_one,evals_map,List.getElem?_map,List.getElem?_eq_getElem HKX.out,hy]
   rfl)
  have HLT : Hid (((qbe cs row (qbw x)).take k).length = k) := hid (by rw [List.length_take,HEL2.out]; have := HKL.out; omega)
  have hym : y ∈ qbw x := by rw [← hy]; exact List.getElem_mem _
  obtain ⟨ky,hky⟩ := HKY.out y hym
  have HRE := hid (HSUB.out y hym ky N S ao c rao rc wx HEN.out (cols_later HEL.out HL.out) HLN.out HC.out (vals_go HRW.out HL.out) HF.out HOY.out HCY.out hky)
  obtain ⟨r,hr⟩ : ∃ r,qby cs row y = r := ⟨_,rfl⟩
  rw [hr] at HRE HTK
  obtain ⟨⟨t0,z0⟩,⟨t1,z1⟩,⟨t2,z2⟩⟩ := HT.out.cell k hk3
  have zl := qad z0
  have hk0 : (0 : Int) ≤ k := by omega
  have hk3i : (k : Int) < 3 := by omega
  clear hk hkv hkx hen hu hy hym hr hky hk3
  go_wp2_with fail
  refine HRE.out.mono ?_
  rintro e w3 ⟨rfl,hL3⟩
  have HL3 := hid (qag.trans _ _ _ HL.out hL3)
  have HR3 := hid (HR.out.later hL3)
  have HT3 : Hid (TriL w3 V ((qbe cs row (qbw x)).take k)) := hid (hL3.obj HT.out)
  replace z0 := hL3.cell z0
  replace z1 := hL3.cell z1
  replace z2 := hL3.cell z2
  replace zl := qad z0
  have y0 : w3.frozen? ⟨V,k * 3,none⟩ = false := qaq HT3.out
  have y1 : w3.frozen? ⟨V,k * 3 + 1,none⟩ = false := qaq HT3.out
  have y2 : w3.frozen? ⟨V,k * 3 + 2,none⟩ = false := qaq HT3.out
  rw [vv r]
  clear hL3 c2 hcg hgl hlt2
  go_upto_region 12 with (fail)
  obtain ⟨w4,hw4⟩ : ∃ x,x = setT w3 V k r := ⟨_,rfl⟩
  have HT4 : Hid (TriL w4 V ((qbe cs row (qbw x)).take k ++ [r])) := hid (by rw [hw4]; exact HT3.out.set HLT.out HK3.out r)
  have HL4 : Hid (qag w w4) := hid (by rw [hw4]; exact setT_later HL3.out HVN.out k r)
  have HR4 : Hid (qcm w4 R qaa) := hid (by rw [hw4]; exact setT_keep HR3.out HVR.out k r)
  unfold setT at hw4
  rw [← hw4]
  have q0 : w4.cell? ⟨V,k * 3,none⟩ = some (.int .i64 r.k) := HT4.out.last HLT.out HK3.out
  have ql := qad q0
  obtain ⟨m,hm⟩ : ∃ m,nullN ((qbe cs row (qbw x)).take k) = m := ⟨_,rfl⟩
  have HM := hid hm
  have hm3 : m ≤ k := by
   have h := List.length_filter_le (fun v : Val => decide (v.k = 0)) ((qbe cs row (qbw x)).take k)
   rw [HLT.out] at h
   rw [← hm]
   exact h
  have HWN : Hid (wrap64 ((m : Int) + 1) = ((m + 1 : Nat) : Int)) := hid (by have := HK3.out; unfold wrap64; omega)
  have HLK := hid Hh10.out
  rw [hm]
  clear hw4 z0 z1 z2 y0 y1 y2 zl hm hm3
  by_cases hz : r.k = 0
  ·have hz1 : (r.k == 0) = true := by simpa using hz
   have HNN : Hid (nullN ((qbe cs row (qbw x)).take (k + 1)) = m + 1) := hid (by rw [HTK.out,nullN_append,HM.out,if_pos hz])
   clear hz
   go_wp2_with fail
   try simp only [HWK.out,HWN.out]
   refine Round.mk' HR1.out Hmu1.out rfl ?_ ?_
   ·exact ⟨k + 1,rfl,HKV.out,by rw [HNN.out]; rfl,HL4.out,HR4.out,by rw [HTK.out]; exact HT4.out⟩
   ·rw [Hh10.out]; have := HKV.out; simp [intOf,qas]; omega
  ·have hz1 : (r.k == 0) = false := by simpa using hz
   have HNN : Hid (nullN ((qbe cs row (qbw x)).take (k + 1)) = m) := hid (by rw [HTK.out,nullN_append,HM.out,if_neg hz]; rfl)
   clear hz
   go_wp2_with fail
   try simp only [HWK.out]
   refine Round.mk' HR1.out Hmu1.out rfl ?_ ?_
   ·exact ⟨k + 1,rfl,HKV.out,by rw [HNN.out]; rfl,HL4.out,HR4.out,by rw [HTK.out]; exact HT4.out⟩
   ·rw [Hh10.out]; have := HKV.out; simp [intOf,qas]; omega
 have hki : ¬ (k : Int) < vs.length := by omega
 obtain rfl : k = vs.length := by omega
 have hfull : (qbe cs row (qbw x)).take vs.length = qbe cs row (qbw x) := by rw [← HEL2.out,List.take_length]
 rw [hfull] at HT ⊢
 obtain ⟨ev,hev⟩ : ∃ l,qbe cs row (qbw x) = l := ⟨_,rfl⟩
 rw [hev] at HT HDOC HVS ⊢
 have hvi : ∀ i,qdr (ev.getD i qaa) ∧ (ev.getD i qaa).t.size ≤ 1000 := fun i => by
  by_cases hil : i < ev.length
  ·rw [List.getD_eq_getElem?_getD,List.getElem?_eq_getElem hil]
   exact HVS.out _ (List.getElem_mem _)
  ·rw [List.getD_eq_getElem?_getD,List.getElem?_eq_none (by omega)]
   exact ⟨by unfold qdr qaa; simp,(by decide : (0 : Nat) ≤ 1000)⟩
 obtain ⟨a,ha⟩ : ∃ v,ev.getD 0 qaa = v := ⟨_,rfl⟩
 obtain ⟨b,hb⟩ : ∃ v,ev.getD 1 qaa = v := ⟨_,rfl⟩
 obtain ⟨d,hd⟩ : ∃ v,ev.getD 2 qaa = v := ⟨_,rfl⟩
 obtain ⟨n,hn⟩ : ∃ n,nullN ev = n := ⟨_,rfl⟩
 have HVA : Hid (qdr a ∧ a.t.size ≤ 1000) := hid (ha ▸ hvi 0)
 have HVB : Hid (qdr b ∧ b.t.size ≤ 1000) := hid (hb ▸ hvi 1)
 have HTA : Hid (TriAt wx V a b d) := hid (by have := HT.out; unfold TriL at this; rw [ha,hb,hd] at this; exact this)
 rw [ha,hb,hd,hn] at HDOC
 rw [hn]
 clear hkv hk hfull hev hvi ha hb hd hn HT HVS HKY HSUB HES HCK HRW HF Hh9 Hh10 HEL2 HC HEL HLN HCO HUL HL3 HKL
 go_wp2_with fail
 refine (qca false wx).mono ?_
 rintro e w3 ⟨rfl,hL3⟩
 have HL3 := hid (qag.trans _ _ _ HL.out hL3)
 have HR3 := hid (HR.out.later hL3)
 have HTA3 := hid (hL3.obj HTA.out)
 rw [show Val.v ⟨2,if false = true then 1 else 0,ByteArray.empty⟩ = .agg #[.int .i64 2,.int .i64 0,.string ⟨#[]⟩] from rfl]
 clear hL3 c2 hlt2
 go_upto_region 15 with (fail)
 obtain ⟨F,hFe⟩ : ∃ A,A = w3.heap.size := ⟨_,rfl⟩
 obtain ⟨w4,hw⟩ : ∃ x,x = w3.alloc (.cells #[.int .i64 2,.int .i64 0,.string ⟨#[]⟩] 38) := ⟨_,rfl⟩
 have hL4 : qag w3 w4 := hw ▸ qag.alloc _ _
 have HF4 : Hid (qcm w4 F (qav false)) := hid (by unfold qcm; rw [hw,hFe]; exact qap _ _)
 rw [← hw,← hFe]
 have HL4 := hid (qag.trans _ _ _ HL3.out hL4)
 have HR4 := hid (HR3.out.later hL4)
 have HTA4 := hid (hL4.obj HTA3.out)
 clear hw hFe hL4
 go_wp2_with fail
 refine (qca true w4).mono ?_
 rintro e w5 ⟨rfl,hL5⟩
 have HL5 := hid (qag.trans _ _ _ HL4.out hL5)
 have HR5 := hid (HR4.out.later hL5)
 have HTA5 := hid (hL5.obj HTA4.out)
 have HF5 := hid (HF4.out.later hL5)
 rw [show Val.v ⟨2,if true = true then 1 else 0,ByteArray.empty⟩ = .agg #[.int .i64 2,.int .i64 1,.string ⟨#[]⟩] from rfl]
 clear hL5
 go_upto_region 16 with (fail)
 obtain ⟨T,hTe⟩ : ∃ A,A = w5.heap.size := ⟨_,rfl⟩
 obtain ⟨w6,hw⟩ : ∃ x,x = w5.alloc (.cells #[.int .i64 2,.int .i64 1,.string ⟨#[]⟩] 38) := ⟨_,rfl⟩
 have hL6 : qag w5 w6 := hw ▸ qag.alloc _ _
 have hT6 : qcm w6 T (qav true) := by unfold qcm; rw [hw,hTe]; exact qap _ _
 rw [← hw,← hTe]
 have hLX := qag.trans _ _ _ HL5.out hL6
 have HS0 : Hid (EvSt w w6 B R V F T wh nm a b d) := hid
  ⟨hLX,qac (i := 0) (hLX.obj HOB.out) rfl,qac (i := 6) (hLX.obj HOB.out) rfl,HR5.out.later hL6,hL6.obj HTA5.out,HF5.out.later hL6,hT6,HRN.out⟩
 clear hw hTe hL6 hT6 hLX HL HL3 HL4 HL5 HR HR3 HR4 HR5 HTA HTA3 HTA4 HTA5 HF4 HF5
 obtain ⟨c0,c6,x0,x1,x2,x3,x4,x5,x6,x7,x8,n0,n1,n2,s0,s1,s2,r0,r1,r2,f0,f1,f2,rl,l0,l1,l2,l3⟩ := HS0.out.cells
 obtain ⟨p0,hp0⟩ : ∃ q_,decide (a = qav false) = q_ := ⟨_,rfl⟩
 have Hp0 := hid hp0
 have hep0 : eqV ⟨a.k,a.n,a.t⟩ ⟨2,0,⟨#[]⟩⟩ = p0 := (eqV_dec a (qav false)).trans hp0
 clear hp0
 obtain ⟨p1,hp1⟩ : ∃ q_,decide (b = qav false) = q_ := ⟨_,rfl⟩
 have Hp1 := hid hp1
 have hep1 : eqV ⟨b.k,b.n,b.t⟩ ⟨2,0,⟨#[]⟩⟩ = p1 := (eqV_dec b (qav false)).trans hp1
 clear hp1
 obtain ⟨y0,hy0⟩ : ∃ q_,decide (a = qav true) = q_ := ⟨_,rfl⟩
 have Hy0 := hid hy0
 have hey0 : eqV ⟨a.k,a.n,a.t⟩ ⟨2,1,⟨#[]⟩⟩ = y0 := (eqV_dec a (qav true)).trans hy0
 clear hy0
 obtain ⟨y1,hy1⟩ : ∃ q_,decide (b = qav true) = q_ := ⟨_,rfl⟩
 have Hy1 := hid hy1
 have hey1 : eqV ⟨b.k,b.n,b.t⟩ ⟨2,1,⟨#[]⟩⟩ = y1 := (eqV_dec b (qav true)).trans hy1
 clear hy1
 cases ba with
 | true =>
   have hb1 : bo = false := by rw [← HBO.out,of_decide_eq_true HBA.out]; decide
   have hb2 : bc = false := by
    cases bc with
    | false => rfl
    | true => have := HW2.out.2 HBC.out; rw [of_decide_eq_true HBA.out] at this; exact absurd this (by decide)
   subst hb1 hb2
   cases p0 with
   | true =>
     go_upto_region 16 with (fail)
     refine qaj (by kernel_rfl) (by kernel_rfl) qag qag.refl qag.trans (fun _ => none) (fun _ _ _ _ _ h => by cases h) ?_
     simp only [qam,Nat.reduceAdd]
     refine LexS.out ?_
     iterate 20
      first
      | (refine LexS.skip rfl ?_; simp only [Act.put,sib,List.set])
      | (refine LexS.one' rfl rfl ?_
         apply Exists.intro
         refine ⟨fun w hR hF => ?_,?_⟩
         ·have hP := hR
          repeat (first | replace hP := qag.of_drew hP | replace hP := qag.of_drewN hP | replace hP := qag.of_alloc hP)
          have hcs := hR.cells
          have zc0 := hP.cell c0
          have zx0 := hP.cell x0
          have zx1 := hP.cell x1
          have zx2 := hP.cell x2
          have zx3 := hP.cell x3
          have zx4 := hP.cell x4
          have zx5 := hP.cell x5
          have zn0 := hP.cell n0
          have zn1 := hP.cell n1
          have zn2 := hP.cell n2
          clear hR hF hP
          go_simp
          first | done | rfl
         simp only [Act.put,sib,List.set])
     refine LexS.nil ?_
     intro w7 hLq hF9
     clear hF9
     repeat (first | replace hLq := qag.of_drew hLq | replace hLq := qag.of_drewN hLq | replace hLq := qag.of_alloc hLq)
     have HSw7 := hid (HS0.out.go hLq)
     clear hLq
     clear c0 c6 x0 x1 x2 x3 x4 x5 x6 x7 x8 n0 n1 n2 s0 s1 s2 r0 r1 r2 f0 f1 f2 rl l0 l1 l2 l3
     obtain ⟨c0,c6,x0,x1,x2,x3,x4,x5,x6,x7,x8,n0,n1,n2,s0,s1,s2,r0,r1,r2,f0,f1,f2,rl,l0,l1,l2,l3⟩ := HSw7.out.cells
     go_wp2_with fail
     refine bodyPost_ret (qaf rfl rfl (HSw7.out.ret.set (qav false))) rfl ⟨?_,qae HSw7.out.later HSw7.out.new (qav false)⟩
     rw [← HDOC.out,doc_and (of_decide_eq_true HBA.out) (.inl (of_decide_eq_true Hp0.out))]
   | false =>
     cases p1 with
     | true =>
       go_upto_region 16 with (fail)
       refine qaj (by kernel_rfl) (by kernel_rfl) qag qag.refl qag.trans (fun _ => none) (fun _ _ _ _ _ h => by cases h) ?_
       simp only [qam,Nat.reduceAdd]
       refine LexS.out ?_
       iterate 20
        first
        | (refine LexS.skip rfl ?_; simp only [Act.put,sib,List.set])
        | (refine LexS.one' rfl rfl ?_
           apply Exists.intro
           refine ⟨fun w hR hF => ?_,?_⟩
           ·have hP := hR
            repeat (first | replace hP := qag.of_drew hP | replace hP := qag.of_drewN hP | replace hP := qag.of_alloc hP)
            have hcs := hR.cells
            have zc0 := hP.cell c0
            have zx0 := hP.cell x0
            have zx1 := hP.cell x1
            have zx2 := hP.cell x2
            have zx3 := hP.cell x3
            have zx4 := hP.cell x4
            have zx5 := hP.cell x5
            have zn0 := hP.cell n0
            have zn1 := hP.cell n1
            have zn2 := hP.cell n2
            clear hR hF hP
            go_simp
            first | done | rfl
           simp only [Act.put,sib,List.set])
       refine LexS.nil ?_
       intro w7 hLq hF9
       clear hF9
       repeat (first | replace hLq := qag.of_drew hLq | replace hLq := qag.of_drewN hLq | replace hLq := qag.of_alloc hLq)
       have HSw7 := hid (HS0.out.go hLq)
       clear hLq
       clear c0 c6 x0 x1 x2 x3 x4 x5 x6 x7 x8 n0 n1 n2 s0 s1 s2 r0 r1 r2 f0 f1 f2 rl l0 l1 l2 l3
       obtain ⟨c0,c6,x0,x1,x2,x3,x4,x5,x6,x7,x8,n0,n1,n2,s0,s1,s2,r0,r1,r2,f0,f1,f2,rl,l0,l1,l2,l3⟩ := HSw7.out.cells
       go_wp2_with fail
       refine bodyPost_ret (qaf rfl rfl (HSw7.out.ret.set (qav false))) rfl ⟨?_,qae HSw7.out.later HSw7.out.new (qav false)⟩
       rw [← HDOC.out,doc_and (of_decide_eq_true HBA.out) (.inr (of_decide_eq_true Hp1.out))]
     | false =>
       go_upto_region 16 with (fail)
       refine qaj (by kernel_rfl) (by kernel_rfl) qag qag.refl qag.trans (fun _ => none) (fun _ _ _ _ _ h => by cases h) ?_
       simp only [qam,Nat.reduceAdd]
       refine LexS.out ?_
       iterate 20
        first
        | (refine LexS.skip rfl ?_; simp only [Act.put,sib,List.set])
        | (refine LexS.one' rfl rfl ?_
           apply Exists.intro
           refine ⟨fun w hR hF => ?_,?_⟩
           ·have hP := hR
            repeat (first | replace hP := qag.of_drew hP | replace hP := qag.of_drewN hP | replace hP := qag.of_alloc hP)
            have hcs := hR.cells
            have zc0 := hP.cell c0
            have zx0 := hP.cell x0
            have zx1 := hP.cell x1
            have zx2 := hP.cell x2
            have zx3 := hP.cell x3
            have zx4 := hP.cell x4
            have zx5 := hP.cell x5
            have zn0 := hP.cell n0
            have zn1 := hP.cell n1
            have zn2 := hP.cell n2
            clear hR hF hP
            go_simp
            first | done | rfl
           simp only [Act.put,sib,List.set])
       refine LexS.nil ?_
       intro w7 hLq hF9
       clear hF9
       repeat (first | replace hLq := qag.of_drew hLq | replace hLq := qag.of_drewN hLq | replace hLq := qag.of_alloc hLq)
       have HSw7 := hid (HS0.out.go hLq)
       clear hLq
       clear c0 c6 x0 x1 x2 x3 x4 x5 x6 x7 x8 n0 n1 n2 s0 s1 s2 r0 r1 r2 f0 f1 f2 rl l0 l1 l2 l3
       obtain ⟨c0,c6,x0,x1,x2,x3,x4,x5,x6,x7,x8,n0,n1,n2,s0,s1,s2,r0,r1,r2,f0,f1,f2,rl,l0,l1,l2,l3⟩ := HSw7.out.cells
       go_upto_region 18 with (fail)
       refine qaj (by kernel_rfl) (by kernel_rfl) qag qag.refl qag.trans (fun _ => none) (fun _ _ _ _ _ h => by cases h) ?_
       simp only [qam,Nat.reduceAdd]
       refine LexS.out ?_
       iterate 20
        first
        | (refine LexS.skip rfl ?_; simp only [Act.put,sib,List.set])
        | (refine LexS.one' rfl rfl ?_
           apply Exists.intro
           refine ⟨fun w hR hF => ?_,?_⟩
           ·have hP := hR
            repeat (first | replace hP := qag.of_drew hP | replace hP := qag.of_drewN hP | replace hP := qag.of_alloc hP)
            have hcs := hR.cells
            have zc0 := hP.cell c0
            have zx0 := hP.cell x0
            have zx1 := hP.cell x1
            have zx2 := hP.cell x2
            have zx3 := hP.cell x3
            have zx4 := hP.cell x4
            have zx5 := hP.cell x5
            have zs0 := hP.cell s0
            have zs1 := hP.cell s1
            have zs2 := hP.cell s2
            clear hR hF hP
            go_simp
            first | done | rfl
           simp only [Act.put,sib,List.set])
       refine LexS.nil ?_
       intro wa hLq hF9
       clear hF9
       repeat (first | replace hLq := qag.of_drew hLq | replace hLq := qag.of_drewN hLq | replace hLq := qag.of_alloc hLq)
       have HSwa := hid (HSw7.out.go hLq)
       clear hLq
       clear c0 c6 x0 x1 x2 x3 x4 x5 x6 x7 x8 n0 n1 n2 s0 s1 s2 r0 r1 r2 f0 f1 f2 rl l0 l1 l2 l3
       obtain ⟨c0,c6,x0,x1,x2,x3,x4,x5,x6,x7,x8,n0,n1,n2,s0,s1,s2,r0,r1,r2,f0,f1,f2,rl,l0,l1,l2,l3⟩ := HSwa.out.cells
       have HRST : Hid (docV (qen x) (qdj x) a b d n = if 0 < n then qaa else qat (qen x) (qdj x) a b) := hid (by
        exact doc_rest (fun h => h.2.elim (of_decide_eq_false Hp0.out) (of_decide_eq_false Hp1.out)) (fun h => by rw [of_decide_eq_true HBA.out] at h; exact absurd h.1 (by decide)) (fun h => by rw [of_decide_eq_true HBA.out] at h; exact absurd h (by decide)))
       by_cases hz : n = 0
       ·have HZ : Hid (¬ 0 < n) := hid (by omega)
        have hz1 : ¬ (0 : Int) < (n : Int) := by omega
        clear hz
        obtain ⟨st,hst⟩ : ∃ v,qat (qen x) (qdj x) a b = v := ⟨_,rfl⟩
        have HST : Hid (∀ w',qag wa w' → Calls Tryz.prog 35 #[.pointer (some ⟨B,0,none⟩),.agg #[.int .i64 a.k,.int .i64 a.n,.string a.t],.agg #[.int .i64 b.k,.int .i64 b.n,.string b.t]] w' (qar st w')) := hid fun w' k => by
         rw [← hst]
         exact rstrict_any HI.out HO.out B a b w' (HWH.out ▸ k.cell HSwa.out.what) (fun h => by rw [HBC.out] at h; cases h) HVA.out.1 ⟨HVA.out.2,HVB.out.2⟩
        have HSE := hid hst
        clear hst
        go_upto_region 32 with (fail)
        refine qee (by kernel_rfl) (by kernel_rfl) [] [9] (by kernel_rfl) (fun _ _ d _ _ h => by cases d <;> exact h) (qag) (qag.refl) (qag.trans) (kinds [(7,fun v _ => v = .agg #[.int .i64 st.k,.int .i64 st.n,.string st.t]),(8,NewV wa.heap.size #[.int .i64 0,.int .i64 0,.string ⟨#[]⟩] 38)]) (qcr (by simp only [List.mem_cons,List.not_mem_nil,or_false,forall_eq_or_imp,forall_eq]; exact ⟨fun _ _ _ _ h => h,fun _ _ _ hR h => h.later hR⟩)) ?_
        simp only [body,tail,qam,Nat.reduceAdd,List.filter_cons,List.filter_nil,List.contains_cons,List.contains_nil,Nat.reduceBEq,Bool.or_false,Bool.or_true,Bool.false_or,Bool.true_or,Bool.not_true,Bool.not_false,Bool.and_true,Bool.and_false,Bool.true_and,Bool.false_and,if_true,if_false,reduceIte,Bool.false_eq_true,List.map_cons,List.map_nil]
        simp only [Pures]
        refine LexS.out ?_
        iterate 7
         first
         | (refine LexS.skip rfl ?_; simp only [Act.put,sib,List.set])
         | (refine LexS.one' rfl rfl ?_
            apply Exists.intro
            refine ⟨fun w hR hF => ?_,?_⟩
            ·have hP := hR
             repeat (first | replace hP := qag.of_drew hP | replace hP := qag.of_drewN hP | replace hP := qag.of_alloc hP)
             have hcs := hR.cells
             have zx0 := hP.cell x0
             have zx1 := hP.cell x1
             have zx2 := hP.cell x2
             have zx3 := hP.cell x3
             have zx4 := hP.cell x4
             have zx5 := hP.cell x5
             clear hR hF hP
             go_simp
             first | done | rfl
            simp only [Act.put,sib,List.set])
        refine LexS.any rfl rfl (fun w hR hF => ?_) ?_
        ·have hP := hR
         repeat (first | replace hP := qag.of_drew hP | replace hP := qag.of_drewN hP | replace hP := qag.of_alloc hP)
         have hsz := hP.size
         have zx0 := hP.cell x0
         clear hF hR x0
         unfold Runs
         go_simp
         refine yield_enter ?_
         refine (HST.out _ hP).mono ?_
         rintro e w' ⟨rfl,hL⟩
         exact ⟨_,rfl,hL,rfl⟩
        rintro vk_ ⟨wk_,hRk_,hFk_⟩
        obtain rfl := hFk_ _ List.mem_cons_self _ rfl
        clear hFk_ hRk_ wk_
        simp only [Act.put,sib,List.set]
        refine LexS.any rfl rfl (fun w hR hF => ?_) ?_
        ·have hP := hR
         repeat (first | replace hP := qag.of_drew hP | replace hP := qag.of_drewN hP | replace hP := qag.of_alloc hP)
         have hsz := hP.size
         clear hF hR hP x0
         unfold Runs
         go_simp
         exact yield_value (qag.alloc _ _) ⟨_,rfl,qap _ _,hsz⟩
        rintro vk_ ⟨wk_,hRk_,hFk_⟩
        obtain ⟨b5,rfl,-⟩ := hFk_ _ List.mem_cons_self _ rfl
        clear hFk_ hRk_ wk_
        simp only [Act.put,sib,List.set]
        refine LexS.nil ?_
        intro w8 hR8 hF8
        obtain ⟨b6,h6,hn8,hbs⟩ := hF8 _ List.mem_cons_self _ rfl
        simp only [Value.pointer.injEq,Option.some.injEq,Addr.mk.injEq] at h6
        obtain ⟨rfl,-,-⟩ := h6
        clear hF8
        repeat (first | replace hR8 := qag.of_drew hR8 | replace hR8 := qag.of_drewN hR8 | replace hR8 := qag.of_alloc hR8)
        have hq8 : qcm w8 b5 qaa := hn8
        obtain ⟨q0,q1,q2,g0,g1,g2,ql⟩ := hq8.cells
        simp only [qaa] at q0 q1 q2
        have HS8 := hid (HSwa.out.go hR8); have HQ8 := hid hq8
        have HBS : Hid (w.heap.size ≤ b5) := hid (Nat.le_trans HSwa.out.later.size hbs)
        have HRB : Hid (b5 ≠ R) := hid (by have := qch HSwa.out.ret; omega)
        clear hn8 hbs hR8 hq8 c0 c6 x0 x1 x2 x3 x4 x5 x6 x7 x8 n0 n1 n2 s0 s1 s2 r0 r1 r2 f0 f1 f2 rl l0 l1 l2 l3
        change wpList _ _ _ _ _ _
        go_upto_region 33 with (fail)
        obtain ⟨w9,hw9⟩ : ∃ x,x = setV w8 b5 st := ⟨_,rfl⟩
        have HQ9 : Hid (qcm w9 b5 st) := hid (hw9 ▸ HQ8.out.set st)
        have HR9 : Hid (qcm w9 R qaa) := hid (hw9 ▸ HS8.out.ret.keep HRB.out)
        have HL9 : Hid (qag w w9) := hid (hw9 ▸ qae HS8.out.later HBS.out st)
        unfold setV at hw9
        rw [← hw9]
        clear hw9 q0 q1 q2 g0 g1 g2 ql
        obtain ⟨q0,q1,q2,-,-,-,ql⟩ := HQ9.out.cells
        obtain ⟨r0,r1,r2,f0,f1,f2,rl⟩ := HR9.out.cells
        simp only [qaa] at r0 r1 r2
        go_wp2_with fail
        refine bodyPost_ret (qaf rfl rfl (HR9.out.set st)) rfl ⟨?_,qae HL9.out HRN.out st⟩
        rw [← HDOC.out,HRST.out,if_neg HZ.out,HSE.out]
       ·have HZ : Hid (0 < n) := hid (by omega)
        have hz1 : (0 : Int) < (n : Int) := by omega
        clear hz
        go_wp2_with fail
        refine bodyPost_ret (qaf rfl rfl (HSwa.out.ret.set qaa)) rfl ⟨?_,qae HSwa.out.later HSwa.out.new qaa⟩
        rw [← HDOC.out,HRST.out,if_pos HZ.out]
 | false =>
   have HNA1 : Hid (¬ qen x = andW) := hid (of_decide_eq_false HBA.out)
   go_upto_region 16 with (fail)
   refine qaj (by kernel_rfl) (by kernel_rfl) qag qag.refl qag.trans (fun _ => none) (fun _ _ _ _ _ h => by cases h) ?_
   simp only [qam,Nat.reduceAdd]
   refine LexS.out ?_
   iterate 20
    first
    | (refine LexS.skip rfl ?_; simp only [Act.put,sib,List.set])
    | (refine LexS.one' rfl rfl ?_
       apply Exists.intro
       refine ⟨fun w hR hF => ?_,?_⟩
       ·have hP := hR
        repeat (first | replace hP := qag.of_drew hP | replace hP := qag.of_drewN hP | replace hP := qag.of_alloc hP)
        have hcs := hR.cells
        have zc0 := hP.cell c0
        have zx0 := hP.cell x0
        have zx1 := hP.cell x1
        have zx2 := hP.cell x2
        have zx3 := hP.cell x3
        have zx4 := hP.cell x4
        have zx5 := hP.cell x5
        have zn0 := hP.cell n0
        have zn1 := hP.cell n1
        have zn2 := hP.cell n2
        clear hR hF hP
        go_simp
        first | done | rfl
       simp only [Act.put,sib,List.set])
   refine LexS.nil ?_
   intro w7 hLq hF9
   clear hF9
   repeat (first | replace hLq := qag.of_drew hLq | replace hLq := qag.of_drewN hLq | replace hLq := qag.of_alloc hLq)
   have HSw7 := hid (HS0.out.go hLq)
   clear hLq
   clear c0 c6 x0 x1 x2 x3 x4 x5 x6 x7 x8 n0 n1 n2 s0 s1 s2 r0 r1 r2 f0 f1 f2 rl l0 l1 l2 l3
   obtain ⟨c0,c6,x0,x1,x2,x3,x4,x5,x6,x7,x8,n0,n1,n2,s0,s1,s2,r0,r1,r2,f0,f1,f2,rl,l0,l1,l2,l3⟩ := HSw7.out.cells
   cases bo with
   | true =>
     have hb2 : bc = false := by
      cases bc with
      | false => rfl
      | true => have := HW2.out.2 HBC.out; rw [of_decide_eq_true HBO.out] at this; exact absurd this (by decide)
     subst hb2
     cases y0 with
     | true =>
       go_upto_region 18 with (fail)
       refine qaj (by kernel_rfl) (by kernel_rfl) qag qag.refl qag.trans (fun _ => none) (fun _ _ _ _ _ h => by cases h) ?_
       simp only [qam,Nat.reduceAdd]
       refine LexS.out ?_
       iterate 20
        first
        | (refine LexS.skip rfl ?_; simp only [Act.put,sib,List.set])
        | (refine LexS.one' rfl rfl ?_
           apply Exists.intro
           refine ⟨fun w hR hF => ?_,?_⟩
           ·have hP := hR
            repeat (first | replace hP := qag.of_drew hP | replace hP := qag.of_drewN hP | replace hP := qag.of_alloc hP)
            have hcs := hR.cells
            have zc0 := hP.cell c0
            have zx0 := hP.cell x0
            have zx1 := hP.cell x1
            have zx2 := hP.cell x2
            have zx3 := hP.cell x3
            have zx4 := hP.cell x4
            have zx5 := hP.cell x5
            have zs0 := hP.cell s0
            have zs1 := hP.cell s1
            have zs2 := hP.cell s2
            clear hR hF hP
            go_simp
            first | done | rfl
           simp only [Act.put,sib,List.set])
       refine LexS.nil ?_
       intro wa hLq hF9
       clear hF9
       repeat (first | replace hLq := qag.of_drew hLq | replace hLq := qag.of_drewN hLq | replace hLq := qag.of_alloc hLq)
       have HSwa := hid (HSw7.out.go hLq)
       clear hLq
       clear c0 c6 x0 x1 x2 x3 x4 x5 x6 x7 x8 n0 n1 n2 s0 s1 s2 r0 r1 r2 f0 f1 f2 rl l0 l1 l2 l3
       obtain ⟨c0,c6,x0,x1,x2,x3,x4,x5,x6,x7,x8,n0,n1,n2,s0,s1,s2,r0,r1,r2,f0,f1,f2,rl,l0,l1,l2,l3⟩ := HSwa.out.cells
       go_wp2_with fail
       refine bodyPost_ret (qaf rfl rfl (HSwa.out.ret.set (qav true))) rfl ⟨?_,qae HSwa.out.later HSwa.out.new (qav true)⟩
       rw [← HDOC.out,doc_or (of_decide_eq_true HBO.out) (.inl (of_decide_eq_true Hy0.out))]
     | false =>
       cases y1 with
       | true =>
         go_upto_region 18 with (fail)
         refine qaj (by kernel_rfl) (by kernel_rfl) qag qag.refl qag.trans (fun _ => none) (fun _ _ _ _ _ h => by cases h) ?_
         simp only [qam,Nat.reduceAdd]
         refine LexS.out ?_
         iterate 20
          first
          | (refine LexS.skip rfl ?_; simp only [Act.put,sib,List.set])
          | (refine LexS.one' rfl rfl ?_
             apply Exists.intro
             refine ⟨fun w hR hF => ?_,?_⟩
             ·have hP := hR
              repeat (first | replace hP := qag.of_drew hP | replace hP := qag.of_drewN hP | replace hP := qag.of_alloc hP)
              have hcs := hR.cells
              have zc0 := hP.cell c0
              have zx0 := hP.cell x0
              have zx1 := hP.cell x1
              have zx2 := hP.cell x2
              have zx3 := hP.cell x3
              have zx4 := hP.cell x4
              have zx5 := hP.cell x5
              have zs0 := hP.cell s0
              have zs1 := hP.cell s1
              have zs2 := hP.cell s2
              clear hR hF hP
              go_simp
              first | done | rfl
             simp only [Act.put,sib,List.set])
         refine LexS.nil ?_
         intro wa hLq hF9
         clear hF9
         repeat (first | replace hLq := qag.of_drew hLq | replace hLq := qag.of_drewN hLq | replace hLq := qag.of_alloc hLq)
         have HSwa := hid (HSw7.out.go hLq)
         clear hLq
         clear c0 c6 x0 x1 x2 x3 x4 x5 x6 x7 x8 n0 n1 n2 s0 s1 s2 r0 r1 r2 f0 f1 f2 rl l0 l1 l2 l3
         obtain ⟨c0,c6,x0,x1,x2,x3,x4,x5,x6,x7,x8,n0,n1,n2,s0,s1,s2,r0,r1,r2,f0,f1,f2,rl,l0,l1,l2,l3⟩ := HSwa.out.cells
         go_wp2_with fail
         refine bodyPost_ret (qaf rfl rfl (HSwa.out.ret.set (qav true))) rfl ⟨?_,qae HSwa.out.later HSwa.out.new (qav true)⟩
         rw [← HDOC.out,doc_or (of_decide_eq_true HBO.out) (.inr (of_decide_eq_true Hy1.out))]
       | false =>
         go_upto_region 18 with (fail)
         refine qaj (by kernel_rfl) (by kernel_rfl) qag qag.refl qag.trans (fun _ => none) (fun _ _ _ _ _ h => by cases h) ?_
         simp only [qam,Nat.reduceAdd]
         refine LexS.out ?_
         iterate 20
          first
          | (refine LexS.skip rfl ?_; simp only [Act.put,sib,List.set])
          | (refine LexS.one' rfl rfl ?_
             apply Exists.intro
             refine ⟨fun w hR hF => ?_,?_⟩
             ·have hP := hR
              repeat (first | replace hP := qag.of_drew hP | replace hP := qag.of_drewN hP | replace hP := qag.of_alloc hP)
              have hcs := hR.cells
              have zc0 := hP.cell c0
              have zx0 := hP.cell x0
              have zx1 := hP.cell x1
              have zx2 := hP.cell x2
              have zx3 := hP.cell x3
              have zx4 := hP.cell x4
              have zx5 := hP.cell x5
              have zs0 := hP.cell s0
              have zs1 := hP.cell s1
              have zs2 := hP.cell s2
              clear hR hF hP
              go_simp
              first | done | rfl
             simp only [Act.put,sib,List.set])
         refine LexS.nil ?_
         intro wa hLq hF9
         clear hF9
         repeat (first | replace hLq := qag.of_drew hLq | replace hLq := qag.of_drewN hLq | replace hLq := qag.of_alloc hLq)
         have HSwa := hid (HSw7.out.go hLq)
         clear hLq
         clear c0 c6 x0 x1 x2 x3 x4 x5 x6 x7 x8 n0 n1 n2 s0 s1 s2 r0 r1 r2 f0 f1 f2 rl l0 l1 l2 l3
         obtain ⟨c0,c6,x0,x1,x2,x3,x4,x5,x6,x7,x8,n0,n1,n2,s0,s1,s2,r0,r1,r2,f0,f1,f2,rl,l0,l1,l2,l3⟩ := HSwa.out.cells
         have HRST : Hid (docV (qen x) (qdj x) a b d n = if 0 < n then qaa else qat (qen x) (qdj x) a b) := hid (by
          exact doc_rest (fun h => absurd h.1 HNA1.out) (fun h => h.2.elim (of_decide_eq_false Hy0.out) (of_decide_eq_false Hy1.out)) (fun h => by rw [of_decide_eq_true HBO.out] at h; exact absurd h (by decide)))
         by_cases hz : n = 0
         ·have HZ : Hid (¬ 0 < n) := hid (by omega)
          have hz1 : ¬ (0 : Int) < (n : Int) := by omega
          clear hz
          obtain ⟨st,hst⟩ : ∃ v,qat (qen x) (qdj x) a b = v := ⟨_,rfl⟩
          have HST : Hid (∀ w',qag wa w' → Calls Tryz.prog 35 #[.pointer (some ⟨B,0,none⟩),.agg #[.int .i64 a.k,.int .i64 a.n,.string a.t],.agg #[.int .i64 b.k,.int .i64 b.n,.string b.t]] w' (qar st w')) := hid fun w' k => by
           rw [← hst]
           exact rstrict_any HI.out HO.out B a b w' (HWH.out ▸ k.cell HSwa.out.what) (fun h => by rw [HBC.out] at h; cases h) HVA.out.1 ⟨HVA.out.2,HVB.out.2⟩
          have HSE := hid hst
          clear hst
          go_upto_region 32 with (fail)
          refine qee (by kernel_rfl) (by kernel_rfl) [] [9] (by kernel_rfl) (fun _ _ d _ _ h => by cases d <;> exact h) (qag) (qag.refl) (qag.trans) (kinds [(7,fun v _ => v = .agg #[.int .i64 st.k,.int .i64 st.n,.string st.t]),(8,NewV wa.heap.size #[.int .i64 0,.int .i64 0,.string ⟨#[]⟩] 38)]) (qcr (by simp only [List.mem_cons,List.not_mem_nil,or_false,forall_eq_or_imp,forall_eq]; exact ⟨fun _ _ _ _ h => h,fun _ _ _ hR h => h.later hR⟩)) ?_
          simp only [body,tail,qam,Nat.reduceAdd,List.filter_cons,List.filter_nil,List.contains_cons,List.contains_nil,Nat.reduceBEq,Bool.or_false,Bool.or_true,Bool.false_or,Bool.true_or,Bool.not_true,Bool.not_false,Bool.and_true,Bool.and_false,Bool.true_and,Bool.false_and,if_true,if_false,reduceIte,Bool.false_eq_true,List.map_cons,List.map_nil]
          simp only [Pures]
          refine LexS.out ?_
          iterate 7
           first
           | (refine LexS.skip rfl ?_; simp only [Act.put,sib,List.set])
           | (refine LexS.one' rfl rfl ?_
              apply Exists.intro
              refine ⟨fun w hR hF => ?_,?_⟩
              ·have hP := hR
               repeat (first | replace hP := qag.of_drew hP | replace hP := qag.of_drewN hP | replace hP := qag.of_alloc hP)
               have hcs := hR.cells
               have zx0 := hP.cell x0
               have zx1 := hP.cell x1
               have zx2 := hP.cell x2
               have zx3 := hP.cell x3
               have zx4 := hP.cell x4
               have zx5 := hP.cell x5
               clear hR hF hP
               go_simp
               first | done | rfl
              simp only [Act.put,sib,List.set])
          refine LexS.any rfl rfl (fun w hR hF => ?_) ?_
          ·have hP := hR
           repeat (first | replace hP := qag.of_drew hP | replace hP := qag.of_drewN hP | replace hP := qag.of_alloc hP)
           have hsz := hP.size
           have zx0 := hP.cell x0
           clear hF hR x0
           unfold Runs
           go_simp
           refine yield_enter ?_
           refine (HST.out _ hP).mono ?_
           rintro e w' ⟨rfl,hL⟩
           exact ⟨_,rfl,hL,rfl⟩
          rintro vk_ ⟨wk_,hRk_,hFk_⟩
          obtain rfl := hFk_ _ List.mem_cons_self _ rfl
          clear hFk_ hRk_ wk_
          simp only [Act.put,sib,List.set]
          refine LexS.any rfl rfl (fun w hR hF => ?_) ?_
          ·have hP := hR
           repeat (first | replace hP := qag.of_drew hP | replace hP := qag.of_drewN hP | replace hP := qag.of_alloc hP)
           have hsz := hP.size
           clear hF hR hP x0
           unfold Runs
           go_simp
           exact yield_value (qag.alloc _ _) ⟨_,rfl,qap _ _,hsz⟩
          rintro vk_ ⟨wk_,hRk_,hFk_⟩
          obtain ⟨b5,rfl,-⟩ := hFk_ _ List.mem_cons_self _ rfl
          clear hFk_ hRk_ wk_
          simp only [Act.put,sib,List.set]
          refine LexS.nil ?_
          intro w8 hR8 hF8
          obtain ⟨b6,h6,hn8,hbs⟩ := hF8 _ List.mem_cons_self _ rfl
          simp only [Value.pointer.injEq,Option.some.injEq,Addr.mk.injEq] at h6
          obtain ⟨rfl,-,-⟩ := h6
          clear hF8
          repeat (first | replace hR8 := qag.of_drew hR8 | replace hR8 := qag.of_drewN hR8 | replace hR8 := qag.of_alloc hR8)
          have hq8 : qcm w8 b5 qaa := hn8
          obtain ⟨q0,q1,q2,g0,g1,g2,ql⟩ := hq8.cells
          simp only [qaa] at q0 q1 q2
          have HS8 := hid (HSwa.out.go hR8); have HQ8 := hid hq8
          have HBS : Hid (w.heap.size ≤ b5) := hid (Nat.le_trans HSwa.out.later.size hbs)
          have HRB : Hid (b5 ≠ R) := hid (by have := qch HSwa.out.ret; omega)
          clear hn8 hbs hR8 hq8 c0 c6 x0 x1 x2 x3 x4 x5 x6 x7 x8 n0 n1 n2 s0 s1 s2 r0 r1 r2 f0 f1 f2 rl l0 l1 l2 l3
          change wpList _ _ _ _ _ _
          go_upto_region 33 with (fail)
          obtain ⟨w9,hw9⟩ : ∃ x,x = setV w8 b5 st := ⟨_,rfl⟩
          have HQ9 : Hid (qcm w9 b5 st) := hid (hw9 ▸ HQ8.out.set st)
          have HR9 : Hid (qcm w9 R qaa) := hid (hw9 ▸ HS8.out.ret.keep HRB.out)
          have HL9 : Hid (qag w w9) := hid (hw9 ▸ qae HS8.out.later HBS.out st)
          unfold setV at hw9
          rw [← hw9]
          clear hw9 q0 q1 q2 g0 g1 g2 ql
          obtain ⟨q0,q1,q2,-,-,-,ql⟩ := HQ9.out.cells
          obtain ⟨r0,r1,r2,f0,f1,f2,rl⟩ := HR9.out.cells
          simp only [qaa] at r0 r1 r2
          go_wp2_with fail
          refine bodyPost_ret (qaf rfl rfl (HR9.out.set st)) rfl ⟨?_,qae HL9.out HRN.out st⟩
          rw [← HDOC.out,HRST.out,if_neg HZ.out,HSE.out]
         ·have HZ : Hid (0 < n) := hid (by omega)
          have hz1 : (0 : Int) < (n : Int) := by omega
          clear hz
          go_wp2_with fail
          refine bodyPost_ret (qaf rfl rfl (HSwa.out.ret.set qaa)) rfl ⟨?_,qae HSwa.out.later HSwa.out.new qaa⟩
          rw [← HDOC.out,HRST.out,if_pos HZ.out]
   | false =>
     go_upto_region 18 with (fail)
     refine qaj (by kernel_rfl) (by kernel_rfl) qag qag.refl qag.trans (fun _ => none) (fun _ _ _ _ _ h => by cases h) ?_
     simp only [qam,Nat.reduceAdd]
     refine LexS.out ?_
     iterate 20
      first
      | (refine LexS.skip rfl ?_; simp only [Act.put,sib,List.set])
      | (refine LexS.one' rfl rfl ?_
         apply Exists.intro
         refine ⟨fun w hR hF => ?_,?_⟩
         ·have hP := hR
          repeat (first | replace hP := qag.of_drew hP | replace hP := qag.of_drewN hP | replace hP := qag.of_alloc hP)
          have hcs := hR.cells
          have zc0 := hP.cell c0
          have zx0 := hP.cell x0
          have zx1 := hP.cell x1
          have zx2 := hP.cell x2
          have zx3 := hP.cell x3
          have zx4 := hP.cell x4
          have zx5 := hP.cell x5
          have zs0 := hP.cell s0
          have zs1 := hP.cell s1
          have zs2 := hP.cell s2
          clear hR hF hP
          go_simp
          first | done | rfl
         simp only [Act.put,sib,List.set])
     refine LexS.nil ?_
     intro wa hLq hF9
     clear hF9
     repeat (first | replace hLq := qag.of_drew hLq | replace hLq := qag.of_drewN hLq | replace hLq := qag.of_alloc hLq)
     have HSwa := hid (HSw7.out.go hLq)
     clear hLq
     clear c0 c6 x0 x1 x2 x3 x4 x5 x6 x7 x8 n0 n1 n2 s0 s1 s2 r0 r1 r2 f0 f1 f2 rl l0 l1 l2 l3
     obtain ⟨c0,c6,x0,x1,x2,x3,x4,x5,x6,x7,x8,n0,n1,n2,s0,s1,s2,r0,r1,r2,f0,f1,f2,rl,l0,l1,l2,l3⟩ := HSwa.out.cells
     cases bc with
     | false =>
       have HRST : Hid (docV (qen x) (qdj x) a b d n = if 0 < n then qaa else qat (qen x) (qdj x) a b) := hid (by
        exact doc_rest (fun h => absurd h.1 HNA1.out) (fun h => absurd h.1 (of_decide_eq_false HBO.out)) (fun h => by have := HW2.out.1 h; rw [HBC.out] at this; cases this))
       by_cases hz : n = 0
       ·have HZ : Hid (¬ 0 < n) := hid (by omega)
        have hz1 : ¬ (0 : Int) < (n : Int) := by omega
        clear hz
        obtain ⟨st,hst⟩ : ∃ v,qat (qen x) (qdj x) a b = v := ⟨_,rfl⟩
        have HST : Hid (∀ w',qag wa w' → Calls Tryz.prog 35 #[.pointer (some ⟨B,0,none⟩),.agg #[.int .i64 a.k,.int .i64 a.n,.string a.t],.agg #[.int .i64 b.k,.int .i64 b.n,.string b.t]] w' (qar st w')) := hid fun w' k => by
         rw [← hst]
         exact rstrict_any HI.out HO.out B a b w' (HWH.out ▸ k.cell HSwa.out.what) (fun h => by rw [HBC.out] at h; cases h) HVA.out.1 ⟨HVA.out.2,HVB.out.2⟩
        have HSE := hid hst
        clear hst
        go_upto_region 32 with (fail)
        refine qee (by kernel_rfl) (by kernel_rfl) [] [9] (by kernel_rfl) (fun _ _ d _ _ h => by cases d <;> exact h) (qag) (qag.refl) (qag.trans) (kinds [(7,fun v _ => v = .agg #[.int .i64 st.k,.int .i64 st.n,.string st.t]),(8,NewV wa.heap.size #[.int .i64 0,.int .i64 0,.string ⟨#[]⟩] 38)]) (qcr (by simp only [List.mem_cons,List.not_mem_nil,or_false,forall_eq_or_imp,forall_eq]; exact ⟨fun _ _ _ _ h => h,fun _ _ _ hR h => h.later hR⟩)) ?_
        simp only [body,tail,qam,Nat.reduceAdd,List.filter_cons,List.filter_nil,List.contains_cons,List.contains_nil,Nat.reduceBEq,Bool.or_false,Bool.or_true,Bool.false_or,Bool.true_or,Bool.not_true,Bool.not_false,Bool.and_true,Bool.and_false,Bool.true_and,Bool.false_and,if_true,if_false,reduceIte,Bool.false_eq_true,List.map_cons,List.map_nil]
        simp only [Pures]
        refine LexS.out ?_
        iterate 7
         first
         | (refine LexS.skip rfl ?_; simp only [Act.put,sib,List.set])
         | (refine LexS.one' rfl rfl ?_
            apply Exists.intro
            refine ⟨fun w hR hF => ?_,?_⟩
            ·have hP := hR
             repeat (first | replace hP := qag.of_drew hP | replace hP := qag.of_drewN hP | replace hP := qag.of_alloc hP)
             have hcs := hR.cells
             have zx0 := hP.cell x0
             have zx1 := hP.cell x1
             have zx2 := hP.cell x2
             have zx3 := hP.cell x3
             have zx4 := hP.cell x4
             have zx5 := hP.cell x5
             clear hR hF hP
             go_simp
             first | done | rfl
            simp only [Act.put,sib,List.set])
        refine LexS.any rfl rfl (fun w hR hF => ?_) ?_
        ·have hP := hR
         repeat (first | replace hP := qag.of_drew hP | replace hP := qag.of_drewN hP | replace hP := qag.of_alloc hP)
         have hsz := hP.size
         have zx0 := hP.cell x0
         clear hF hR x0
         unfold Runs
         go_simp
         refine yield_enter ?_
         refine (HST.out _ hP).mono ?_
         rintro e w' ⟨rfl,hL⟩
         exact ⟨_,rfl,hL,rfl⟩
        rintro vk_ ⟨wk_,hRk_,hFk_⟩
        obtain rfl := hFk_ _ List.mem_cons_self _ rfl
        clear hFk_ hRk_ wk_
        simp only [Act.put,sib,List.set]
        refine LexS.any rfl rfl (fun w hR hF => ?_) ?_
        ·have hP := hR
         repeat (first | replace hP := qag.of_drew hP | replace hP := qag.of_drewN hP | replace hP := qag.of_alloc hP)
         have hsz := hP.size
         clear hF hR hP x0
         unfold Runs
         go_simp
         exact yield_value (qag.alloc _ _) ⟨_,rfl,qap _ _,hsz⟩
        rintro vk_ ⟨wk_,hRk_,hFk_⟩
        obtain ⟨b5,rfl,-⟩ := hFk_ _ List.mem_cons_self _ rfl
        clear hFk_ hRk_ wk_
        simp only [Act.put,sib,List.set]
        refine LexS.nil ?_
        intro w8 hR8 hF8
        obtain ⟨b6,h6,hn8,hbs⟩ := hF8 _ List.mem_cons_self _ rfl
        simp only [Value.pointer.injEq,Option.some.injEq,Addr.mk.injEq] at h6
        obtain ⟨rfl,-,-⟩ := h6
        clear hF8
        repeat (first | replace hR8 := qag.of_drew hR8 | replace hR8 := qag.of_drewN hR8 | replace hR8 := qag.of_alloc hR8)
        have hq8 : qcm w8 b5 qaa := hn8
        obtain ⟨q0,q1,q2,g0,g1,g2,ql⟩ := hq8.cells
        simp only [qaa] at q0 q1 q2
        have HS8 := hid (HSwa.out.go hR8); have HQ8 := hid hq8
        have HBS : Hid (w.heap.size ≤ b5) := hid (Nat.le_trans HSwa.out.later.size hbs)
        have HRB : Hid (b5 ≠ R) := hid (by have := qch HSwa.out.ret; omega)
        clear hn8 hbs hR8 hq8 c0 c6 x0 x1 x2 x3 x4 x5 x6 x7 x8 n0 n1 n2 s0 s1 s2 r0 r1 r2 f0 f1 f2 rl l0 l1 l2 l3
        change wpList _ _ _ _ _ _
        go_upto_region 33 with (fail)
        obtain ⟨w9,hw9⟩ : ∃ x,x = setV w8 b5 st := ⟨_,rfl⟩
        have HQ9 : Hid (qcm w9 b5 st) := hid (hw9 ▸ HQ8.out.set st)
        have HR9 : Hid (qcm w9 R qaa) := hid (hw9 ▸ HS8.out.ret.keep HRB.out)
        have HL9 : Hid (qag w w9) := hid (hw9 ▸ qae HS8.out.later HBS.out st)
        unfold setV at hw9
        rw [← hw9]
        clear hw9 q0 q1 q2 g0 g1 g2 ql
        obtain ⟨q0,q1,q2,-,-,-,ql⟩ := HQ9.out.cells
        obtain ⟨r0,r1,r2,f0,f1,f2,rl⟩ := HR9.out.cells
        simp only [qaa] at r0 r1 r2
        go_wp2_with fail
        refine bodyPost_ret (qaf rfl rfl (HR9.out.set st)) rfl ⟨?_,qae HL9.out HRN.out st⟩
        rw [← HDOC.out,HRST.out,if_neg HZ.out,HSE.out]
       ·have HZ : Hid (0 < n) := hid (by omega)
        have hz1 : (0 : Int) < (n : Int) := by omega
        clear hz
        go_wp2_with fail
        refine bodyPost_ret (qaf rfl rfl (HSwa.out.ret.set qaa)) rfl ⟨?_,qae HSwa.out.later HSwa.out.new qaa⟩
        rw [← HDOC.out,HRST.out,if_pos HZ.out]
     | true =>
       obtain rfl := HNM.out HBC.out
       have HWC : Hid (qen x = qcu) := hid (HW2.out.2 HBC.out)
       obtain ⟨sf,hsf⟩ : ∃ s,s = qah (qdj x) := ⟨_,rfl⟩
       have HSF := hid hsf
       rw [← hsf] at c6
       obtain ⟨bi,hbi⟩ : ∃ q_,decide (qdj x = [105,115,110,117,108,108]) = q_ := ⟨_,rfl⟩
       have Hbi := hid hbi
       have gbi : (sf.toList == [105,115,110,117,108,108]) = bi := by rw [hsf,qan,← hbi,Bool.eq_iff_iff]; simp
       obtain ⟨bl,hbl⟩ : ∃ q_,decide (qdj x = [99,111,97,108,101,115,99,101]) = q_ := ⟨_,rfl⟩
       have Hbl := hid hbl
       have gbl : (sf.toList == [99,111,97,108,101,115,99,101]) = bl := by rw [hsf,qan,← hbl,Bool.eq_iff_iff]; simp
       obtain ⟨bf,hbf⟩ : ∃ q_,decide (qdj x = [105,102]) = q_ := ⟨_,rfl⟩
       have Hbf := hid hbf
       have gbf : (sf.toList == [105,102]) = bf := by rw [hsf,qan,← hbf,Bool.eq_iff_iff]; simp
       clear hsf hbi hbl hbf
       cases bi with
       | true =>
         obtain ⟨qn,hqn⟩ : ∃ b,decide (n = 1) = b := ⟨_,rfl⟩
         have HQN := hid hqn
         have hqe : ((n : Int) == 1) = qn := by rw [← hqn,Bool.eq_iff_iff,beq_iff_eq,decide_eq_true_eq]; omega
         clear hqn
         go_wp2_with fail
         try rw [hqe]
         refine (qca qn wa).mono ?_
         rintro e wb ⟨rfl,hLb⟩
         obtain ⟨r,hr⟩ : ∃ r : Val,r = ⟨2,if qn = true then 1 else 0,ByteArray.empty⟩ := ⟨_,rfl⟩
         have HRR := hid hr
         rw [← hr,vv r]
         have HSwb := hid (HSwa.out.go hLb)
         clear hr hLb hqe c0 c6 x0 x1 x2 x3 x4 x5 x6 x7 x8 n0 n1 n2 s0 s1 s2 r0 r1 r2 f0 f1 f2 rl l0 l1 l2 l3
         obtain ⟨c0,c6,x0,x1,x2,x3,x4,x5,x6,x7,x8,n0,n1,n2,s0,s1,s2,r0,r1,r2,f0,f1,f2,rl,l0,l1,l2,l3⟩ := HSwb.out.cells
         go_wp2_with fail
         refine bodyPost_ret (qaf rfl rfl (HSwb.out.ret.set r)) rfl ⟨?_,qae HSwb.out.later HSwb.out.new r⟩
         rw [← HDOC.out,doc_fn HWC.out,if_pos (of_decide_eq_true Hbi.out),HQN.out,HRR.out]
         rfl
       | false =>
         cases bl with
         | true =>
           by_cases hz : a.k = 0
           ·have HZ := hid hz
            have hz1 : (a.k == 0) = true := by simpa using hz
            clear hz
            go_wp2_with fail
            refine bodyPost_ret (qaf rfl rfl (HSwa.out.ret.set b)) rfl ⟨?_,qae HSwa.out.later HSwa.out.new b⟩
            rw [← HDOC.out,doc_fn HWC.out,if_neg (of_decide_eq_false Hbi.out),if_pos (of_decide_eq_true Hbl.out),if_pos HZ.out]
           ·have HZ := hid hz
            have hz1 : (a.k == 0) = false := by simpa using hz
            clear hz
            go_wp2_with fail
            refine bodyPost_ret (qaf rfl rfl (HSwa.out.ret.set a)) rfl ⟨?_,qae HSwa.out.later HSwa.out.new a⟩
            rw [← HDOC.out,doc_fn HWC.out,if_neg (of_decide_eq_false Hbi.out),if_pos (of_decide_eq_true Hbl.out),if_neg HZ.out]
         | false =>
           cases bf with
           | true =>
             cases y0 with
             | true =>
               go_upto_region 27 with (fail)
               refine qaj (by kernel_rfl) (by kernel_rfl) qag qag.refl qag.trans (fun _ => none) (fun _ _ _ _ _ h => by cases h) ?_
               simp only [qam,Nat.reduceAdd]
               refine LexS.out ?_
               iterate 5
                first
                | (refine LexS.skip rfl ?_; simp only [Act.put,sib,List.set])
                | (refine LexS.one' rfl rfl ?_
                   apply Exists.intro
                   refine ⟨fun w hR hF => ?_,?_⟩
                   ·have hP := hR
                    repeat (first | replace hP := qag.of_drew hP | replace hP := qag.of_drewN hP | replace hP := qag.of_alloc hP)
                    have hcs := hR.cells
                    have zx0 := hP.cell x0
                    have zx1 := hP.cell x1
                    have zx2 := hP.cell x2
                    have zs0 := hP.cell s0
                    have zs1 := hP.cell s1
                    have zs2 := hP.cell s2
                    clear hR hF hP
                    go_simp
                    first | done | rfl
                   simp only [Act.put,sib,List.set])
               refine LexS.nil ?_
               intro wb hLq hF9
               clear hF9
               repeat (first | replace hLq := qag.of_drew hLq | replace hLq := qag.of_drewN hLq | replace hLq := qag.of_alloc hLq)
               have HSwb := hid (HSwa.out.go hLq)
               clear hLq
               clear c0 c6 x0 x1 x2 x3 x4 x5 x6 x7 x8 n0 n1 n2 s0 s1 s2 r0 r1 r2 f0 f1 f2 rl l0 l1 l2 l3
               obtain ⟨c0,c6,x0,x1,x2,x3,x4,x5,x6,x7,x8,n0,n1,n2,s0,s1,s2,r0,r1,r2,f0,f1,f2,rl,l0,l1,l2,l3⟩ := HSwb.out.cells
               go_wp2_with fail
               refine bodyPost_ret (qaf rfl rfl (HSwb.out.ret.set b)) rfl ⟨?_,qae HSwb.out.later HSwb.out.new b⟩
               rw [← HDOC.out,doc_fn HWC.out,if_neg (of_decide_eq_false Hbi.out),if_neg (of_decide_eq_false Hbl.out),if_pos (of_decide_eq_true Hbf.out),if_pos (of_decide_eq_true Hy0.out)]
             | false =>
               go_upto_region 27 with (fail)
               refine qaj (by kernel_rfl) (by kernel_rfl) qag qag.refl qag.trans (fun _ => none) (fun _ _ _ _ _ h => by cases h) ?_
               simp only [qam,Nat.reduceAdd]
               refine LexS.out ?_
               iterate 5
                first
                | (refine LexS.skip rfl ?_; simp only [Act.put,sib,List.set])
                | (refine LexS.one' rfl rfl ?_
                   apply Exists.intro
                   refine ⟨fun w hR hF => ?_,?_⟩
                   ·have hP := hR
                    repeat (first | replace hP := qag.of_drew hP | replace hP := qag.of_drewN hP | replace hP := qag.of_alloc hP)
                    have hcs := hR.cells
                    have zx0 := hP.cell x0
                    have zx1 := hP.cell x1
                    have zx2 := hP.cell x2
                    have zs0 := hP.cell s0
                    have zs1 := hP.cell s1
                    have zs2 := hP.cell s2
                    clear hR hF hP
                    go_simp
                    first | done | rfl
                   simp only [Act.put,sib,List.set])
               refine LexS.nil ?_
               intro wb hLq hF9
               clear hF9
               repeat (first | replace hLq := qag.of_drew hLq | replace hLq := qag.of_drewN hLq | replace hLq := qag.of_alloc hLq)
               have HSwb := hid (HSwa.out.go hLq)
               clear hLq
               clear c0 c6 x0 x1 x2 x3 x4 x5 x6 x7 x8 n0 n1 n2 s0 s1 s2 r0 r1 r2 f0 f1 f2 rl l0 l1 l2 l3
               obtain ⟨c0,c6,x0,x1,x2,x3,x4,x5,x6,x7,x8,n0,n1,n2,s0,s1,s2,r0,r1,r2,f0,f1,f2,rl,l0,l1,l2,l3⟩ := HSwb.out.cells
               go_wp2_with fail
               refine bodyPost_ret (qaf rfl rfl (HSwb.out.ret.set d)) rfl ⟨?_,qae HSwb.out.later HSwb.out.new d⟩
               rw [← HDOC.out,doc_fn HWC.out,if_neg (of_decide_eq_false Hbi.out),if_neg (of_decide_eq_false Hbl.out),if_pos (of_decide_eq_true Hbf.out),if_neg (of_decide_eq_false Hy0.out)]
           | false =>
             have HRST : Hid (docV (qen x) (qdj x) a b d n = if 0 < n then qaa else qat (qen x) (qdj x) a b) := hid (by
              rw [doc_fn HWC.out,if_neg (of_decide_eq_false Hbi.out),if_neg (of_decide_eq_false Hbl.out),if_neg (of_decide_eq_false Hbf.out)])
             by_cases hz : n = 0
             ·have HZ : Hid (¬ 0 < n) := hid (by omega)
              have hz1 : ¬ (0 : Int) < (n : Int) := by omega
              clear hz
              obtain ⟨st,hst⟩ : ∃ v,qat (qen x) (qdj x) a b = v := ⟨_,rfl⟩
              have HST : Hid (∀ w',qag wa w' → Calls Tryz.prog 35 #[.pointer (some ⟨B,0,none⟩),.agg #[.int .i64 a.k,.int .i64 a.n,.string a.t],.agg #[.int .i64 b.k,.int .i64 b.n,.string b.t]] w' (qar st w')) := hid fun w' k => by
               rw [← hst]
               exact rstrict_any HI.out HO.out B a b w' (HWH.out ▸ k.cell HSwa.out.what) (fun h => ⟨HSF.out ▸ k.cell (HSF.out ▸ HSwa.out.name),by
                 rcases argN_cases (f := qdj x) (by have := HNA.out h; omega) with g | g | g | g | g | g
                 ·exact .inl g
                 ·exact .inr (.inl g)
                 ·exact absurd g (of_decide_eq_false Hbi.out)
                 ·exact .inr (.inr g)
                 ·exact absurd g (of_decide_eq_false Hbl.out)
                 ·exact absurd g (of_decide_eq_false Hbf.out)⟩) HVA.out.1 ⟨HVA.out.2,HVB.out.2⟩
              have HSE := hid hst
              clear hst
              go_upto_region 32 with (fail)
              refine qee (by kernel_rfl) (by kernel_rfl) [] [9] (by kernel_rfl) (fun _ _ d _ _ h => by cases d <;> exact h) (qag) (qag.refl) (qag.trans) (kinds [(7,fun v _ => v = .agg #[.int .i64 st.k,.int .i64 st.n,.string st.t]),(8,NewV wa.heap.size #[.int .i64 0,.int .i64 0,.string ⟨#[]⟩] 38)]) (qcr (by simp only [List.mem_cons,List.not_mem_nil,or_false,forall_eq_or_imp,forall_eq]; exact ⟨fun _ _ _ _ h => h,fun _ _ _ hR h => h.later hR⟩)) ?_
              simp only [body,tail,qam,Nat.reduceAdd,List.filter_cons,List.filter_nil,List.contains_cons,List.contains_nil,Nat.reduceBEq,Bool.or_false,Bool.or_true,Bool.false_or,Bool.true_or,Bool.not_true,Bool.not_false,Bool.and_true,Bool.and_false,Bool.true_and,Bool.false_and,if_true,if_false,reduceIte,Bool.false_eq_true,List.map_cons,List.map_nil]
              simp only [Pures]
              refine LexS.out ?_
              iterate 7
               first
               | (refine LexS.skip rfl ?_; simp only [Act.put,sib,List.set])
               | (refine LexS.one' rfl rfl ?_
                  apply Exists.intro
                  refine ⟨fun w hR hF => ?_,?_⟩
                  ·have hP := hR
                   repeat (first | replace hP := qag.of_drew hP | replace hP := qag.of_drewN hP | replace hP := qag.of_alloc hP)
                   have hcs := hR.cells
                   have zx0 := hP.cell x0
                   have zx1 := hP.cell x1
                   have zx2 := hP.cell x2
                   have zx3 := hP.cell x3
                   have zx4 := hP.cell x4
                   have zx5 := hP.cell x5
                   clear hR hF hP
                   go_simp
                   first | done | rfl
                  simp only [Act.put,sib,List.set])
              refine LexS.any rfl rfl (fun w hR hF => ?_) ?_
              ·have hP := hR
               repeat (first | replace hP := qag.of_drew hP | replace hP := qag.of_drewN hP | replace hP := qag.of_alloc hP)
               have hsz := hP.size
               have zx0 := hP.cell x0
               clear hF hR x0
               unfold Runs
               go_simp
               refine yield_enter ?_
               refine (HST.out _ hP).mono ?_
               rintro e w' ⟨rfl,hL⟩
               exact ⟨_,rfl,hL,rfl⟩
              rintro vk_ ⟨wk_,hRk_,hFk_⟩
              obtain rfl := hFk_ _ List.mem_cons_self _ rfl
              clear hFk_ hRk_ wk_
              simp only [Act.put,sib,List.set]
              refine LexS.any rfl rfl (fun w hR hF => ?_) ?_
              ·have hP := hR
               repeat (first | replace hP := qag.of_drew hP | replace hP := qag.of_drewN hP | replace hP := qag.of_alloc hP)
               have hsz := hP.size
               clear hF hR hP x0
               unfold Runs
               go_simp
               exact yield_value (qag.alloc _ _) ⟨_,rfl,qap _ _,hsz⟩
              rintro vk_ ⟨wk_,hRk_,hFk_⟩
              obtain ⟨b5,rfl,-⟩ := hFk_ _ List.mem_cons_self _ rfl
              clear hFk_ hRk_ wk_
              simp only [Act.put,sib,List.set]
              refine LexS.nil ?_
              intro w8 hR8 hF8
              obtain ⟨b6,h6,hn8,hbs⟩ := hF8 _ List.mem_cons_self _ rfl
              simp only [Value.pointer.injEq,Option.some.injEq,Addr.mk.injEq] at h6
              obtain ⟨rfl,-,-⟩ := h6
              clear hF8
              repeat (first | replace hR8 := qag.of_drew hR8 | replace hR8 := qag.of_drewN hR8 | replace hR8 := qag.of_alloc hR8)
              have hq8 : qcm w8 b5 qaa := hn8
              obtain ⟨q0,q1,q2,g0,g1,g2,ql⟩ := hq8.cells
              simp only [qaa] at q0 q1 q2
              have HS8 := hid (HSwa.out.go hR8); have HQ8 := hid hq8
              have HBS : Hid (w.heap.size ≤ b5) := hid (Nat.le_trans HSwa.out.later.size hbs)
              have HRB : Hid (b5 ≠ R) := hid (by have := qch HSwa.out.ret; omega)
              clear hn8 hbs hR8 hq8 c0 c6 x0 x1 x2 x3 x4 x5 x6 x7 x8 n0 n1 n2 s0 s1 s2 r0 r1 r2 f0 f1 f2 rl l0 l1 l2 l3
              change wpList _ _ _ _ _ _
              go_upto_region 33 with (fail)
              obtain ⟨w9,hw9⟩ : ∃ x,x = setV w8 b5 st := ⟨_,rfl⟩
              have HQ9 : Hid (qcm w9 b5 st) := hid (hw9 ▸ HQ8.out.set st)
              have HR9 : Hid (qcm w9 R qaa) := hid (hw9 ▸ HS8.out.ret.keep HRB.out)
              have HL9 : Hid (qag w w9) := hid (hw9 ▸ qae HS8.out.later HBS.out st)
              unfold setV at hw9
              rw [← hw9]
              clear hw9 q0 q1 q2 g0 g1 g2 ql
              obtain ⟨q0,q1,q2,-,-,-,ql⟩ := HQ9.out.cells
              obtain ⟨r0,r1,r2,f0,f1,f2,rl⟩ := HR9.out.cells
              simp only [qaa] at r0 r1 r2
              go_wp2_with fail
              refine bodyPost_ret (qaf rfl rfl (HR9.out.set st)) rfl ⟨?_,qae HL9.out HRN.out st⟩
              rw [← HDOC.out,HRST.out,if_neg HZ.out,HSE.out]
             ·have HZ : Hid (0 < n) := hid (by omega)
              have hz1 : (0 : Int) < (n : Int) := by omega
              clear hz
              go_wp2_with fail
              refine bodyPost_ret (qaf rfl rfl (HSwa.out.ret.set qaa)) rfl ⟨?_,qae HSwa.out.later HSwa.out.new qaa⟩
              rw [← HDOC.out,HRST.out,if_pos HZ.out]
mutual
theorem rec_all (cs : List Col) (row : List Val) : ∀ x : Ex,REC cs row x
 | .lit v => rec_lit cs row v
 | .name s p => rec_name cs row s p
 | .un neg p x => rec_kids cs row _ rfl fun y hy => by
   rw [List.mem_singleton.1 hy]
   exact rec_all cs row x
 | .bin o p x y => rec_kids cs row _ rfl fun z hz => by
   rcases List.mem_cons.1 hz with h | h
   ·rw [h]; exact rec_all cs row x
   ·rw [List.mem_singleton.1 h]
    exact rec_all cs row y
 | .call f p l => rec_kids cs row _ rfl (recs_all cs row l)
theorem recs_all (cs : List Col) (row : List Val) : ∀ l : List Ex,∀ x ∈ l,REC cs row x
 | [],_,h => absurd h (by simp)
 | y :: l,x,h => by
   rcases List.mem_cons.1 h with h | h
   ·rw [h]; exact rec_all cs row y
   ·exact recs_all cs row l x h
end
end Go.Proofs.YtgajofkeidjbgaaGreatDoor
