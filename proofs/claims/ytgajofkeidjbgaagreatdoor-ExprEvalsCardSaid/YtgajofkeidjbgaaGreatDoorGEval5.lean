/-
  PROVED HERE: a part of the proof of ExprEvals: Eval5.
-/
import Derived.Test.YtgajofkeidjbgaaGreatDoorShort
import Derived.Test.YtgajofkeidjbgaaGreatDoorGEval2
import Derived.Test.YtgajofkeidjbgaaGreatDoorGLexPlain
namespace Go.Proofs.YtgajofkeidjbgaaGreatDoor
set_option linter.unusedSimpArgs false
set_option linter.unusedVariables false
set_option maxHeartbeats 8000000
set_option maxRecDepth 100000
open Go.RowKit
attribute [local go_sem high] as_bin as_call no_bin_lit no_bin_name no_bin_un no_call_lit no_call_name no_call_un no_call_bin
theorem ev_bin (cs : List Col) (row : List Val) (hc : ColsOk cs) (hf : FitsOk cs row) (o : List UInt8) (p : Nat) (x y : Ex) (hx : EvC cs row x) (hy : EvC cs row y) : EvC cs row (.bin o p x y) := by
 intro k S ao c v w hn hr hk ho hcost
 unfold qbm at hn
 obtain ⟨N,u1,u2,-,rfl,hobj,hn1,hn2⟩ := hn
 unfold qef at ho
 unfold qbj at hcost
 obtain ⟨k1,k2,hk1,hk2⟩ : ∃ k1 k2,kindP cs x = .ok k1 ∧ kindP cs y = .ok k2 := by
  unfold kindP at hk
  cases h1 : kindP cs x with
  | error e => rw [h1] at hk; cases hk
  | ok k1 =>
    rw [h1] at hk
    simp only at hk
    cases h2 : kindP cs y with
    | error e => rw [h2] at hk; cases hk
    | ok k2 => exact ⟨k1,k2,rfl,rfl⟩
 have HV1 := hid (eval_of hc hf x k1 ho.2.1 hk1).2
 have HV2 := hid (eval_of hc hf y k2 ho.2.2 hk2).2
 have HX := hid hx; have HY := hid hy; have HK1 := hid hk1; have HK2 := hid hk2; have HO := hid ho
 have HCO : Hid (qbj x ≤ 1000000 ∧ qbj y ≤ 1000000) := hid ⟨by omega,by omega⟩
 have HOBJ := hid hobj
 have HNW : Hid (N ≠ w.heap.size) := hid (by have := qch hobj; omega)
 obtain ⟨w1,hw1,hL1,hR1⟩ := qei w
 have HL1 := hid hL1; have HR1 := hid hR1
 have HN1 := hid (qbm.keep (hL1.keeps S) (fun _ h => h) _ _ hn1); have HN2 := hid (qbm.keep (hL1.keeps S) (fun _ h => h) _ _ hn2); have HR := hid (hr.vals_kept (hL1.keeps (fun _ => True)) (fun _ _ => trivial))
 obtain ⟨a,ha⟩ : ∃ a,qby cs row x = a := ⟨_,rfl⟩
 obtain ⟨b,hb⟩ : ∃ b,qby cs row y = b := ⟨_,rfl⟩
 have HA := hid ha; have HB := hid hb
 obtain ⟨r,hr'⟩ : ∃ r,qby cs row (.bin o p x y) = r := ⟨_,rfl⟩
 have HRR : Hid (qdk o a b = r) := hid (by
  rw [← hr',← ha,← hb]
  conv => rhs; unfold qby)
 rw [hr']
 have hC : ∀ w',qag w1 w' → w'.cell? ⟨N,0,none⟩ = some (.string (qah o)) ∧ w'.cell? ⟨N,2,none⟩ = some u1 ∧ w'.cell? ⟨N,3,none⟩ = some u2 := fun w' k => have ho := k.obj (HL1.out.obj HOBJ.out); ⟨qac (i := 0) ho rfl,qac (i := 2) ho rfl,qac (i := 3) ho rfl⟩
 have HC := hid hC
 clear hobj hn1 hn2 hr hk hk1 hk2 ho hcost hL1 hR1 ha hb hr' hC hx hy hc hf
 go_enter Tryz.func57,Tryz.ntmps57
 go_upto_region 1 with (fail)
 rw [← hw1]
 clear hw1
 go_upto_region 18 with (fail)
 have HLD := hid (qag.drew w1)
 refine wp_region_held_drew (S := fun w => w.cell? ⟨N,0,none⟩ = some (.string (qah o)) ∧ w.cell? ⟨N,2,none⟩ = some u1 ∧ w.cell? ⟨N,3,none⟩ = some u2) (by kernel_rfl) (HC.out _ HLD.out) (fun hS => ?_)
 refine tH 0 (.pointer (some ⟨N,0,none⟩)) rfl (by kernel_rfl) (fun _ _ _ h => h) ⟨by rfl,?_⟩ hS ?_
 ·intro w hS
  clear hS
  go_simp
 try simp only [Act.put,sib,List.set]
 refine tH 4 (.pointer (some ⟨N,0,none⟩)) rfl (by kernel_rfl) (fun _ _ _ h => h) ⟨by rfl,?_⟩ hS ?_
 ·intro w hS
  clear hS
  go_simp
 try simp only [Act.put,sib,List.set]
 refine tH 8 (.slice ao row.length c) rfl (by kernel_rfl) (fun _ _ _ h => h) ⟨by rfl,?_⟩ hS ?_
 ·intro w hS
  clear hS
  go_simp
 try simp only [Act.put,sib,List.set]
 refine tH 10 (.pointer (some ⟨N,0,none⟩)) rfl (by kernel_rfl) (fun _ _ _ h => h) ⟨by rfl,?_⟩ hS ?_
 ·intro w hS
  clear hS
  go_simp
 try simp only [Act.put,sib,List.set]
 refine tH 14 (.slice ao row.length c) rfl (by kernel_rfl) (fun _ _ _ h => h) ⟨by rfl,?_⟩ hS ?_
 ·intro w hS
  clear hS
  go_simp
 try simp only [Act.put,sib,List.set]
 refine tH 1 (.pointer (some ⟨N,0,none⟩)) rfl (by kernel_rfl) (fun _ _ _ h => h) ⟨by rfl,?_⟩ hS ?_
 ·rintro w ⟨h0,-⟩
  try (have := qad h0)
  go_simp
 try simp only [Act.put,sib,List.set]
 refine tH 5 (.pointer (some ⟨N,0,none⟩)) rfl (by kernel_rfl) (fun _ _ _ h => h) ⟨by rfl,?_⟩ hS ?_
 ·rintro w ⟨h0,-⟩
  try (have := qad h0)
  go_simp
 try simp only [Act.put,sib,List.set]
 refine tH 11 (.pointer (some ⟨N,0,none⟩)) rfl (by kernel_rfl) (fun _ _ _ h => h) ⟨by rfl,?_⟩ hS ?_
 ·rintro w ⟨h0,-⟩
  try (have := qad h0)
  go_simp
 try simp only [Act.put,sib,List.set]
 refine tH 2 (.pointer (some ⟨N,0,none⟩)) rfl (by kernel_rfl) (fun _ _ _ h => h) ⟨by rfl,?_⟩ hS ?_
 ·rintro w ⟨h0,-⟩
  try (have := qad h0)
  go_simp
 try simp only [Act.put,sib,List.set]
 refine tH 6 (.pointer (some ⟨N,2,none⟩)) rfl (by kernel_rfl) (fun _ _ _ h => h) ⟨by rfl,?_⟩ hS ?_
 ·rintro w ⟨h0,-⟩
  try (have := qad h0)
  go_simp
 try simp only [Act.put,sib,List.set]
 refine tH 12 (.pointer (some ⟨N,3,none⟩)) rfl (by kernel_rfl) (fun _ _ _ h => h) ⟨by rfl,?_⟩ hS ?_
 ·rintro w ⟨h0,-⟩
  try (have := qad h0)
  go_simp
 try simp only [Act.put,sib,List.set]
 refine tH 3 (.string (qah o)) rfl (by kernel_rfl) (fun _ _ _ h => h) ⟨by rfl,?_⟩ hS ?_
 ·rintro w ⟨h0,-⟩
  try (have := qad h0)
  go_simp
 try simp only [Act.put,sib,List.set]
 refine tH 7 u1 rfl (by kernel_rfl) (fun _ _ _ h => h) ⟨by rfl,?_⟩ hS ?_
 ·rintro w ⟨-,h0,-⟩
  try (have := qad h0)
  go_simp
 try simp only [Act.put,sib,List.set]
 refine tH 13 u2 rfl (by kernel_rfl) (fun _ _ _ h => h) ⟨by rfl,?_⟩ hS ?_
 ·rintro w ⟨-,-,h0⟩
  try (have := qad h0)
  go_simp
 try simp only [Act.put,sib,List.set]
 refine wpAnyH_ready (rs := [9]) (by kernel_rfl) (by simp) (AllReadyH.cons rfl (fun K hK => ?_) AllReadyH.nil)
 go_simp
 refine (HX.out k1 S ao c u1 _ (qbm.keep (HLD.out.keeps S) (fun _ h => h) _ _ HN1.out) (HR.out.vals_kept (HLD.out.keeps (fun _ => True)) (fun _ _ => trivial)) HK1.out HO.out.2.1 HCO.out.1).mono ?_
 rintro e w2 ⟨rfl,hL2⟩
 have HL2 := hid (qag.trans _ _ _ HLD.out hL2)
 rw [HA.out]
 refine hK.out _ _ (HC.out _ HL2.out) (fun hS => ?_)
 clear hK K hL2
 try simp only [Act.put,sib,List.set]
 refine wpAnyH_ready (rs := [15]) (by kernel_rfl) (by simp) (AllReadyH.cons rfl (fun K hK => ?_) AllReadyH.nil)
 go_simp
 refine (HY.out k2 S ao c u2 _ (qbm.keep (HL2.out.keeps S) (fun _ h => h) _ _ HN2.out) (HR.out.vals_kept (HL2.out.keeps (fun _ => True)) (fun _ _ => trivial)) HK2.out HO.out.2.2 HCO.out.2).mono ?_
 rintro e w3 ⟨rfl,hL3⟩
 have HL3 := hid (qag.trans _ _ _ HL2.out hL3)
 rw [HB.out]
 refine hK.out _ _ (HC.out _ HL3.out) (fun hS => ?_)
 clear hK K hL3
 try simp only [Act.put,sib,List.set]
 refine wpAnyH_ready (rs := [16]) (by kernel_rfl) (by simp) (AllReadyH.cons rfl (fun K hK => ?_) AllReadyH.nil)
 go_simp
 have h1 := HV1.out
 have h2 := HV2.out
 rw [HA.out] at h1
 rw [HB.out] at h2
 refine (vbinary_any o HO.out.1 a b k1 k2 h1 h2 w3).mono ?_
 clear h1 h2
 rintro e w4 ⟨rfl,hL4⟩
 have HL4 := hid (qag.trans _ _ _ HL3.out hL4)
 rw [HRR.out]
 refine hK.out _ _ (HC.out _ HL4.out) (fun hS => ?_)
 clear hK K hL4
 try simp only [Act.put,sib,List.set]
 have HR4 := hid (HR1.out.later HL4.out)
 obtain ⟨c0,c1,c2,f0,f1,f2,cl⟩ := HR4.out.cells
 simp only [qaa] at c0 c1 c2
 rw [vv r]
 refine wpAnyH_ready (rs := [17]) (by kernel_rfl) (by simp) (AllReadyH.cons rfl (fun K hK => ?_) AllReadyH.nil)
 go_simp
 refine hK.out _ _ ⟨(qcn w4 w.heap.size r).cell (p := ⟨N,0,none⟩) HNW.out hS.1,(qcn w4 w.heap.size r).cell (p := ⟨N,2,none⟩) HNW.out hS.2.1,(qcn w4 w.heap.size r).cell (p := ⟨N,3,none⟩) HNW.out hS.2.2⟩ (fun hS => ?_)
 clear hK K hS c0 c1 c2 f0 f1 f2 cl
 refine wpAnyH_done (by kernel_rfl) ?_ _
 go_wp2_with fail
 exact bodyPost_ret (qaf rfl rfl (HR4.out.set r)) rfl ⟨rfl,qae (qag.trans _ _ _ HL1.out HL4.out) (Nat.le_refl _) _⟩
-- CALLS
theorem evals_len (cs : List Col) (row : List Val) : ∀ l : List Ex,(qbe cs row l).length = l.length
 | [] => by unfold qbe; rfl
 | x :: l => by unfold qbe; simp [evals_len cs row l]
theorem evals_take (cs : List Col) (row : List Val) : ∀ (l : List Ex) (k : Nat) (h : k < l.length),qbe cs row (l.take (k + 1)) = qbe cs row (l.take k) ++ [qby cs row l[k]]
 | x :: l,0,_ => by
   rw [List.take_succ_cons,List.take_zero]
   unfold qbe
   unfold qbe
   rfl
 | x :: l,k + 1,h => by
   rw [List.take_succ_cons,List.take_succ_cons]
   conv => lhs; unfold qbe
   conv => rhs; unfold qbe
   rw [evals_take cs row l k (by simpa using h)]
   rfl
theorem valCells_add (l : List Val) (x : Val) : qco (l ++ [x]) = qco l ++ x.cells := by unfold qco; simp
theorem valElem : ElemInfo Tryz.prog 38 3 32 := ElemInfo.of (z := .agg #[.int .i64 0,.int .i64 0,.string ⟨#[]⟩]) (by kernel_rfl) rfl (by decide)
theorem ones_val (x : Val) : ∀ u ∈ x.cells,u.oneCell' = true := by
 intro u hu
 simp only [Val.cells,List.mem_cons,List.not_mem_nil,or_false] at hu
 rcases hu with rfl | rfl | rfl <;> rfl
theorem map_ret {w : World} {M n R : Nat} {g : List UInt8 → Option Value} {x : Val} (h : MapIn strI w M n g) (hO : qcm w R x) : M ≠ R := by
 rintro rfl
 obtain ⟨es,c,hm⟩ := MapIn.obj h
 unfold qcm at hO
 rw [hO] at hm
 cases hm
theorem call_parts {cs : List Col} {f : List UInt8} {p : Nat} {l : List Ex} {k : Int} (h : kindP cs (.call f p l) = .ok k) : ∃ ar out ks,qem f = some (ar,out) ∧ qbc cs l = .ok ks ∧ callK f ks = some k ∧ ar.length = l.length := by
 unfold kindP at h
 cases ha : qem f with
 | none => rw [ha] at h; cases h
 | some a =>
   rw [ha] at h
   simp only at h
   cases hl : qbc cs l with
   | error e => rw [hl] at h; cases h
   | ok ks =>
     rw [hl] at h
     simp only at h
     cases hk : callK f ks with
     | none => rw [hk] at h; cases h
     | some k' =>
       rw [hk] at h
       cases h
       refine ⟨a.1,a.2,ks,rfl,rfl,hk,?_⟩
       unfold callK at hk
       rw [ha] at hk
       simp only at hk
       split at hk
       ·cases hk
       ·rename_i hn
        rw [← kinds_len hl]
        simpa using hn
theorem kinds_pre {cs : List Col} : ∀ {l : List Ex} {ks : List Int},qbc cs l = .ok ks → ∀ k,∃ ks',qbc cs (l.take k) = .ok ks'
 | _,_,_,0 => ⟨[],by rw [List.take_zero]; unfold qbc; rfl⟩
 | [],_,_,k + 1 => ⟨[],by unfold List.take; unfold qbc; rfl⟩
 | x :: l,ks,h,k + 1 => by
   rw [List.take_succ_cons]
   unfold qbc at h ⊢
   cases hx : kindP cs x with
   | error e => rw [hx] at h; cases h
   | ok a =>
     rw [hx] at h
     simp only at h ⊢
     cases hl : qbc cs l with
     | error e => rw [hl] at h; cases h
     | ok ks2 =>
       obtain ⟨ks',h'⟩ := kinds_pre hl k
       rw [h']
       exact ⟨_,rfl⟩
theorem argsF_cases {f : List UInt8} {ar : List Int} {out : Int} (h : qem f = some (ar,out)) : (f = lenW ∧ ar.length = 1) ∨ (f = absW ∧ ar.length = 1) ∨ (f = cutW ∧ ar.length = 2) ∨ (f = qbv ∧ ar.length = 1) ∨ (f = coalW ∧ ar.length = 2) ∨ (f = ifW ∧ ar.length = 3) := by
 unfold qem at h
 by_cases g0 : f = lenW
 ·rw [if_pos g0] at h; cases h; exact .inl ⟨g0,rfl⟩
 rw [if_neg g0] at h
 by_cases g1 : f = absW
 ·rw [if_pos g1] at h; cases h; exact .inr (.inl ⟨g1,rfl⟩)
 rw [if_neg g1] at h
 by_cases g2 : f = cutW
 ·rw [if_pos g2] at h; cases h; exact .inr (.inr (.inl ⟨g2,rfl⟩))
 rw [if_neg g2] at h
 by_cases g3 : f = qbv
 ·rw [if_pos g3] at h; cases h; exact .inr (.inr (.inr (.inl ⟨g3,rfl⟩)))
 rw [if_neg g3] at h
 by_cases g4 : f = coalW
 ·rw [if_pos g4] at h; cases h; exact .inr (.inr (.inr (.inr (.inl ⟨g4,rfl⟩))))
 rw [if_neg g4] at h
 by_cases g5 : f = ifW
 ·rw [if_pos g5] at h; cases h; exact .inr (.inr (.inr (.inr (.inr ⟨g5,rfl⟩))))
 rw [if_neg g5] at h
 cases h
theorem list1 {α : Type} {l : List α} (h : l.length = 1) : ∃ a,l = [a] := by match l,h with | [a],_ => exact ⟨a,rfl⟩
theorem list2 {α : Type} {l : List α} (h : l.length = 2) : ∃ a b,l = [a,b] := by match l,h with | [a,b],_ => exact ⟨a,b,rfl⟩
theorem list3 {α : Type} {l : List α} (h : l.length = 3) : ∃ a b c,l = [a,b,c] := by match l,h with | [a,b,c],_ => exact ⟨a,b,c,rfl⟩
theorem vals_go {w w' : World} {v : Value} {l : List Val} (h : qcx w v l) (k : qag w w') : qcx w' v l := h.vals_kept (k.keeps (fun _ => True)) (fun _ _ => trivial)
theorem fn_strict {f : List UInt8} {ar : List Int} {out : Int} (ha : qem f = some (ar,out)) (hs : isStrict f) (K : Nat) (ao : Option Addr) (n c : Nat) (l : List Val) (w : World) (hn : n = l.length) (hl : qcx w (.slice ao n c) l) (hlen : l.length = ar.length) (hsz : ∀ x ∈ l,x.t.size ≤ 1000)
  (hK : w.heap[K]? = some (.cells #[.func (.func (fnF f)) #[] #[]] 84 (0,0))) :
  Calls Tryz.prog 126 #[.slice ao n c,.pointer (some ⟨K,0,none⟩)] w (qar (callV f l) w) := by
 subst hn
 rcases argsF_cases ha with ⟨rfl,h1⟩ | ⟨rfl,h1⟩ | ⟨rfl,h1⟩ | ⟨rfl,h1⟩ | ⟨rfl,h1⟩ | ⟨rfl,h1⟩
 ·obtain ⟨a,rfl⟩ := list1 (hlen.trans h1)
  exact strict1_any 108 (enters_of Tryz.func108 (by kernel_rfl) rfl) K ao c [a] (intV a.t.size) w hl (by simp) hK (fun _ w' k => fn1_any a ao c w' (vals_go hl k))
 ·obtain ⟨a,rfl⟩ := list1 (hlen.trans h1)
  exact strict1_any 109 (enters_of Tryz.func109 (by kernel_rfl) rfl) K ao c [a] (intV (max a.n (wrap64 (-a.n)))) w hl (by simp) hK (fun _ w' k => fn2_any a ao c w' (vals_go hl k))
 ·obtain ⟨a,b,rfl⟩ := list2 (hlen.trans h1)
  exact strict1_any 110 (enters_of Tryz.func110 (by kernel_rfl) rfl) K ao c [a,b] (textV (a.t.data.toList.take (max 0 (min (a.t.size : Int) b.n)).toNat)) w hl (by simp) hK (fun _ w' k => fn3_any a b ao c w' (vals_go hl k) (hsz a (by simp)))
 all_goals exact absurd hs (by decide)
theorem fn_isnull {ar : List Int} {out : Int} (ha : qem qbv = some (ar,out)) (ao : Option Addr) (n c : Nat) (l : List Val) (w : World) (hn : n = l.length) (hl : qcx w (.slice ao n c) l) (hlen : l.length = ar.length) : Calls Tryz.prog 111 #[.slice ao n c] w (qar (callV qbv l) w) := by
 subst hn
 have h1 : ar.length = 1 := by cases ha; rfl
 obtain ⟨a,rfl⟩ := list1 (hlen.trans h1)
 exact fn4_any a ao c w hl
theorem fn_coal {ar : List Int} {out : Int} (ha : qem coalW = some (ar,out)) (ao : Option Addr) (n c : Nat) (l : List Val) (w : World) (hn : n = l.length) (hl : qcx w (.slice ao n c) l) (hlen : l.length = ar.length) : Calls Tryz.prog 112 #[.slice ao n c] w (qar (callV coalW l) w) := by
 subst hn
 have h1 : ar.length = 2 := by cases ha; rfl
 obtain ⟨a,b,rfl⟩ := list2 (hlen.trans h1)
 exact fn5_any a b ao c w hl
theorem fn_if {ar : List Int} {out : Int} (ha : qem ifW = some (ar,out)) (ao : Option Addr) (n c : Nat) (l : List Val) (w : World) (hn : n = l.length) (hl : qcx w (.slice ao n c) l) (hlen : l.length = ar.length) : Calls Tryz.prog 113 #[.slice ao n c] w (qar (callV ifW l) w) := by
 subst hn
 have h1 : ar.length = 3 := by cases ha; rfl
 obtain ⟨a,b,d,rfl⟩ := list3 (hlen.trans h1)
 exact fn6_any a b d ao c w hl
theorem field_ev (a : Option Addr) (n m : Nat) (k : Int) (fn : Fn) (caps : Array Value) (w : World) : (Instr.field 176 (.agg #[.slice a n m,.int .i64 k,.func fn #[] caps]) 2).run Tryz.prog w = .ok (.func fn #[] caps) w := by kernel_rfl
attribute [local go_sem high] field_ev
theorem ev_call (cs : List Col) (row : List Val) (hc : ColsOk cs) (hf : FitsOk cs row) (f : List UInt8) (p : Nat) (l : List Ex) (hx : ∀ x ∈ l,EvC cs row x) : EvC cs row (.call f p l) := by
 intro k S ao c v w hn hr hk ho hcost
 unfold qbm at hn
 obtain ⟨N,vs,a,-,rfl,hobj,hargs,hns⟩ := hn
 unfold qef at ho
 unfold qbj at hcost
 obtain ⟨ar,out,ks,harg,hks,hck,harl⟩ := call_parts hk
 have hev := evals_of hc hf l ks ho hks
 have HEV := hid hev
 have HX := hid hx; have HO := hid ho; have HCO := hid hcost; have HKS := hid hks; have HARG := hid harg; have HARL := hid harl
 have hvl := nodesG_len hns
 have HVL := hid hvl
 obtain ⟨ag,acap,rfl⟩ : ∃ ag cap,a = .slice ag l.length cap := by
  rcases hargs.1.2 with ⟨hv,h0⟩ | ⟨g,cap,cur,hv,_⟩
  ·exact ⟨none,0,by rw [hv,← hvl,h0]⟩
  ·exact ⟨_,_,by rw [hv,hvl]⟩
 have HLL : Hid (l.length ≤ 1000000) := hid (by have := xs_cost' l; omega)
 have HFL : Hid (f.length ≤ maxLen) := hid (by unfold maxLen; omega)
 have HOBJ := hid hobj
 have HNW : Hid (N ≠ w.heap.size) := hid (by have := qch hobj; omega)
 obtain ⟨w1,hw1,hL1,hR1⟩ := qei w
 have HL1 := hid hL1; have HRET := hid hR1
 have HNS := hid (qcb.keep (hL1.keeps S) (fun _ h => h) _ _ hns); have HR := hid (vals_go hr hL1); have HAR := hid (hargs.kept (hL1.keeps S) (fun _ h => h))
 obtain ⟨r,hr'⟩ : ∃ r,qby cs row (.call f p l) = r := ⟨_,rfl⟩
 have HRV : Hid (callV f (qbe cs row l) = r) := hid (by rw [← hr']; conv => rhs; unfold qby)
 rw [hr']
 have hC0 : ∀ w',qag w1 w' → w'.cell? ⟨N,0,none⟩ = some (.string (qah f)) := fun w' k => qac (i := 0) (k.obj (HL1.out.obj HOBJ.out)) rfl
 have HC0 := hid hC0
 have q2 : w1.cell? ⟨N,2,none⟩ = some (.slice ag l.length acap) := qac (i := 2) (hL1.obj hobj) rfl
 have ql := qad q2
 clear hobj hargs hns hr hk ho hcost hL1 hR1 hr' hC0 hx hc hf hks hck harl hev harg hvl
 go_enter Tryz.func57,Tryz.ntmps57
 go_upto_region 1 with (fail)
 rw [← hw1]
 clear hw1
 go_wp2_with fail
 obtain ⟨R1,hR1⟩ : ∃ RR_ : (Nat → Value) → World → Prop,RR_ = (fun us wx => ∃ (k : Nat) (lv : Value),us 88 = .int .i64 (k : Int) ∧ us 11 = lv ∧ k ≤ l.length ∧ qag w1 wx ∧ wx.ownsRow w1.heap.size 38 3 lv k (qco (qbe cs row (l.take k)))) := ⟨_,rfl⟩
 obtain ⟨mu1,hmu1⟩ : ∃ mu : (Nat → Value) → World → Nat,mu = (fun us _ => l.length - (intOf (us 88)).toNat) := ⟨_,rfl⟩
 have HR1 := hid hR1; have Hmu1 := hid hmu1; clear hR1 hmu1
 refine qal [ff,ff,ff,ff,ff,ff,ff,ff,ff,ff,ff,true,ff,true,ff,ff,ff,ff,ff,ff,ff,ff,ff,ff,ff,ff,ff,ff,ff,ff,ff,ff,ff,ff,ff,ff,ff,ff,ff,ff,ff,ff,ff,ff,ff,ff,ff,ff,ff,ff,ff,ff,ff,ff,ff,ff,ff,ff,ff,ff,ff,ff,ff,ff,ff,ff,ff,ff,ff,ff,ff,ff,ff,ff,ff,ff,ff,ff,ff,ff,ff,ff,ff,ff,ff,ff,ff,ff,true,true,true,true,true,true,true,true,true,true,true] R1 _ mu1 HR1.out ?_ ?_
 ·refine ⟨0,.slice none 0 0,rfl,rfl,Nat.zero_le _,qag.refl _,?_⟩
  rw [List.take_zero]
  unfold qbe qco
  exact ⟨by simp,.inl ⟨rfl,rfl⟩⟩
 intro us1 wx hrel
 obtain ⟨k,lv,h88,h11,hk,hL,hown⟩ := hrel
 simp only [qao,Nat.reduceAdd,h88,h11]
 have Hh88 := hid h88; clear h88
 have Hh11 := hid h11; clear h11
 have HL := hid hL; have HOW := hid hown; have HKL := hid hk
 clear hL hown q2 ql
 by_cases hlt : k < l.length
 ·have HLT := hid hlt
  have hki : (k : Int) < l.length := by omega
  have hkv : k < vs.length := by rw [HVL.out]; exact hlt
  have HKV := hid hkv
  have hcell : ∃ g,ag = some ⟨g,0,none⟩ ∧ wx.cell? ⟨g,k,none⟩ = some (vs[k]'hkv) := by
   have har := HAR.out.kept (HL.out.keeps S) (fun _ h => h)
   rcases har.1.2 with ⟨hv,h0⟩ | ⟨g,cap',cur,hv,_⟩
   ·omega
   ·simp only [Value.slice.injEq] at hv
    refine ⟨g,hv.1,?_⟩
    have h := har.1.cells (g := g) (by rw [hv.1]; rfl) k _ (List.getElem?_eq_getElem hkv)
    rw [qeg rfl,Nat.zero_add] at h
    exact h
  obtain ⟨g,rfl,hcc⟩ := hcell
  obtain ⟨v,hv⟩ : ∃ v,vs[k]'HKV.out = v := ⟨_,rfl⟩
  rw [hv] at hcc
  have hcl := qad hcc
  have HWK : Hid (wrap64 ((k : Int) + 1) = ((k + 1 : Nat) : Int)) := hid (by have := HLT.out; have := HLL.out; unfold wrap64; omega)
  obtain ⟨x,hxk⟩ : ∃ x,l[k]'HLT.out = x := ⟨_,rfl⟩
  have HXK := hid hxk
  have HCX : Hid (qbj x ≤ 1000000) := hid (by have := costs_at l k HLT.out; rw [hxk] at this; have := HCO.out; omega)
  have HNX : Hid (qbm (qIdx cs) S wx v x) := hid (by
   have := nodesG_at HNS.out k HLT.out HKV.out
   rw [hv,hxk] at this
   exact qbm.keep (HL.out.keeps S) (fun _ h => h) _ _ this)
  have HOX : Hid (qef x) := hid (by have := exs_at' HO.out k HLT.out; rw [hxk] at this; exact this)
  obtain ⟨kx,hkx⟩ : ∃ kx,kindP cs x = .ok kx := by
   cases hh : kindP cs x with
   | ok kx => exact ⟨kx,rfl⟩
   | error e =>
     exfalso
     obtain ⟨ks',hks'⟩ : ∃ ks',qbc cs (l.take k) = .ok ks' := kinds_pre HKS.out k
     have h1 := kinds_take_err l k HLT.out ks' hks' (by rw [HXK.out]; exact hh)
     rw [HKS.out] at h1
     cases h1
  have HKX := hid hkx
  clear hlt hkv hv hxk hk hkx
  go_wp2_with fail
  refine (HX.out x (by rw [← HXK.out]; exact List.getElem_mem _) kx S ao c v wx HNX.out (vals_go HR.out HL.out) HKX.out HOX.out HCX.out).mono ?_
  rintro e w3 ⟨rfl,hL3⟩
  have HL3 := hid (qag.trans _ _ _ HL.out hL3)
  obtain ⟨y,hy⟩ : ∃ y,qby cs row x = y := ⟨_,rfl⟩
  have HTK : Hid (qbe cs row (l.take (k + 1)) = qbe cs row (l.take k) ++ [y]) := hid (by rw [evals_take cs row l k HLT.out,HXK.out,hy])
  rw [hy,vv y]
  have HO4 := hid (owns_at (owns_at HOW.out hL3) (qag.alloc w3 (.cells #[.int .i64 y.k,.int .i64 y.n,.string y.t] 38)))
  have HN4 := hid (qap w3 (.cells #[.int .i64 y.k,.int .i64 y.n,.string y.t] 38))
  have HB4 : Hid (w1.heap.size ≤ (w3.alloc (.cells #[.int .i64 y.k,.int .i64 y.n,.string y.t] 38)).heap.size) := hid (by have := HL3.out.size; simp; omega)
  clear hL3 hcc hcl hy
  go_wp2_with (at_builtin; refine qce rfl _ _ 39 rfl 38 3 32 Tryz.underlying39 valElem rfl HO4.out (news := y.cells) rfl HN4.out rfl (ones_val y) ?c1 ?c2 HB4.out ?_)
  case c1 => have := HLT.out; have := HLL.out; omega
  case c2 => have := HLT.out; have := HLL.out; unfold maxLen; omega
  intro v5 w5 hA5
  have HA5 := hid hA5
  have HL5 : Hid (qag w1 w5) := hid (by
   have h0 := qag.trans _ _ _ HL3.out (qag.alloc w3 (.cells #[.int .i64 y.k,.int .i64 y.n,.string y.t] 38))
   rcases hA5.kind with ⟨g',cap',hg,-,hk⟩ | ⟨hk,-⟩
   ·exact qeb h0 ((HO4.out.lt g' (by rw [hg]; rfl)).1) hk
   ·exact qag.trans _ _ _ h0 hk)
  clear hA5
  go_wp2_with fail
  try simp only [HWK.out]
  refine Round.mk' HR1.out Hmu1.out rfl ?_ ?_
  ·refine ⟨k + 1,v5,rfl,rfl,HLT.out,HL5.out,?_⟩
   rw [HTK.out,valCells_add]
   exact HA5.out.own
  ·rw [Hh88.out]; have := HLT.out; simp [intOf,qas]; omega
 ·have hki : ¬ (k : Int) < l.length := by omega
  obtain rfl : k = l.length := by omega
  have hlz : (qbe cs row l).length = l.length := evals_len cs row l
  obtain ⟨lao,lc,rfl⟩ : ∃ lao lc,lv = .slice lao l.length lc := by
   rcases HOW.out.2 with ⟨hv,h0⟩ | ⟨g,cap,cur,hv,_⟩
   ·exact ⟨none,0,by rw [hv,h0]⟩
   ·exact ⟨_,_,hv⟩
  have HIV : Hid (qcx wx (.slice lao l.length lc) (qbe cs row l)) := hid (by
   have h := HOW.out
   rw [List.take_length] at h
   rw [show l.length = (qbe cs row l).length from hlz.symm] at h
   rw [show l.length = (qbe cs row l).length from hlz.symm]
   exact (owned_vals h).map fun _ _ _ _ hx => ⟨trivial,hx⟩)
  have HLZ := hid hlz
  have HSZ : Hid (∀ x ∈ qbe cs row l,x.t.size ≤ 1000) := hid fun x hx => by
   obtain ⟨i,hi,rfl⟩ := List.getElem_of_mem hx
   have := val_small (HEV.out.2.2 i hi (by rw [← HEV.out.1]; exact hi))
   omega
  clear hlt hk hlz
  go_upto_region 27 with (fail)
  have HLD := hid (qag.trans _ _ _ HL.out (qag.drew wx))
  refine wp_region_held_drew (S := fun w => w.cell? ⟨N,0,none⟩ = some (.string (qah f))) (by kernel_rfl) (HC0.out _ HLD.out) (fun hS => ?_)
  refine tH 1 (.pointer (some ⟨N,0,none⟩)) rfl (by kernel_rfl) (fun _ _ _ h => h) ⟨by rfl,?_⟩ hS ?_
  ·intro w hS
   clear hS
   go_simp
  try simp only [Act.put,sib,List.set]
  refine tH 7 (.slice lao l.length lc) rfl (by kernel_rfl) (fun _ _ _ h => h) ⟨by rfl,?_⟩ hS ?_
  ·intro w hS
   clear hS
   go_simp
  try simp only [Act.put,sib,List.set]
  refine tH 2 (.pointer (some ⟨N,0,none⟩)) rfl (by kernel_rfl) (fun _ _ _ h => h) ⟨by rfl,?_⟩ hS ?_
  ·rintro w h0
   try (have := qad h0)
   go_simp
  try simp only [Act.put,sib,List.set]
  refine tH 3 (.pointer (some ⟨N,0,none⟩)) rfl (by kernel_rfl) (fun _ _ _ h => h) ⟨by rfl,?_⟩ hS ?_
  ·rintro w h0
   try (have := qad h0)
   go_simp
  try simp only [Act.put,sib,List.set]
  refine tH 4 (.string (qah f)) rfl (by kernel_rfl) (fun _ _ _ h => h) ⟨by rfl,?_⟩ hS ?_
  ·rintro w h0
   try (have := qad h0)
   go_simp
  try simp only [Act.put,sib,List.set]
  refine wpAnyH_ready (rs := [0]) (by kernel_rfl) (by simp) (AllReadyH.cons rfl (fun K hK => ?_) AllReadyH.nil)
  go_simp
  refine (functions_any _).mono ?_
  rintro e w3 ⟨M,F,rfl,hL3,hM3,hF3⟩
  have HL3 := hid (qag.trans _ _ _ HLD.out hL3)
  refine hK.out _ _ (HC0.out _ HL3.out) (fun hS => ?_)
  clear hK K
  try simp only [Act.put,sib,List.set]
  refine wpAnyH_mono (T := fun w' => w'.cell? ⟨N,0,none⟩ = some (.string (qah f)) ∧ MapIn strI w' M 6 F) (fun w h => h.1) _ _ _ _ ?_
  have hS2 : w3.cell? ⟨N,0,none⟩ = some (.string (qah f)) ∧ MapIn strI w3 M 6 F := ⟨hS,hM3⟩
  clear hS
  have hS := hS2
  clear hS2
  have hFf := hF3 f
  rw [HARG.out] at hFf
  obtain ⟨sv,hFv,b0,ev,rfl,hrow,hev⟩ := hFf
  refine tH 5 (.agg #[.slice (some ⟨b0,0,none⟩) ar.length ar.length,.int .i64 out,ev]) rfl (by kernel_rfl) (fun _ _ _ h => h) ⟨by rfl,?_⟩ hS ?_
  ·rintro w ⟨-,h0⟩
   have hlk : (Instr.lookup 177 (.map (some M)) (.string (qah f)) false).run Tryz.prog w = .ok (.agg #[.slice (some ⟨b0,0,none⟩) ar.length ar.length,.int .i64 out,ev]) w := by
    have h := MapIn.look1 (mt := 177) (et := 176) Tryz.underlying177 zero_shape h0 f HFL.out
    rw [hFv] at h
    exact h
   clear h0 hFv hrow hev
   go_simp
  clear hFv hrow hM3 hF3
  try simp only [Act.put,sib,List.set]
  have HIV3 := hid (vals_go HIV.out (qag.trans _ _ _ (qag.drew wx) hL3))
  have HRX := HRET
  have HLX := HL1
  clear hL3
  unfold EvV at hev
  by_cases hst : isStrict f
  ·rw [if_pos hst] at hev
   obtain ⟨K0,rfl,hK0⟩ := hev
   have HK0 := hid hK0; have HST := hid hst
   clear hK0 hst
   refine tH 6 (.func (.func 126) #[] #[.pointer (some ⟨K0,0,none⟩)]) rfl (by kernel_rfl) (fun _ _ _ h => h) ⟨by rfl,?_⟩ hS ?_
   ·intro w hS
    clear hS
    go_simp
   try simp only [Act.put,sib,List.set]
   refine wpAnyH_ready (rs := [8]) (by kernel_rfl) (by simp) (AllReadyH.cons rfl (fun K hK => ?_) AllReadyH.nil)
   go_simp
   refine (fn_strict HARG.out HST.out K0 lao l.length lc (qbe cs row l) w3 HLZ.out.symm HIV3.out (by rw [HLZ.out,HARL.out]) HSZ.out HK0.out).mono ?_
   rintro e w4 ⟨rfl,hL4⟩
   have HL4 := hid (qag.trans _ _ _ HL3.out hL4)
   rw [HRV.out]
   refine hK.out _ _ ⟨HC0.out _ HL4.out,hS.2.later hL4⟩ (fun hS => ?_)
   clear hK K hL4
   try simp only [Act.put,sib,List.set]
   have HR4 := hid (HRX.out.later HL4.out)
   obtain ⟨c0,c1,c2,f0,f1,f2,cl⟩ := HR4.out.cells
   simp only [qaa] at c0 c1 c2
   rw [vv r]
   refine wpAnyH_ready (rs := [9]) (by kernel_rfl) (by simp) (AllReadyH.cons rfl (fun K hK => ?_) AllReadyH.nil)
   go_simp
   refine hK.out _ _ ⟨(qcn w4 w.heap.size r).cell (p := ⟨N,0,none⟩) HNW.out hS.1,hS.2.kept (qcn w4 w.heap.size r) (map_ret hS.2 HR4.out)⟩ (fun hS => ?_)
   clear hK K hS c0 c1 c2 f0 f1 f2 cl
   refine wpAnyH_done (by kernel_rfl) ?_ _
   go_wp2_with fail
   exact bodyPost_ret (qaf rfl rfl (HR4.out.set r)) rfl ⟨rfl,qae (qag.trans _ _ _ HLX.out HL4.out) (Nat.le_refl _) _⟩
  ·rw [if_neg hst] at hev
   subst hev
   rcases argsF_cases HARG.out with ⟨rfl,-⟩ | ⟨rfl,-⟩ | ⟨rfl,-⟩ | ⟨rfl,-⟩ | ⟨rfl,-⟩ | ⟨rfl,-⟩
   ·exact absurd (by decide) hst
   ·exact absurd (by decide) hst
   ·exact absurd (by decide) hst
   ·rw [show fnF qbv = 111 from rfl]
    clear hst
    refine tH 6 (.func (.func 111) #[] #[]) rfl (by kernel_rfl) (fun _ _ _ h => h) ⟨by rfl,?_⟩ hS ?_
    ·intro w hS
     clear hS
     go_simp
    try simp only [Act.put,sib,List.set]
    refine wpAnyH_ready (rs := [8]) (by kernel_rfl) (by simp) (AllReadyH.cons rfl (fun K hK => ?_) AllReadyH.nil)
    go_simp
    refine (fn_isnull HARG.out lao l.length lc (qbe cs row l) w3 HLZ.out.symm HIV3.out (by rw [HLZ.out,HARL.out])).mono ?_
    rintro e w4 ⟨rfl,hL4⟩
    have HL4 := hid (qag.trans _ _ _ HL3.out hL4)
    rw [HRV.out]
    refine hK.out _ _ ⟨HC0.out _ HL4.out,hS.2.later hL4⟩ (fun hS => ?_)
    clear hK K hL4
    try simp only [Act.put,sib,List.set]
    have HR4 := hid (HRX.out.later HL4.out)
    obtain ⟨c0,c1,c2,f0,f1,f2,cl⟩ := HR4.out.cells
    simp only [qaa] at c0 c1 c2
    rw [vv r]
    refine wpAnyH_ready (rs := [9]) (by kernel_rfl) (by simp) (AllReadyH.cons rfl (fun K hK => ?_) AllReadyH.nil)
    go_simp
    refine hK.out _ _ ⟨(qcn w4 w.heap.size r).cell (p := ⟨N,0,none⟩) HNW.out hS.1,hS.2.kept (qcn w4 w.heap.size r) (map_ret hS.2 HR4.out)⟩ (fun hS => ?_)
    clear hK K hS c0 c1 c2 f0 f1 f2 cl
    refine wpAnyH_done (by kernel_rfl) ?_ _
    go_wp2_with fail
    exact bodyPost_ret (qaf rfl rfl (HR4.out.set r)) rfl ⟨rfl,qae (qag.trans _ _ _ HLX.out HL4.out) (Nat.le_refl _) _⟩
   ·rw [show fnF coalW = 112 from rfl]
    clear hst
    refine tH 6 (.func (.func 112) #[] #[]) rfl (by kernel_rfl) (fun _ _ _ h => h) ⟨by rfl,?_⟩ hS ?_
    ·intro w hS
     clear hS
     go_simp
    try simp only [Act.put,sib,List.set]
    refine wpAnyH_ready (rs := [8]) (by kernel_rfl) (by simp) (AllReadyH.cons rfl (fun K hK => ?_) AllReadyH.nil)
    go_simp
    refine (fn_coal HARG.out lao l.length lc (qbe cs row l) w3 HLZ.out.symm HIV3.out (by rw [HLZ.out,HARL.out])).mono ?_
    rintro e w4 ⟨rfl,hL4⟩
    have HL4 := hid (qag.trans _ _ _ HL3.out hL4)
    rw [HRV.out]
    refine hK.out _ _ ⟨HC0.out _ HL4.out,hS.2.later hL4⟩ (fun hS => ?_)
    clear hK K hL4
    try simp only [Act.put,sib,List.set]
    have HR4 := hid (HRX.out.later HL4.out)
    obtain ⟨c0,c1,c2,f0,f1,f2,cl⟩ := HR4.out.cells
    simp only [qaa] at c0 c1 c2
    rw [vv r]
    refine wpAnyH_ready (rs := [9]) (by kernel_rfl) (by simp) (AllReadyH.cons rfl (fun K hK => ?_) AllReadyH.nil)
    go_simp
    refine hK.out _ _ ⟨(qcn w4 w.heap.size r).cell (p := ⟨N,0,none⟩) HNW.out hS.1,hS.2.kept (qcn w4 w.heap.size r) (map_ret hS.2 HR4.out)⟩ (fun hS => ?_)
    clear hK K hS c0 c1 c2 f0 f1 f2 cl
    refine wpAnyH_done (by kernel_rfl) ?_ _
    go_wp2_with fail
    exact bodyPost_ret (qaf rfl rfl (HR4.out.set r)) rfl ⟨rfl,qae (qag.trans _ _ _ HLX.out HL4.out) (Nat.le_refl _) _⟩
   ·rw [show fnF ifW = 113 from rfl]
    clear hst
    refine tH 6 (.func (.func 113) #[] #[]) rfl (by kernel_rfl) (fun _ _ _ h => h) ⟨by rfl,?_⟩ hS ?_
    ·intro w hS
     clear hS
     go_simp
    try simp only [Act.put,sib,List.set]
    refine wpAnyH_ready (rs := [8]) (by kernel_rfl) (by simp) (AllReadyH.cons rfl (fun K hK => ?_) AllReadyH.nil)
    go_simp
    refine (fn_if HARG.out lao l.length lc (qbe cs row l) w3 HLZ.out.symm HIV3.out (by rw [HLZ.out,HARL.out])).mono ?_
    rintro e w4 ⟨rfl,hL4⟩
    have HL4 := hid (qag.trans _ _ _ HL3.out hL4)
    rw [HRV.out]
    refine hK.out _ _ ⟨HC0.out _ HL4.out,hS.2.later hL4⟩ (fun hS => ?_)
    clear hK K hL4
    try simp only [Act.put,sib,List.set]
    have HR4 := hid (HRX.out.later HL4.out)
    obtain ⟨c0,c1,c2,f0,f1,f2,cl⟩ := HR4.out.cells
    simp only [qaa] at c0 c1 c2
    rw [vv r]
    refine wpAnyH_ready (rs := [9]) (by kernel_rfl) (by simp) (AllReadyH.cons rfl (fun K hK => ?_) AllReadyH.nil)
    go_simp
    refine hK.out _ _ ⟨(qcn w4 w.heap.size r).cell (p := ⟨N,0,none⟩) HNW.out hS.1,hS.2.kept (qcn w4 w.heap.size r) (map_ret hS.2 HR4.out)⟩ (fun hS => ?_)
    clear hK K hS c0 c1 c2 f0 f1 f2 cl
    refine wpAnyH_done (by kernel_rfl) ?_ _
    go_wp2_with fail
    exact bodyPost_ret (qaf rfl rfl (HR4.out.set r)) rfl ⟨rfl,qae (qag.trans _ _ _ HLX.out HL4.out) (Nat.le_refl _) _⟩
mutual
theorem ev_all {cs : List Col} {row : List Val} (hc : ColsOk cs) (hf : FitsOk cs row) : ∀ x : Ex,EvC cs row x
 | .lit v => ev_lit cs row v
 | .name s p => ev_name cs row hf.1 s p
 | .un neg p x => ev_un cs row neg p x (ev_all hc hf x)
 | .bin o p x y => ev_bin cs row hc hf o p x y (ev_all hc hf x) (ev_all hc hf y)
 | .call f p l => ev_call cs row hc hf f p l (evs_all hc hf l)
theorem evs_all {cs : List Col} {row : List Val} (hc : ColsOk cs) (hf : FitsOk cs row) : ∀ l : List Ex,∀ x ∈ l,EvC cs row x
 | [],_,h => absurd h (by simp)
 | y :: l,x,h => by
   rcases List.mem_cons.1 h with h | h
   ·rw [h]; exact ev_all hc hf y
   ·exact evs_all hc hf l x h
end
end Go.Proofs.YtgajofkeidjbgaaGreatDoor
