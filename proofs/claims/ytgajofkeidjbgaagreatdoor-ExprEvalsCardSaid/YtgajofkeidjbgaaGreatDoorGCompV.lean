/-
  PROVED HERE: a part of the proof of ExprEvals: CompV.
-/
import Derived.Test.YtgajofkeidjbgaaGreatDoorShort
import Derived.Test.YtgajofkeidjbgaaGreatDoorGApp
import Derived.Test.YtgajofkeidjbgaaGreatDoorShelf
namespace Go.Proofs.YtgajofkeidjbgaaGreatDoor
set_option linter.unusedSimpArgs false
set_option linter.unusedVariables false
set_option maxRecDepth 100000
open Go.RowKit
theorem cmpK (a b : Int) (w : World) : Calls Tryz.prog 123 #[.int .i64 a,.int .i64 b] w fun e w' => e = .returned (.int .i64 (cmpI a b)) ∧ w = w' := by
 rcases Int.lt_trichotomy a b with h | h | h
 ·have hv : Hid (cmpI a b = -1) := by unfold cmpI Hid; simp [h]
  go_enter Tryz.func123,Tryz.ntmps123
  go_wp2
  go_ret
  exact ⟨ret_int hv.out.symm,rfl⟩
 ·subst h
  have hv : Hid (cmpI a a = 0) := by unfold cmpI Hid; simp
  go_enter Tryz.func123,Tryz.ntmps123
  go_wp2
  go_ret
  exact ⟨ret_int hv.out.symm,rfl⟩
 ·have hv : Hid (cmpI a b = 1) := by unfold cmpI Hid; rw [if_neg (by omega),if_pos h]
  have h' : ¬ a < b := by omega
  go_enter Tryz.func123,Tryz.ntmps123
  go_wp2
  go_ret
  exact ⟨ret_int hv.out.symm,rfl⟩
theorem cmpN (a b : Int) (w : World) : Calls Tryz.prog 124 #[.int .i64 a,.int .i64 b] w fun e w' => e = .returned (.int .i64 (cmpI a b)) ∧ w = w' := by
 rcases Int.lt_trichotomy a b with h | h | h
 ·have hv : Hid (cmpI a b = -1) := by unfold cmpI Hid; simp [h]
  go_enter Tryz.func124,Tryz.ntmps124
  go_wp2
  go_ret
  exact ⟨ret_int hv.out.symm,rfl⟩
 ·subst h
  have hv : Hid (cmpI a a = 0) := by unfold cmpI Hid; simp
  go_enter Tryz.func124,Tryz.ntmps124
  go_wp2
  go_ret
  exact ⟨ret_int hv.out.symm,rfl⟩
 ·have hv : Hid (cmpI a b = 1) := by unfold cmpI Hid; rw [if_neg (by omega),if_pos h]
  have h' : ¬ a < b := by omega
  go_enter Tryz.func124,Tryz.ntmps124
  go_wp2
  go_ret
  exact ⟨ret_int hv.out.symm,rfl⟩
theorem or_any (b : Nat) (l : List Int) (c : Nat) (w : World) (hl : l.length ≤ 100) (hc : ∀ i (h : i < l.length),w.cell? ⟨b,i,none⟩ = some (.int .i64 l[i])) :
  Calls Tryz.prog 122 #[.slice (some ⟨b,0,none⟩) l.length c] w fun e w' => e = .returned (.int .i64 (orL l)) ∧ w = w' := by
 go_enter Tryz.func122,Tryz.ntmps122
 go_wp2
 go_loop [8] (fun i => ∃ n : Nat,n ≤ l.length ∧ i = .int .i64 n ∧ ∀ j (h : j < l.length),j < n → l[j] = 0) (fun i => l.length - (intOf i).toNat)
 case atStart => exact ⟨0,by omega,rfl,fun j h h' => by omega⟩
 case round =>
  obtain ⟨n,hn,rfl,hz⟩ := hrel
  have HZ := hid hz; clear hz
  by_cases hlt : n < l.length
  ·have h1 := hc n hlt
   have HC := hid hc; clear hc
   by_cases h0 : l[n] = 0
   ·have H0 := hid h0
    rw [h0] at h1; clear h0
    go_wp2
    go_round
    case rel => 
     refine ⟨n + 1,by omega,by go_num,fun j h h' => ?_⟩
     by_cases hj : j = n
     ·subst hj; exact H0.out
     ·exact HZ.out j h (by omega)
    case measure => simp [intOf]; omega
   ·have hr : Hid (orL l = l[n]) := by
     unfold Hid orL
     have : l.find? (fun x => x != 0) = some l[n] := by
      rw [List.find?_eq_some_iff_getElem]
      exact ⟨by simpa using h0,n,hlt,rfl,fun j hj => by simpa using HZ.out j (by omega) hj⟩
     rw [this]; rfl
    have h0' : (l[n] != 0) = true := by simpa using h0
    go_wp2
    go_ret
    exact ⟨ret_int hr.out.symm,rfl⟩
  ·have hr : Hid (orL l = 0) := by
    unfold Hid orL
    have : l.find? (fun x => x != 0) = none := by
     rw [List.find?_eq_none]
     intro x hx
     obtain ⟨j,hj,rfl⟩ := List.getElem_of_mem hx
     simpa using HZ.out j hj (by omega)
    rw [this]; rfl
   clear hc
   go_wp2
   go_ret
   exact ⟨ret_int hr.out.symm,rfl⟩
theorem qcf (x y : Val) (w : World) :
  Calls Tryz.prog 105 #[x.v,y.v] w fun e w' => e = .returned (.int .i64 (qba x y)) ∧ qag w w' := by
 obtain ⟨k1,n1,t1⟩ := x
 obtain ⟨k2,n2,t2⟩ := y
 unfold qba
 go_enter Tryz.func105,Tryz.ntmps105
 go_wp2
 refine qaj (by kernel_rfl) (by kernel_rfl) qag qag.refl qag.trans (kinds [(4,fun v _ => v = .int .i64 (cmpI k1 k2)),(9,fun v _ => v = .int .i64 (cmpI n1 n2)),(14,fun v _ => v = .int .i64 (Lib.compareBytes t1.data.toList t2.data.toList)),(15,fun v w => ∃ b,v = .slice (some ⟨b,0,none⟩) 3 3 ∧ w.heap[b]? = some (.cells #[.int .i64 (cmpI k1 k2),.int .i64 (cmpI n1 n2),.int .i64 (Lib.compareBytes t1.data.toList t2.data.toList)] 3 (0,0))),(16,fun v _ => v = .int .i64 (orL [cmpI k1 k2,cmpI n1 n2,Lib.compareBytes t1.data.toList t2.data.toList]))]) (qcr (by simp only [List.mem_cons,List.not_mem_nil,or_false,forall_eq_or_imp,forall_eq]; exact ⟨fun _ _ _ _ h => h,fun _ _ _ _ h => h,fun _ _ _ _ h => h,fun _ _ _ hR ⟨b,h,h'⟩ => ⟨b,h,hR.obj h'⟩,fun _ _ _ _ h => h⟩)) ?_
 simp only [qam,Nat.reduceAdd]
 iterate 4
  first
  | (refine Lex.skip rfl ?_; simp only [Act.put,sib,List.set])
  | (refine Lex.one' rfl rfl ?_
     apply Exists.intro
     refine ⟨fun w hR hF => ?_,?_⟩
     ·have hP := hR
      repeat (first | replace hP := qag.of_drew hP | replace hP := qag.of_drewN hP | replace hP := qag.of_alloc hP)
      have hcs := hR.cells
      clear hR hF hP
      go_simp
      first | done | rfl
     simp only [Act.put,sib,List.set])
 refine Lex.anyEq rfl rfl (fun w hR hF => ?_) ?_
 ·have hP := hR
  repeat (first | replace hP := qag.of_drew hP | replace hP := qag.of_drewN hP | replace hP := qag.of_alloc hP)
  have hcs := hR.cells
  clear hF hR
  unfold Runs
  go_simp
  unfold Yield
  refine (cmpK k1 k2 _).mono ?_
  rintro e w' ⟨rfl,rfl⟩
  exact ⟨_,rfl,qag.refl _,rfl⟩
 simp only [Act.put,sib,List.set]
 iterate 4
  first
  | (refine Lex.skip rfl ?_; simp only [Act.put,sib,List.set])
  | (refine Lex.one' rfl rfl ?_
     apply Exists.intro
     refine ⟨fun w hR hF => ?_,?_⟩
     ·have hP := hR
      repeat (first | replace hP := qag.of_drew hP | replace hP := qag.of_drewN hP | replace hP := qag.of_alloc hP)
      have hcs := hR.cells
      clear hR hF hP
      go_simp
      first | done | rfl
     simp only [Act.put,sib,List.set])
 refine Lex.anyEq rfl rfl (fun w hR hF => ?_) ?_
 ·have hP := hR
  repeat (first | replace hP := qag.of_drew hP | replace hP := qag.of_drewN hP | replace hP := qag.of_alloc hP)
  have hcs := hR.cells
  clear hF hR
  unfold Runs
  go_simp
  unfold Yield
  refine (cmpN n1 n2 _).mono ?_
  rintro e w' ⟨rfl,rfl⟩
  exact ⟨_,rfl,qag.refl _,rfl⟩
 simp only [Act.put,sib,List.set]
 iterate 4
  first
  | (refine Lex.skip rfl ?_; simp only [Act.put,sib,List.set])
  | (refine Lex.one' rfl rfl ?_
     apply Exists.intro
     refine ⟨fun w hR hF => ?_,?_⟩
     ·have hP := hR
      repeat (first | replace hP := qag.of_drew hP | replace hP := qag.of_drewN hP | replace hP := qag.of_alloc hP)
      have hcs := hR.cells
      clear hR hF hP
      go_simp
      first | done | rfl
     simp only [Act.put,sib,List.set])
 refine Lex.anyEq rfl rfl (fun w hR hF => ?_) ?_
 ·have hP := hR
  repeat (first | replace hP := qag.of_drew hP | replace hP := qag.of_drewN hP | replace hP := qag.of_alloc hP)
  have hcs := hR.cells
  clear hF hR
  unfold Runs
  go_simp
  unfold Yield
  refine (Tryz.strings_Compare t1 t2 _).mono ?_
  rintro e w' ⟨rfl,rfl⟩
  exact ⟨_,rfl,qag.refl _,rfl⟩
 simp only [Act.put,sib,List.set]
 refine Lex.any rfl rfl (fun w hR hF => ?_) ?_
 ·clear hF hR
  unfold Runs
  go_simp
  exact yield_value (qag.alloc _ _) ⟨_,rfl,qap _ _⟩
 rintro v15 ⟨w2,hR2,hF2⟩
 obtain ⟨b,rfl,-⟩ := hF2 _ List.mem_cons_self _ rfl
 clear hF2 hR2 w2
 simp only [Act.put,sib,List.set]
 refine Lex.anyEq rfl rfl (fun w hR hF => ?_) ?_
 ·obtain ⟨b',hb,h15⟩ := hF _ List.mem_cons_self (by kernel_rfl) _ rfl
  simp only [Value.slice.injEq,Option.some.injEq,Addr.mk.injEq] at hb
  obtain ⟨⟨rfl,-,-⟩,-,-⟩ := hb
  clear hF hR
  unfold Runs
  go_simp
  refine yield_enter ?_
  refine (or_any b [cmpI k1 k2,cmpI n1 n2,Lib.compareBytes t1.data.toList t2.data.toList] 3 w (by simp) ?_).mono ?_
  ·intro i hi
   exact qac h15 (by simp only [List.getElem?_toArray,List.length_cons,List.length_nil] at hi ⊢; match i,hi with | 0,_ => rfl | 1,_ => rfl | 2,_ => rfl)
  ·rintro e w' ⟨rfl,rfl⟩
   exact ⟨_,rfl,qag.refl _,rfl⟩
 simp only [Act.put,sib,List.set]
 iterate 1
  first
  | (refine Lex.skip rfl ?_; simp only [Act.put,sib,List.set])
  | (refine Lex.one' rfl rfl ?_
     apply Exists.intro
     refine ⟨fun w hR hF => ?_,?_⟩
     ·have hP := hR
      repeat (first | replace hP := qag.of_drew hP | replace hP := qag.of_drewN hP | replace hP := qag.of_alloc hP)
      have hcs := hR.cells
      clear hR hF hP
      go_simp
      first | done | rfl
     simp only [Act.put,sib,List.set])
 intro w1 hR1 hF9
 clear hF9
 go_wp2
 go_ret
 repeat (first | replace hR1 := qag.of_drew hR1 | replace hR1 := qag.of_drewN hR1 | replace hR1 := qag.of_alloc hR1)
 exact ⟨rfl,hR1⟩
end Go.Proofs.YtgajofkeidjbgaaGreatDoor
