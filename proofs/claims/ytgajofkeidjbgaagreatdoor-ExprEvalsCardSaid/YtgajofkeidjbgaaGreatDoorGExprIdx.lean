/-
  PROVED HERE: a part of the proof of ExprEvals: ExprIdx, RKind1.
-/
import Derived.Test.YtgajofkeidjbgaaGreatDoorShort
import Derived.Test.YtgajofkeidjbgaaGreatDoorGExprKind
import Derived.Test.YtgajofkeidjbgaaGreatDoorGLexPlain
import Derived.Test.YtgajofkeidjbgaaGreatDoorGTabExpr
import Derived.Test.YtgajofkeidjbgaaGreatDoorGApp
import Derived.Test.YtgajofkeidjbgaaGreatDoorGRefE
namespace Go.Proofs.YtgajofkeidjbgaaGreatDoor
set_option linter.unusedSimpArgs false
set_option linter.unusedVariables false
set_option maxHeartbeats 8000000
set_option maxRecDepth 100000
open Go.RowKit
def Col.v (c : Col) : Value := .agg #[.string (qah c.s),.int .i64 c.k]
def ColC (w : World) (b o : Nat) (c : Col) : Prop := w.cell? ⟨b,o,none⟩ = some (.string (qah c.s)) ∧ w.cell? ⟨b,o + 1,none⟩ = some (.int .i64 c.k)
theorem ColC.later {w w' : World} {b o : Nat} {c : Col} (h : ColC w b o c) (k : qag w w') : ColC w' b o c := ⟨k.cell h.1,k.cell h.2⟩
abbrev ColsEl (w : World) (ao : Option Addr) (cs : List Col) : Prop := Elems (fun _ => True) ColC 2 w ao cs
theorem cols_later {w w' : World} {ao : Option Addr} {cs : List Col} (h : ColsEl w ao cs) (k : qag w w') : ColsEl w' ao cs := fun i hi => let ⟨b,o,ha,hs,hx⟩ := h i hi; ⟨b,o,ha,hs,hx.later k⟩
theorem cols_take {w : World} {ao : Option Addr} {cs : List Col} (h : ColsEl w ao cs) (n : Nat) : ColsEl w ao (cs.take n) := fun i hi => by
 have hi' : i < cs.length := by rw [List.length_take] at hi; omega
 obtain ⟨b,o,ha,hs,hx⟩ := h i hi'
 refine ⟨b,o,ha,hs,?_⟩
 rw [List.getElem_take]
 exact hx
def idxI (o : Option Nat) : Int := match o with
 | some k => (k : Int)
 | none => -1
theorem find_some {α : Type} {xs : List α} {q : α → Bool} {k : Nat} (h : k < xs.length) (hq : q xs[k] = true) (hb : ∀ j (h : j < xs.length),j < k → q xs[j] = false) : xs.findIdx? q = some k :=
 List.findIdx?_eq_some_iff_getElem.2 ⟨h,hq,fun j hj => by rw [hb j (by omega) hj]; simp⟩
theorem find_none {α : Type} {xs : List α} {q : α → Bool} (h : ∀ j (h : j < xs.length),q xs[j] = false) : xs.findIdx? q = none :=
 List.findIdx?_eq_none_iff.2 fun x hx => by obtain ⟨j,hj,rfl⟩ := List.getElem_of_mem hx; rw [h j hj]
theorem any_find {α : Type} (xs : List α) (q : α → Bool) : decide (0 ≤ idxI (xs.findIdx? q)) = xs.any q := by
 cases h : xs.findIdx? q with
 | none =>
   have h' := List.findIdx?_eq_none_iff.1 h
   rw [Bool.eq_iff_iff,List.any_eq_true]
   constructor
   ·intro h; exact absurd (of_decide_eq_true h) (by decide)
   ·rintro ⟨x,hx,hq⟩; rw [h' x hx] at hq; cases hq
 | some k =>
   obtain ⟨h1,h2,-⟩ := List.findIdx?_eq_some_iff_getElem.1 h
   rw [Bool.eq_iff_iff,List.any_eq_true]
   exact ⟨fun _ => ⟨_,List.getElem_mem h1,h2⟩,fun _ => decide_eq_true (by show (0 : Int) ≤ (k : Int); omega)⟩
theorem idxc (F : FuncId) (hent : ∀ args w,(callFunc F args).run Tryz.prog w = .ok (.enter F args) w) (caps : Array Value) (ao : Option Addr) (c : Nat) (xs : List Col) (w : World) (q : Col → Bool) (hel : ColsEl w ao xs) (hlen : xs.length ≤ 140737488355328)
  (hF : ∀ x ∈ xs,∀ w',qag w w' → Calls Tryz.prog F (#[x.v] ++ caps) w' fun e w'' => e = .returned (.bool (q x)) ∧ qag w' w'') :
  Calls Tryz.prog 85 #[.slice ao xs.length c,.func (.func F) #[] caps] w fun e w' => e = .returned (.int .i64 (idxI (xs.findIdx? q))) ∧ qag w w' := by
 have HEL := hid hel; have HLN := hid hlen; have HF := hid hF
 clear hel hlen hF
 go_enter Tryz.func85,Tryz.ntmps85
 go_wp2_with fail
 obtain ⟨R1,hR1⟩ : ∃ RR_ : (Nat → Value) → World → Prop,RR_ = (fun us wx => ∃ k : Nat,us 8 = .int .i64 k ∧ k ≤ xs.length ∧ qag w wx ∧ ∀ j (h : j < xs.length),j < k → q xs[j] = false) := ⟨_,rfl⟩
 obtain ⟨mu1,hmu1⟩ : ∃ mu : (Nat → Value) → World → Nat,mu = (fun us _ => xs.length - (intOf (us 8)).toNat) := ⟨_,rfl⟩
 have HR1 := hid hR1; have Hmu1 := hid hmu1; clear hR1 hmu1
 refine qal [ff,ff,ff,ff,true,true,ff,ff,true,true,true,true,true,true,true,true,true,true,true] R1 _ mu1 HR1.out ?_ ?_
 ·exact ⟨0,rfl,Nat.zero_le _,qag.refl _,fun j h h0 => by omega⟩
 intro us1 wx hrel
 obtain ⟨k,h8,hk,hL,hall⟩ := hrel
 simp only [qao,Nat.reduceAdd,h8]
 have Hh8 := hid h8; clear h8
 have HL := hid hL; have HK := hid hk; have HA := hid hall
 clear hL hk hall
 by_cases hlt : k < xs.length
 ·have HLT := hid hlt
  obtain ⟨b,o,rfl,-,hc⟩ := HEL.out k hlt
  obtain ⟨y,hy⟩ : ∃ y,xs[k]'HLT.out = y := ⟨_,rfl⟩
  have HY := hid hy
  have HM : Hid (y ∈ xs) := hid (hy ▸ List.getElem_mem _)
  rw [hy] at hc
  obtain ⟨p1,p2⟩ := hc.later HL.out
  have hg := qad p1
  have HWK : Hid (wrap64 ((k : Int) + 1) = ((k + 1 : Nat) : Int)) := hid (by have := HLT.out; have := HLN.out; unfold wrap64; omega)
  clear hy hc
  go_wp2_with fail
  refine (HF.out y HM.out _ HL.out).mono ?_
  rintro e w1 ⟨rfl,hL1⟩
  have HL1 := hid (qag.trans _ _ _ HL.out hL1)
  clear hL1 p1 p2 hg
  cases hq : q y with
  | true =>
    have HQ : Hid (q (xs[k]'HLT.out) = true) := hid (by rw [HY.out]; exact hq)
    clear hq
    go_wp2_with fail
    go_ret
    exact ⟨by rw [find_some HLT.out HQ.out HA.out]; rfl,HL1.out⟩
  | false =>
    have HQ : Hid (q (xs[k]'HLT.out) = false) := hid (by rw [HY.out]; exact hq)
    clear hq
    go_wp2_with fail
    try simp only [HWK.out]
    refine Round.mk' HR1.out Hmu1.out rfl ?_ ?_
    ·refine ⟨k + 1,rfl,HLT.out,HL1.out,fun j h hj => ?_⟩
     by_cases hjk : j = k
     ·subst hjk; exact HQ.out
     ·exact HA.out j h (by omega)
    ·rw [Hh8.out]; have := HLT.out; simp [intOf,qas]; omega
 ·go_wp2_with fail
  go_ret
  exact ⟨by rw [find_none fun j hj => HA.out j hj (by omega)]; rfl,HL.out⟩
theorem containsc (F : FuncId) (hent : ∀ args w,(callFunc F args).run Tryz.prog w = .ok (.enter F args) w) (caps : Array Value) (ao : Option Addr) (c : Nat) (xs : List Col) (w : World) (q : Col → Bool) (hel : ColsEl w ao xs) (hlen : xs.length ≤ 140737488355328)
  (hF : ∀ x ∈ xs,∀ w',qag w w' → Calls Tryz.prog F (#[x.v] ++ caps) w' fun e w'' => e = .returned (.bool (q x)) ∧ qag w' w'') :
  Calls Tryz.prog 84 #[.slice ao xs.length c,.func (.func F) #[] caps] w fun e w' => e = .returned (.bool (xs.any q)) ∧ qag w w' := by
 have H := hid (idxc F hent caps ao c xs w q hel hlen hF)
 clear hel hlen hF
 go_enter Tryz.func84,Tryz.ntmps84
 go_wp2_with fail
 refine H.out.mono ?_
 rintro e w1 ⟨rfl,hL1⟩
 have HL1 := hid hL1
 obtain ⟨z,hz⟩ : ∃ z,idxI (xs.findIdx? q) = z := ⟨_,rfl⟩
 have HZ : Hid (xs.any q = decide (0 ≤ z)) := hid (by rw [← hz]; exact (any_find xs q).symm)
 rw [hz]
 clear hL1 hz
 go_wp2_with fail
 refine bodyPost_ret (results_tmp rfl _ _ _) rfl ⟨?_,HL1.out⟩
 rw [HZ.out]
 rfl
theorem columns1_any (d : Col) (s : List UInt8) (C : Nat) (w : World) (h : w.cell? ⟨C,0,none⟩ = some (.string (qah s))) : Calls Tryz.prog 82 #[d.v,.pointer (some ⟨C,0,none⟩)] w fun e w' => e = .returned (.bool (d.s == s)) ∧ qag w w' := by
 have hlt := qad h
 have hs : ((qah d.s).toList == (qah s).toList) = (d.s == s) := by rw [qan,qan]
 unfold Col.v
 go_enter Tryz.func82,Tryz.ntmps82
 go_upto_region 1 with (fail)
 obtain ⟨w1,hw1⟩ : ∃ w1,w1 = w.alloc (.cells #[.string (qah d.s),.int .i64 d.k] 35) := ⟨_,rfl⟩
 have hL : qag w w1 := hw1 ▸ qag.alloc _ _
 obtain ⟨D,hD⟩ : ∃ D,D = w.heap.size := ⟨_,rfl⟩
 have ho : w1.heap[D]? = some (.cells #[.string (qah d.s),.int .i64 d.k] 35 (0,0)) := by rw [hw1,hD]; exact qap _ _
 rw [← hw1,← hD]
 have d0 : w1.cell? ⟨D,0,none⟩ = some (.string (qah d.s)) := qac (i := 0) ho rfl
 have hl1 := qad d0
 replace h := hL.cell h
 replace hlt := qad h
 have HL := hid hL
 clear hw1 hD ho hL
 go_wp2_with fail
 exact bodyPost_ret (results_tmp rfl _ _ _) rfl ⟨rfl,HL.out⟩
theorem kindof1_any (d : Col) (s : List UInt8) (C N : Nat) (w : World) (h : w.cell? ⟨C,0,none⟩ = some (.pointer (some ⟨N,0,none⟩))) (hn : w.cell? ⟨N,0,none⟩ = some (.string (qah s))) : Calls Tryz.prog 86 #[d.v,.pointer (some ⟨C,0,none⟩)] w fun e w' => e = .returned (.bool (d.s == s)) ∧ qag w w' := by
 have hs : ((qah d.s).toList == (qah s).toList) = (d.s == s) := by rw [qan,qan]
 unfold Col.v
 go_enter Tryz.func86,Tryz.ntmps86
 go_upto_region 1 with (fail)
 obtain ⟨w1,hw1⟩ : ∃ w1,w1 = w.alloc (.cells #[.string (qah d.s),.int .i64 d.k] 35) := ⟨_,rfl⟩
 have hL : qag w w1 := hw1 ▸ qag.alloc _ _
 obtain ⟨D,hD⟩ : ∃ D,D = w.heap.size := ⟨_,rfl⟩
 have ho : w1.heap[D]? = some (.cells #[.string (qah d.s),.int .i64 d.k] 35 (0,0)) := by rw [hw1,hD]; exact qap _ _
 rw [← hw1,← hD]
 have d0 : w1.cell? ⟨D,0,none⟩ = some (.string (qah d.s)) := qac (i := 0) ho rfl
 replace h := hL.cell h
 replace hn := hL.cell hn
 have HL := hid hL
 clear hw1 hD ho hL
 refine qaj (by kernel_rfl) (by kernel_rfl) qag qag.refl qag.trans (fun _ => none) (fun _ _ _ _ _ h => by cases h) ?_
 simp only [qam,Nat.reduceAdd]
 refine LexS.out ?_
 iterate 8
  first
  | (refine LexS.skip rfl ?_; simp only [Act.put,sib,List.set])
  | (refine LexS.one' rfl rfl ?_
     apply Exists.intro
     refine ⟨fun w hR hF => ?_,?_⟩
     ·have hP := hR
      repeat (first | replace hP := qag.of_drew hP | replace hP := qag.of_drewN hP | replace hP := qag.of_alloc hP)
      have hcs := hR.cells
      have zd0 := hP.cell d0
      have zh := hP.cell h
      have zhn := hP.cell hn
      clear hR hF hP
      go_simp
      first | done | rfl
     simp only [Act.put,sib,List.set])
 refine LexS.nil ?_
 intro w2 hL2 hF9
 clear hF9
 repeat (first | replace hL2 := qag.of_drew hL2 | replace hL2 := qag.of_drewN hL2 | replace hL2 := qag.of_alloc hL2)
 have HL2 := hid (qag.trans _ _ _ HL.out hL2)
 clear hL2
 go_wp2_with fail
 exact bodyPost_ret (results_tmp rfl _ _ _) rfl ⟨rfl,HL2.out⟩
theorem rat_any (ao : Option Addr) (c : Nat) (xs : List Col) (s : List UInt8) (w : World) (hel : ColsEl w ao xs) (hlen : xs.length ≤ 140737488355328) : Calls Tryz.prog 33 #[.slice ao xs.length c,.string (qah s)] w fun e w' => e = .returned (.int .i64 (idxI (colAt xs s))) ∧ w' = w := by
 have HEL := hid hel; have HLN := hid hlen
 clear hel hlen
 go_enter Tryz.func33,Tryz.ntmps33
 go_wp2_with fail
 obtain ⟨R1,hR1⟩ : ∃ RR_ : (Nat → Value) → World → Prop,RR_ = (fun us wx => ∃ k : Nat,us 5 = .int .i64 k ∧ k ≤ xs.length ∧ wx = w ∧ ∀ j (h : j < xs.length),j < k → (xs[j].s == s) = false) := ⟨_,rfl⟩
 obtain ⟨mu1,hmu1⟩ : ∃ mu : (Nat → Value) → World → Nat,mu = (fun us _ => xs.length - (intOf (us 5)).toNat) := ⟨_,rfl⟩
 have HR1 := hid hR1; have Hmu1 := hid hmu1; clear hR1 hmu1
 refine qal [ff,ff,ff,ff,true,true,true,true,true,true,true,true,true,true,true,true,true,true,true,true] R1 _ mu1 HR1.out ?_ ?_
 ·exact ⟨0,rfl,Nat.zero_le _,rfl,fun j h h0 => by omega⟩
 intro us1 wx hrel
 obtain ⟨k,h5,hk,hwx,hall⟩ := hrel
 simp only [qao,Nat.reduceAdd,h5]
 have Hh5 := hid h5; clear h5
 subst hwx
 have HK := hid hk; have HA := hid hall
 clear hk hall
 by_cases hlt : k < xs.length
 ·have HLT := hid hlt
  obtain ⟨b,o,rfl,-,hc⟩ := HEL.out k hlt
  obtain ⟨y,hy⟩ : ∃ y,xs[k]'HLT.out = y := ⟨_,rfl⟩
  have HY := hid hy
  rw [hy] at hc
  obtain ⟨p1,p2⟩ := hc
  have hg := qad p1
  have HWK : Hid (wrap64 ((k : Int) + 1) = ((k + 1 : Nat) : Int)) := hid (by have := HLT.out; have := HLN.out; unfold wrap64; omega)
  obtain ⟨bs,hbs⟩ : ∃ b,(y.s == s) = b := ⟨_,rfl⟩
  have hs : ((qah y.s).toList == (qah s).toList) = bs := by rw [qan,qan]; exact hbs
  have HBS : Hid (((xs[k]'HLT.out).s == s) = bs) := hid (by rw [HY.out]; exact hbs)
  clear hy hbs
  cases bs with
  | true =>
    go_wp2_with fail
    go_ret
    exact ⟨by unfold colAt; rw [find_some HLT.out HBS.out HA.out]; rfl,rfl⟩
  | false =>
    go_wp2_with fail
    try simp only [HWK.out]
    refine Round.mk' HR1.out Hmu1.out rfl ?_ ?_
    ·refine ⟨k + 1,rfl,HLT.out,rfl,fun j h hj => ?_⟩
     by_cases hjk : j = k
     ·subst hjk; exact HBS.out
     ·exact HA.out j h (by omega)
    ·rw [Hh5.out]; have := HLT.out; simp [intOf,qas]; omega
 ·go_wp2_with fail
  go_ret
  exact ⟨by unfold colAt; rw [find_none fun j hj => HA.out j hj (by omega)]; rfl,rfl⟩
def argN (f : List UInt8) : Int := match qem f with
 | none => -1
 | some a => a.1.length
theorem rargs_any (s : List UInt8) (w : World) : Calls Tryz.prog 59 #[.string (qah s)] w fun e w' => e = .returned (.int .i64 (argN s)) ∧ w' = w := by
 obtain ⟨b0,h0⟩ : ∃ b,decide (s = [108,101,110]) = b := ⟨_,rfl⟩
 have e0 : ((qah s).toList == [108,101,110]) = b0 := by rw [qan,← h0,Bool.eq_iff_iff]; simp
 obtain ⟨b1,h1⟩ : ∃ b,decide (s = [97,98,115]) = b := ⟨_,rfl⟩
 have e1 : ((qah s).toList == [97,98,115]) = b1 := by rw [qan,← h1,Bool.eq_iff_iff]; simp
 obtain ⟨b2,h2⟩ : ∃ b,decide (s = [105,115,110,117,108,108]) = b := ⟨_,rfl⟩
 have e2 : ((qah s).toList == [105,115,110,117,108,108]) = b2 := by rw [qan,← h2,Bool.eq_iff_iff]; simp
 obtain ⟨b3,h3⟩ : ∃ b,decide (s = [99,117,116]) = b := ⟨_,rfl⟩
 have e3 : ((qah s).toList == [99,117,116]) = b3 := by rw [qan,← h3,Bool.eq_iff_iff]; simp
 obtain ⟨b4,h4⟩ : ∃ b,decide (s = [99,111,97,108,101,115,99,101]) = b := ⟨_,rfl⟩
 have e4 : ((qah s).toList == [99,111,97,108,101,115,99,101]) = b4 := by rw [qan,← h4,Bool.eq_iff_iff]; simp
 obtain ⟨b5,h5⟩ : ∃ b,decide (s = [105,102]) = b := ⟨_,rfl⟩
 have e5 : ((qah s).toList == [105,102]) = b5 := by rw [qan,← h5,Bool.eq_iff_iff]; simp
 have HV : Hid (argN s = if b0 = true then 1 else if b1 = true then 1 else if b2 = true then 1 else if b3 = true then 2 else if b4 = true then 2 else if b5 = true then 3 else (-1 : Int)) := hid (by
  rw [← h0,← h1,← h2,← h3,← h4,← h5]
  simp only [decide_eq_true_eq]
  by_cases g0 : s = lenW
  ·subst g0; decide
  by_cases g1 : s = absW
  ·subst g1; decide
  by_cases g2 : s = qbv
  ·subst g2; decide
  by_cases g3 : s = cutW
  ·subst g3; decide
  by_cases g4 : s = coalW
  ·subst g4; decide
  by_cases g5 : s = ifW
  ·subst g5; decide
  rw [if_neg g0,if_neg g1,if_neg g2,if_neg g3,if_neg g4,if_neg g5]
  unfold argN qem
  rw [if_neg g0,if_neg g1,if_neg g3,if_neg g2,if_neg g4,if_neg g5])
 clear h0 h1 h2 h3 h4 h5
 go_enter Tryz.func59,Tryz.ntmps59
 cases b0 with
 | true =>
   go_wp2_with fail
   exact bodyPost_ret (results_tmp rfl _ _ _) rfl ⟨by rw [HV.out]; rfl,rfl⟩
 | false =>
   cases b1 with
   | true =>
     go_wp2_with fail
     exact bodyPost_ret (results_tmp rfl _ _ _) rfl ⟨by rw [HV.out]; rfl,rfl⟩
   | false =>
     cases b2 with
     | true =>
       go_wp2_with fail
       exact bodyPost_ret (results_tmp rfl _ _ _) rfl ⟨by rw [HV.out]; rfl,rfl⟩
     | false =>
       cases b3 with
       | true =>
         go_wp2_with fail
         exact bodyPost_ret (results_tmp rfl _ _ _) rfl ⟨by rw [HV.out]; rfl,rfl⟩
       | false =>
         cases b4 with
         | true =>
           go_wp2_with fail
           exact bodyPost_ret (results_tmp rfl _ _ _) rfl ⟨by rw [HV.out]; rfl,rfl⟩
         | false =>
           cases b5 with
           | true =>
             go_wp2_with fail
             exact bodyPost_ret (results_tmp rfl _ _ _) rfl ⟨by rw [HV.out]; rfl,rfl⟩
           | false =>
             go_wp2_with fail
             exact bodyPost_ret (results_tmp rfl _ _ _) rfl ⟨by rw [HV.out]; rfl,rfl⟩
def qdc (w : World) (b : Nat) (ks : List Int) : Prop := w.heap[b]? = some (.cells #[.int .i64 (ks.getD 0 0),.int .i64 (ks.getD 1 0),.int .i64 (ks.getD 2 0),.int .i64 (ks.getD 3 0)] 33 (0,0))
def ResTo (k : Option Int) (w : World) (e : Ending) (w' : World) : Prop := e = .returned (.int .i64 (k.getD 0)) ∧ qag w w'
theorem qcl (a b : Int) : (a == b) = decide (a = b) := by rw [Bool.eq_iff_iff]; simp
theorem callD_len {f : List UInt8} {ks : List Int} {k : Int} (h : callD f ks = some k) : argN f = ks.length := by
 unfold callD at h
 unfold argN qem
 by_cases g0 : f = lenW
 ·rw [if_pos g0] at h ⊢
  split at h
  ·rename_i e; rw [e]
  ·cases h
 rw [if_neg g0] at h ⊢
 by_cases g1 : f = absW
 ·rw [if_pos g1] at h ⊢
  split at h
  ·rename_i e; rw [e]
  ·cases h
 rw [if_neg g1] at h ⊢
 by_cases g2 : f = cutW
 ·rw [if_pos g2] at h ⊢
  split at h
  ·rename_i e; rw [e]
  ·cases h
 rw [if_neg g2] at h ⊢
 by_cases g3 : f = qbv
 ·rw [if_pos g3] at h ⊢
  split at h
  ·rename_i e; rw [e]; rfl
  ·cases h
 rw [if_neg g3] at h ⊢
 by_cases g4 : f = coalW
 ·rw [if_pos g4] at h ⊢
  split at h
  ·rfl
  ·cases h
 rw [if_neg g4] at h ⊢
 by_cases g5 : f = ifW
 ·rw [if_pos g5] at h ⊢
  split at h
  ·rfl
  ·cases h
 rw [if_neg g5] at h
 cases h
theorem rres_minus (B b : Nat) (n : Int) (ks : List Int) (w : World) (hb : w.cell? ⟨B,0,none⟩ = some (.string (qah minusN))) (hk : qdc w b ks) : Calls Tryz.prog 60 #[.pointer (some ⟨B,0,none⟩),.int .i64 n,.slice (some ⟨b,0,none⟩) 4 4] w (ResTo (if ks.getD 0 0 = 1 then some 1 else none) w) := by
 obtain ⟨sv,hsv⟩ : ∃ s,s = qah minusN := ⟨_,rfl⟩
 rw [← hsv] at hb
 have e1 := qab [110,111,116] hsv (by decide)
 have e2 : (sv.toList == [109,105,110,117,115]) = true := qay minusN hsv
 obtain ⟨k0,h0⟩ : ∃ k,ks.getD 0 0 = k := ⟨_,rfl⟩
 have c0 : w.cell? ⟨b,0,none⟩ = some (.int .i64 k0) := by rw [← h0]; exact qac (i := 0) hk rfl
 rw [h0]
 have hlt := qad hb
 have hlt2 := qad c0
 obtain ⟨q0,hq0⟩ : ∃ q,(k0 == 1) = q := ⟨_,rfl⟩
 obtain ⟨kr,hkr⟩ : ∃ r,(if k0 = 1 then some (1 : Int) else none) = r := ⟨_,rfl⟩
 have HQ : Hid (kr = if q0 = true then some 1 else none) := hid (by rw [← hkr,← hq0,qcl]; simp)
 rw [hkr]
 clear hkr
 clear hk hsv h0
 go_enter Tryz.func60,Tryz.ntmps60
 cases q0 <;>
 ·go_wp2_with fail
  exact bodyPost_ret (results_tmp rfl _ _ _) rfl ⟨by rw [HQ.out]; rfl,qag.refl _⟩
theorem rres_not (B b : Nat) (n : Int) (ks : List Int) (w : World) (hb : w.cell? ⟨B,0,none⟩ = some (.string (qah notW))) (hk : qdc w b ks) : Calls Tryz.prog 60 #[.pointer (some ⟨B,0,none⟩),.int .i64 n,.slice (some ⟨b,0,none⟩) 4 4] w (ResTo (if ks.getD 0 0 = 2 then some 2 else none) w) := by
 obtain ⟨sv,hsv⟩ : ∃ s,s = qah notW := ⟨_,rfl⟩
 rw [← hsv] at hb
 have e1 : (sv.toList == [110,111,116]) = true := qay notW hsv
 obtain ⟨k0,h0⟩ : ∃ k,ks.getD 0 0 = k := ⟨_,rfl⟩
 have c0 : w.cell? ⟨b,0,none⟩ = some (.int .i64 k0) := by rw [← h0]; exact qac (i := 0) hk rfl
 rw [h0]
 have hlt := qad hb
 have hlt2 := qad c0
 obtain ⟨q0,hq0⟩ : ∃ q,(k0 == 2) = q := ⟨_,rfl⟩
 obtain ⟨kr,hkr⟩ : ∃ r,(if k0 = 2 then some (2 : Int) else none) = r := ⟨_,rfl⟩
 have HQ : Hid (kr = if q0 = true then some 2 else none) := hid (by rw [← hkr,← hq0,qcl]; simp)
 rw [hkr]
 clear hkr
 clear hk hsv h0
 go_enter Tryz.func60,Tryz.ntmps60
 cases q0 <;>
 ·go_wp2_with fail
  exact bodyPost_ret (results_tmp rfl _ _ _) rfl ⟨by rw [HQ.out]; rfl,qag.refl _⟩
theorem rres_bin (o : List UInt8) (ho : o ∈ opsW) (B b : Nat) (n : Int) (ks : List Int) (w : World) (hb : w.cell? ⟨B,0,none⟩ = some (.string (qah o))) (hk : qdc w b ks) : Calls Tryz.prog 60 #[.pointer (some ⟨B,0,none⟩),.int .i64 n,.slice (some ⟨b,0,none⟩) 4 4] w (ResTo (binK o (ks.getD 0 0) (ks.getD 1 0)) w) := by
 obtain ⟨sv,hsv⟩ : ∃ s,s = qah o := ⟨_,rfl⟩
 rw [← hsv] at hb
 obtain ⟨k0,h0⟩ : ∃ k,ks.getD 0 0 = k := ⟨_,rfl⟩
 obtain ⟨k1,h1⟩ : ∃ k,ks.getD 1 0 = k := ⟨_,rfl⟩
 have c0 : w.cell? ⟨b,0,none⟩ = some (.int .i64 k0) := by rw [← h0]; exact qac (i := 0) hk rfl
 have c1 : w.cell? ⟨b,1,none⟩ = some (.int .i64 k1) := by rw [← h1]; exact qac (i := 1) hk rfl
 rw [h0,h1]
 have hlt := qad hb
 have hlt2 := qad c0
 clear hk h0 h1
 rcases opsW_cases ho with rfl | rfl | rfl | rfl | rfl | rfl | rfl | rfl | rfl | rfl | rfl | rfl | rfl | rfl
 ·have e0 := qab [110,111,116] hsv (by decide)
  have e1 := qab [109,105,110,117,115] hsv (by decide)
  have e2 := qab [97,110,100] hsv (by decide)
  have e3 := qay [111,114] hsv
  obtain ⟨q0,hq0⟩ : ∃ q,(k0 == 2) = q := ⟨_,rfl⟩
  obtain ⟨q1,hq1⟩ : ∃ q,(k1 == 2) = q := ⟨_,rfl⟩
  have HQ : Hid ((if k0 = 2 ∧ k1 = 2 then some (2 : Int) else none) = if (q0 && q1) = true then some 2 else none) := hid (by rw [← hq0,← hq1,qcl,qcl]; simp)
  have HB : Hid (binK orW k0 k1 = if k0 = 2 ∧ k1 = 2 then some 2 else none) := hid rfl
  clear hsv
  go_enter Tryz.func60,Tryz.ntmps60
  cases q0 <;> cases q1 <;>
  ·go_wp2_with fail
   exact bodyPost_ret (results_tmp rfl _ _ _) rfl ⟨by rw [HB.out,HQ.out]; rfl,qag.refl _⟩
 ·have e0 := qab [110,111,116] hsv (by decide)
  have e1 := qab [109,105,110,117,115] hsv (by decide)
  have e2 := qay [97,110,100] hsv
  obtain ⟨q0,hq0⟩ : ∃ q,(k0 == 2) = q := ⟨_,rfl⟩
  obtain ⟨q1,hq1⟩ : ∃ q,(k1 == 2) = q := ⟨_,rfl⟩
  have HQ : Hid ((if k0 = 2 ∧ k1 = 2 then some (2 : Int) else none) = if (q0 && q1) = true then some 2 else none) := hid (by rw [← hq0,← hq1,qcl,qcl]; simp)
  have HB : Hid (binK andW k0 k1 = if k0 = 2 ∧ k1 = 2 then some 2 else none) := hid rfl
  clear hsv
  go_enter Tryz.func60,Tryz.ntmps60
  cases q0 <;> cases q1 <;>
  ·go_wp2_with fail
   exact bodyPost_ret (results_tmp rfl _ _ _) rfl ⟨by rw [HB.out,HQ.out]; rfl,qag.refl _⟩
 ·have e0 := qab [110,111,116] hsv (by decide)
  have e1 := qab [109,105,110,117,115] hsv (by decide)
  have e2 := qab [97,110,100] hsv (by decide)
  have e3 := qab [111,114] hsv (by decide)
  have e4 := qab [43,43] hsv (by decide)
  have e5 := qab [99,97,108,108] hsv (by decide)
  have HSV := hid hsv
  clear hsv
  obtain ⟨q0,hq0⟩ : ∃ q,(k0 == k1) = q := ⟨_,rfl⟩
  have HQ : Hid ((if k1 = k0 then some (2 : Int) else none) = if q0 = true then some 2 else none) := hid (by rw [← hq0,qcl]; simp only [eq_comm (a := k1) (b := k0)]; simp)
  have HB : Hid (binK [61] k0 k1 = if k1 = k0 then some 2 else none) := hid rfl
  go_enter Tryz.func60,Tryz.ntmps60
  go_wp2_with fail
  rw [HSV.out]
  refine (qdg [61] w).mono ?_
  rintro e w' ⟨rfl,hw'⟩
  subst w'
  rw [show powS [61] = 4 from by decide]
  clear e0 e1 e2 e3 e4 e5
  go_upto_region 6 with (fail)
  refine qaj (by kernel_rfl) (by kernel_rfl) qag qag.refl qag.trans (fun _ => none) (fun _ _ _ _ _ h => by cases h) ?_
  simp only [qam,Nat.reduceAdd]
  refine LexS.out ?_
  iterate 8
   first
   | (refine LexS.skip rfl ?_; simp only [Act.put,sib,List.set])
   | (refine LexS.one' rfl rfl ?_
      apply Exists.intro
      refine ⟨fun w hR hF => ?_,?_⟩
      ·have hP := hR
       repeat (first | replace hP := qag.of_drew hP | replace hP := qag.of_drewN hP | replace hP := qag.of_alloc hP)
       have hcs := hR.cells
       have zc0 := hP.cell c0
       have zc1 := hP.cell c1
       clear hR hF hP
       go_simp
       first | done | rfl
      simp only [Act.put,sib,List.set])
  refine LexS.nil ?_
  intro w2 hL2 hF9
  clear hF9
  repeat (first | replace hL2 := qag.of_drew hL2 | replace hL2 := qag.of_drewN hL2 | replace hL2 := qag.of_alloc hL2)
  have HL2 := hid hL2
  clear hL2 c0 c1 hlt hlt2 hb
  try rw [hq0]
  clear hq0
  cases q0 <;>
  ·go_wp2_with fail
   exact bodyPost_ret (results_tmp rfl _ _ _) rfl ⟨by rw [HB.out,HQ.out]; rfl,HL2.out⟩
 ·have e0 := qab [110,111,116] hsv (by decide)
  have e1 := qab [109,105,110,117,115] hsv (by decide)
  have e2 := qab [97,110,100] hsv (by decide)
  have e3 := qab [111,114] hsv (by decide)
  have e4 := qab [43,43] hsv (by decide)
  have e5 := qab [99,97,108,108] hsv (by decide)
  have HSV := hid hsv
  clear hsv
  obtain ⟨q0,hq0⟩ : ∃ q,(k0 == k1) = q := ⟨_,rfl⟩
  have HQ : Hid ((if k1 = k0 then some (2 : Int) else none) = if q0 = true then some 2 else none) := hid (by rw [← hq0,qcl]; simp only [eq_comm (a := k1) (b := k0)]; simp)
  have HB : Hid (binK [60,62] k0 k1 = if k1 = k0 then some 2 else none) := hid rfl
  go_enter Tryz.func60,Tryz.ntmps60
  go_wp2_with fail
  rw [HSV.out]
  refine (qdg [60,62] w).mono ?_
  rintro e w' ⟨rfl,hw'⟩
  subst w'
  rw [show powS [60,62] = 4 from by decide]
  clear e0 e1 e2 e3 e4 e5
  go_upto_region 6 with (fail)
  refine qaj (by kernel_rfl) (by kernel_rfl) qag qag.refl qag.trans (fun _ => none) (fun _ _ _ _ _ h => by cases h) ?_
  simp only [qam,Nat.reduceAdd]
  refine LexS.out ?_
  iterate 8
   first
   | (refine LexS.skip rfl ?_; simp only [Act.put,sib,List.set])
   | (refine LexS.one' rfl rfl ?_
      apply Exists.intro
      refine ⟨fun w hR hF => ?_,?_⟩
      ·have hP := hR
       repeat (first | replace hP := qag.of_drew hP | replace hP := qag.of_drewN hP | replace hP := qag.of_alloc hP)
       have hcs := hR.cells
       have zc0 := hP.cell c0
       have zc1 := hP.cell c1
       clear hR hF hP
       go_simp
       first | done | rfl
      simp only [Act.put,sib,List.set])
  refine LexS.nil ?_
  intro w2 hL2 hF9
  clear hF9
  repeat (first | replace hL2 := qag.of_drew hL2 | replace hL2 := qag.of_drewN hL2 | replace hL2 := qag.of_alloc hL2)
  have HL2 := hid hL2
  clear hL2 c0 c1 hlt hlt2 hb
  try rw [hq0]
  clear hq0
  cases q0 <;>
  ·go_wp2_with fail
   exact bodyPost_ret (results_tmp rfl _ _ _) rfl ⟨by rw [HB.out,HQ.out]; rfl,HL2.out⟩
 ·have e0 := qab [110,111,116] hsv (by decide)
  have e1 := qab [109,105,110,117,115] hsv (by decide)
  have e2 := qab [97,110,100] hsv (by decide)
  have e3 := qab [111,114] hsv (by decide)
  have e4 := qab [43,43] hsv (by decide)
  have e5 := qab [99,97,108,108] hsv (by decide)
  have HSV := hid hsv
  clear hsv
  obtain ⟨q0,hq0⟩ : ∃ q,(k0 == k1) = q := ⟨_,rfl⟩
  have HQ : Hid ((if k1 = k0 then some (2 : Int) else none) = if q0 = true then some 2 else none) := hid (by rw [← hq0,qcl]; simp only [eq_comm (a := k1) (b := k0)]; simp)
  have HB : Hid (binK [60] k0 k1 = if k1 = k0 then some 2 else none) := hid rfl
  go_enter Tryz.func60,Tryz.ntmps60
  go_wp2_with fail
  rw [HSV.out]
  refine (qdg [60] w).mono ?_
  rintro e w' ⟨rfl,hw'⟩
  subst w'
  rw [show powS [60] = 4 from by decide]
  clear e0 e1 e2 e3 e4 e5
  go_upto_region 6 with (fail)
  refine qaj (by kernel_rfl) (by kernel_rfl) qag qag.refl qag.trans (fun _ => none) (fun _ _ _ _ _ h => by cases h) ?_
  simp only [qam,Nat.reduceAdd]
  refine LexS.out ?_
  iterate 8
   first
   | (refine LexS.skip rfl ?_; simp only [Act.put,sib,List.set])
   | (refine LexS.one' rfl rfl ?_
      apply Exists.intro
      refine ⟨fun w hR hF => ?_,?_⟩
      ·have hP := hR
       repeat (first | replace hP := qag.of_drew hP | replace hP := qag.of_drewN hP | replace hP := qag.of_alloc hP)
       have hcs := hR.cells
       have zc0 := hP.cell c0
       have zc1 := hP.cell c1
       clear hR hF hP
       go_simp
       first | done | rfl
      simp only [Act.put,sib,List.set])
  refine LexS.nil ?_
  intro w2 hL2 hF9
  clear hF9
  repeat (first | replace hL2 := qag.of_drew hL2 | replace hL2 := qag.of_drewN hL2 | replace hL2 := qag.of_alloc hL2)
  have HL2 := hid hL2
  clear hL2 c0 c1 hlt hlt2 hb
  try rw [hq0]
  clear hq0
  cases q0 <;>
  ·go_wp2_with fail
   exact bodyPost_ret (results_tmp rfl _ _ _) rfl ⟨by rw [HB.out,HQ.out]; rfl,HL2.out⟩
 ·have e0 := qab [110,111,116] hsv (by decide)
  have e1 := qab [109,105,110,117,115] hsv (by decide)
  have e2 := qab [97,110,100] hsv (by decide)
  have e3 := qab [111,114] hsv (by decide)
  have e4 := qab [43,43] hsv (by decide)
  have e5 := qab [99,97,108,108] hsv (by decide)
  have HSV := hid hsv
  clear hsv
  obtain ⟨q0,hq0⟩ : ∃ q,(k0 == k1) = q := ⟨_,rfl⟩
  have HQ : Hid ((if k1 = k0 then some (2 : Int) else none) = if q0 = true then some 2 else none) := hid (by rw [← hq0,qcl]; simp only [eq_comm (a := k1) (b := k0)]; simp)
  have HB : Hid (binK [60,61] k0 k1 = if k1 = k0 then some 2 else none) := hid rfl
  go_enter Tryz.func60,Tryz.ntmps60
  go_wp2_with fail
  rw [HSV.out]
  refine (qdg [60,61] w).mono ?_
  rintro e w' ⟨rfl,hw'⟩
  subst w'
  rw [show powS [60,61] = 4 from by decide]
  clear e0 e1 e2 e3 e4 e5
  go_upto_region 6 with (fail)
  refine qaj (by kernel_rfl) (by kernel_rfl) qag qag.refl qag.trans (fun _ => none) (fun _ _ _ _ _ h => by cases h) ?_
  simp only [qam,Nat.reduceAdd]
  refine LexS.out ?_
  iterate 8
   first
   | (refine LexS.skip rfl ?_; simp only [Act.put,sib,List.set])
   | (refine LexS.one' rfl rfl ?_
      apply Exists.intro
      refine ⟨fun w hR hF => ?_,?_⟩
      ·have hP := hR
       repeat (first | replace hP := qag.of_drew hP | replace hP := qag.of_drewN hP | replace hP := qag.of_alloc hP)
       have hcs := hR.cells
       have zc0 := hP.cell c0
       have zc1 := hP.cell c1
       clear hR hF hP
       go_simp
       first | done | rfl
      simp only [Act.put,sib,List.set])
  refine LexS.nil ?_
  intro w2 hL2 hF9
  clear hF9
  repeat (first | replace hL2 := qag.of_drew hL2 | replace hL2 := qag.of_drewN hL2 | replace hL2 := qag.of_alloc hL2)
  have HL2 := hid hL2
  clear hL2 c0 c1 hlt hlt2 hb
  try rw [hq0]
  clear hq0
  cases q0 <;>
  ·go_wp2_with fail
   exact bodyPost_ret (results_tmp rfl _ _ _) rfl ⟨by rw [HB.out,HQ.out]; rfl,HL2.out⟩
 ·have e0 := qab [110,111,116] hsv (by decide)
  have e1 := qab [109,105,110,117,115] hsv (by decide)
  have e2 := qab [97,110,100] hsv (by decide)
  have e3 := qab [111,114] hsv (by decide)
  have e4 := qab [43,43] hsv (by decide)
  have e5 := qab [99,97,108,108] hsv (by decide)
  have HSV := hid hsv
  clear hsv
  obtain ⟨q0,hq0⟩ : ∃ q,(k0 == k1) = q := ⟨_,rfl⟩
  have HQ : Hid ((if k1 = k0 then some (2 : Int) else none) = if q0 = true then some 2 else none) := hid (by rw [← hq0,qcl]; simp only [eq_comm (a := k1) (b := k0)]; simp)
  have HB : Hid (binK [62] k0 k1 = if k1 = k0 then some 2 else none) := hid rfl
  go_enter Tryz.func60,Tryz.ntmps60
  go_wp2_with fail
  rw [HSV.out]
  refine (qdg [62] w).mono ?_
  rintro e w' ⟨rfl,hw'⟩
  subst w'
  rw [show powS [62] = 4 from by decide]
  clear e0 e1 e2 e3 e4 e5
  go_upto_region 6 with (fail)
  refine qaj (by kernel_rfl) (by kernel_rfl) qag qag.refl qag.trans (fun _ => none) (fun _ _ _ _ _ h => by cases h) ?_
  simp only [qam,Nat.reduceAdd]
  refine LexS.out ?_
  iterate 8
   first
   | (refine LexS.skip rfl ?_; simp only [Act.put,sib,List.set])
   | (refine LexS.one' rfl rfl ?_
      apply Exists.intro
      refine ⟨fun w hR hF => ?_,?_⟩
      ·have hP := hR
       repeat (first | replace hP := qag.of_drew hP | replace hP := qag.of_drewN hP | replace hP := qag.of_alloc hP)
       have hcs := hR.cells
       have zc0 := hP.cell c0
       have zc1 := hP.cell c1
       clear hR hF hP
       go_simp
       first | done | rfl
      simp only [Act.put,sib,List.set])
  refine LexS.nil ?_
  intro w2 hL2 hF9
  clear hF9
  repeat (first | replace hL2 := qag.of_drew hL2 | replace hL2 := qag.of_drewN hL2 | replace hL2 := qag.of_alloc hL2)
  have HL2 := hid hL2
  clear hL2 c0 c1 hlt hlt2 hb
  try rw [hq0]
  clear hq0
  cases q0 <;>
  ·go_wp2_with fail
   exact bodyPost_ret (results_tmp rfl _ _ _) rfl ⟨by rw [HB.out,HQ.out]; rfl,HL2.out⟩
 ·have e0 := qab [110,111,116] hsv (by decide)
  have e1 := qab [109,105,110,117,115] hsv (by decide)
  have e2 := qab [97,110,100] hsv (by decide)
  have e3 := qab [111,114] hsv (by decide)
  have e4 := qab [43,43] hsv (by decide)
  have e5 := qab [99,97,108,108] hsv (by decide)
  have HSV := hid hsv
  clear hsv
  obtain ⟨q0,hq0⟩ : ∃ q,(k0 == k1) = q := ⟨_,rfl⟩
  have HQ : Hid ((if k1 = k0 then some (2 : Int) else none) = if q0 = true then some 2 else none) := hid (by rw [← hq0,qcl]; simp only [eq_comm (a := k1) (b := k0)]; simp)
  have HB : Hid (binK [62,61] k0 k1 = if k1 = k0 then some 2 else none) := hid rfl
  go_enter Tryz.func60,Tryz.ntmps60
  go_wp2_with fail
  rw [HSV.out]
  refine (qdg [62,61] w).mono ?_
  rintro e w' ⟨rfl,hw'⟩
  subst w'
  rw [show powS [62,61] = 4 from by decide]
  clear e0 e1 e2 e3 e4 e5
  go_upto_region 6 with (fail)
  refine qaj (by kernel_rfl) (by kernel_rfl) qag qag.refl qag.trans (fun _ => none) (fun _ _ _ _ _ h => by cases h) ?_
  simp only [qam,Nat.reduceAdd]
  refine LexS.out ?_
  iterate 8
   first
   | (refine LexS.skip rfl ?_; simp only [Act.put,sib,List.set])
   | (refine LexS.one' rfl rfl ?_
      apply Exists.intro
      refine ⟨fun w hR hF => ?_,?_⟩
      ·have hP := hR
       repeat (first | replace hP := qag.of_drew hP | replace hP := qag.of_drewN hP | replace hP := qag.of_alloc hP)
       have hcs := hR.cells
       have zc0 := hP.cell c0
       have zc1 := hP.cell c1
       clear hR hF hP
       go_simp
       first | done | rfl
      simp only [Act.put,sib,List.set])
  refine LexS.nil ?_
  intro w2 hL2 hF9
  clear hF9
  repeat (first | replace hL2 := qag.of_drew hL2 | replace hL2 := qag.of_drewN hL2 | replace hL2 := qag.of_alloc hL2)
  have HL2 := hid hL2
  clear hL2 c0 c1 hlt hlt2 hb
  try rw [hq0]
  clear hq0
  cases q0 <;>
  ·go_wp2_with fail
   exact bodyPost_ret (results_tmp rfl _ _ _) rfl ⟨by rw [HB.out,HQ.out]; rfl,HL2.out⟩
 ·have e0 := qab [110,111,116] hsv (by decide)
  have e1 := qab [109,105,110,117,115] hsv (by decide)
  have e2 := qab [97,110,100] hsv (by decide)
  have e3 := qab [111,114] hsv (by decide)
  have e4 := qab [43,43] hsv (by decide)
  have e5 := qab [99,97,108,108] hsv (by decide)
  have HSV := hid hsv
  clear hsv
  obtain ⟨q0,hq0⟩ : ∃ q,(k0 == 1) = q := ⟨_,rfl⟩
  obtain ⟨q1,hq1⟩ : ∃ q,(k1 == 1) = q := ⟨_,rfl⟩
  have HQ : Hid ((if k0 = 1 ∧ k1 = 1 then some (1 : Int) else none) = if (q0 && q1) = true then some 1 else none) := hid (by rw [← hq0,← hq1,qcl,qcl]; simp)
  have HB : Hid (binK [43] k0 k1 = if k0 = 1 ∧ k1 = 1 then some 1 else none) := hid rfl
  go_enter Tryz.func60,Tryz.ntmps60
  go_wp2_with fail
  rw [HSV.out]
  refine (qdg [43] w).mono ?_
  rintro e w' ⟨rfl,hw'⟩
  subst w'
  rw [show powS [43] = 5 from by decide]
  clear e0 e1 e2 e3 e4 e5
  cases q0 <;> cases q1 <;>
  ·go_wp2_with fail
   exact bodyPost_ret (results_tmp rfl _ _ _) rfl ⟨by rw [HB.out,HQ.out]; rfl,qag.refl _⟩
 ·have e0 := qab [110,111,116] hsv (by decide)
  have e1 := qab [109,105,110,117,115] hsv (by decide)
  have e2 := qab [97,110,100] hsv (by decide)
  have e3 := qab [111,114] hsv (by decide)
  have e4 := qab [43,43] hsv (by decide)
  have e5 := qab [99,97,108,108] hsv (by decide)
  have HSV := hid hsv
  clear hsv
  obtain ⟨q0,hq0⟩ : ∃ q,(k0 == 1) = q := ⟨_,rfl⟩
  obtain ⟨q1,hq1⟩ : ∃ q,(k1 == 1) = q := ⟨_,rfl⟩
  have HQ : Hid ((if k0 = 1 ∧ k1 = 1 then some (1 : Int) else none) = if (q0 && q1) = true then some 1 else none) := hid (by rw [← hq0,← hq1,qcl,qcl]; simp)
  have HB : Hid (binK [45] k0 k1 = if k0 = 1 ∧ k1 = 1 then some 1 else none) := hid rfl
  go_enter Tryz.func60,Tryz.ntmps60
  go_wp2_with fail
  rw [HSV.out]
  refine (qdg [45] w).mono ?_
  rintro e w' ⟨rfl,hw'⟩
  subst w'
  rw [show powS [45] = 5 from by decide]
  clear e0 e1 e2 e3 e4 e5
  cases q0 <;> cases q1 <;>
  ·go_wp2_with fail
   exact bodyPost_ret (results_tmp rfl _ _ _) rfl ⟨by rw [HB.out,HQ.out]; rfl,qag.refl _⟩
 ·have e0 := qab [110,111,116] hsv (by decide)
  have e1 := qab [109,105,110,117,115] hsv (by decide)
  have e2 := qab [97,110,100] hsv (by decide)
  have e3 := qab [111,114] hsv (by decide)
  have e4 := qay [43,43] hsv
  obtain ⟨q0,hq0⟩ : ∃ q,(k0 == 3) = q := ⟨_,rfl⟩
  obtain ⟨q1,hq1⟩ : ∃ q,(k1 == 3) = q := ⟨_,rfl⟩
  have HQ : Hid ((if k0 = 3 ∧ k1 = 3 then some (3 : Int) else none) = if (q0 && q1) = true then some 3 else none) := hid (by rw [← hq0,← hq1,qcl,qcl]; simp)
  have HB : Hid (binK catW k0 k1 = if k0 = 3 ∧ k1 = 3 then some 3 else none) := hid rfl
  clear hsv
  go_enter Tryz.func60,Tryz.ntmps60
  cases q0 <;> cases q1 <;>
  ·go_wp2_with fail
   exact bodyPost_ret (results_tmp rfl _ _ _) rfl ⟨by rw [HB.out,HQ.out]; rfl,qag.refl _⟩
 ·have e0 := qab [110,111,116] hsv (by decide)
  have e1 := qab [109,105,110,117,115] hsv (by decide)
  have e2 := qab [97,110,100] hsv (by decide)
  have e3 := qab [111,114] hsv (by decide)
  have e4 := qab [43,43] hsv (by decide)
  have e5 := qab [99,97,108,108] hsv (by decide)
  have HSV := hid hsv
  clear hsv
  obtain ⟨q0,hq0⟩ : ∃ q,(k0 == 1) = q := ⟨_,rfl⟩
  obtain ⟨q1,hq1⟩ : ∃ q,(k1 == 1) = q := ⟨_,rfl⟩
  have HQ : Hid ((if k0 = 1 ∧ k1 = 1 then some (1 : Int) else none) = if (q0 && q1) = true then some 1 else none) := hid (by rw [← hq0,← hq1,qcl,qcl]; simp)
  have HB : Hid (binK [42] k0 k1 = if k0 = 1 ∧ k1 = 1 then some 1 else none) := hid rfl
  go_enter Tryz.func60,Tryz.ntmps60
  go_wp2_with fail
  rw [HSV.out]
  refine (qdg [42] w).mono ?_
  rintro e w' ⟨rfl,hw'⟩
  subst w'
  rw [show powS [42] = 6 from by decide]
  clear e0 e1 e2 e3 e4 e5
  cases q0 <;> cases q1 <;>
  ·go_wp2_with fail
   exact bodyPost_ret (results_tmp rfl _ _ _) rfl ⟨by rw [HB.out,HQ.out]; rfl,qag.refl _⟩
 ·have e0 := qab [110,111,116] hsv (by decide)
  have e1 := qab [109,105,110,117,115] hsv (by decide)
  have e2 := qab [97,110,100] hsv (by decide)
  have e3 := qab [111,114] hsv (by decide)
  have e4 := qab [43,43] hsv (by decide)
  have e5 := qab [99,97,108,108] hsv (by decide)
  have HSV := hid hsv
  clear hsv
  obtain ⟨q0,hq0⟩ : ∃ q,(k0 == 1) = q := ⟨_,rfl⟩
  obtain ⟨q1,hq1⟩ : ∃ q,(k1 == 1) = q := ⟨_,rfl⟩
  have HQ : Hid ((if k0 = 1 ∧ k1 = 1 then some (1 : Int) else none) = if (q0 && q1) = true then some 1 else none) := hid (by rw [← hq0,← hq1,qcl,qcl]; simp)
  have HB : Hid (binK [47] k0 k1 = if k0 = 1 ∧ k1 = 1 then some 1 else none) := hid rfl
  go_enter Tryz.func60,Tryz.ntmps60
  go_wp2_with fail
  rw [HSV.out]
  refine (qdg [47] w).mono ?_
  rintro e w' ⟨rfl,hw'⟩
  subst w'
  rw [show powS [47] = 6 from by decide]
  clear e0 e1 e2 e3 e4 e5
  cases q0 <;> cases q1 <;>
  ·go_wp2_with fail
   exact bodyPost_ret (results_tmp rfl _ _ _) rfl ⟨by rw [HB.out,HQ.out]; rfl,qag.refl _⟩
 ·have e0 := qab [110,111,116] hsv (by decide)
  have e1 := qab [109,105,110,117,115] hsv (by decide)
  have e2 := qab [97,110,100] hsv (by decide)
  have e3 := qab [111,114] hsv (by decide)
  have e4 := qab [43,43] hsv (by decide)
  have e5 := qab [99,97,108,108] hsv (by decide)
  have HSV := hid hsv
  clear hsv
  obtain ⟨q0,hq0⟩ : ∃ q,(k0 == 1) = q := ⟨_,rfl⟩
  obtain ⟨q1,hq1⟩ : ∃ q,(k1 == 1) = q := ⟨_,rfl⟩
  have HQ : Hid ((if k0 = 1 ∧ k1 = 1 then some (1 : Int) else none) = if (q0 && q1) = true then some 1 else none) := hid (by rw [← hq0,← hq1,qcl,qcl]; simp)
  have HB : Hid (binK [37] k0 k1 = if k0 = 1 ∧ k1 = 1 then some 1 else none) := hid rfl
  go_enter Tryz.func60,Tryz.ntmps60
  go_wp2_with fail
  rw [HSV.out]
  refine (qdg [37] w).mono ?_
  rintro e w' ⟨rfl,hw'⟩
  subst w'
  rw [show powS [37] = 6 from by decide]
  clear e0 e1 e2 e3 e4 e5
  cases q0 <;> cases q1 <;>
  ·go_wp2_with fail
   exact bodyPost_ret (results_tmp rfl _ _ _) rfl ⟨by rw [HB.out,HQ.out]; rfl,qag.refl _⟩
end Go.Proofs.YtgajofkeidjbgaaGreatDoor
