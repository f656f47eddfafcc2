/-
  PROVED HERE: a part of the proof of ExprEvals: KindCall.
-/
import Derived.Test.YtgajofkeidjbgaaGreatDoorShort
import Derived.Test.YtgajofkeidjbgaaGreatDoorGKindOf2
namespace Go.Proofs.YtgajofkeidjbgaaGreatDoor
set_option linter.unusedSimpArgs false
set_option linter.unusedVariables false
set_option maxHeartbeats 8000000
set_option maxRecDepth 100000
open Go.RowKit
theorem nodesG_len {q : List UInt8 → Nat → Int → Prop} {S : Nat → Prop} {w : World} : ∀ {vs : List Value} {l : List Ex},qcb q S w vs l → vs.length = l.length
 | [],[],_ => rfl
 | v :: vs,x :: l,h => by
   unfold qcb at h
   simp [nodesG_len h.2]
 | [],_ :: _,h => by unfold qcb at h; exact h.elim
 | _ :: _,[],h => by unfold qcb at h; exact h.elim
theorem nodesG_at {q : List UInt8 → Nat → Int → Prop} {S : Nat → Prop} {w : World} : ∀ {vs : List Value} {l : List Ex},qcb q S w vs l → ∀ k (h : k < l.length) (h' : k < vs.length),qbm q S w vs[k] l[k]
 | [],[],_,k,h,_ => absurd h (by simp)
 | v :: vs,x :: l,h,k,hk,hk' => by
   unfold qcb at h
   cases k with
   | zero => exact h.1
   | succ k => exact nodesG_at h.2 k (by simpa using hk) (by simpa using hk')
 | [],_ :: _,h,_,_,_ => by unfold qcb at h; exact h.elim
 | _ :: _,[],h,_,_,_ => by unfold qcb at h; exact h.elim
theorem nodesG_of {q : List UInt8 → Nat → Int → Prop} {S : Nat → Prop} {w : World} : ∀ {vs : List Value} {l : List Ex},vs.length = l.length → (∀ k (h : k < l.length) (h' : k < vs.length),qbm q S w vs[k] l[k]) → qcb q S w vs l
 | [],[],_,_ => by unfold qcb; trivial
 | v :: vs,x :: l,hl,h => by
   unfold qcb
   exact ⟨h 0 (by simp) (by simp),nodesG_of (by simpa using hl) fun k h1 h2 => h (k + 1) (by simpa using h1) (by simpa using h2)⟩
 | [],_ :: _,hl,_ => absurd hl (by simp)
 | _ :: _,[],hl,_ => absurd hl (by simp)
theorem ifaceP_inj {T T' : TypeId} {N N' : Nat} (h : Value.iface T (.pointer (some ⟨N,0,none⟩)) = .iface T' (.pointer (some ⟨N',0,none⟩))) : N = N' := by
 simp only [Value.iface.injEq,Value.pointer.injEq,Option.some.injEq,Addr.mk.injEq] at h
 exact h.2.1
theorem exs_at' : ∀ {l : List Ex},qel l → ∀ k (h : k < l.length),qef l[k]
 | x :: l,h,0,_ => by unfold qel at h; exact h.1
 | x :: l,h,k + 1,hk => by unfold qel at h; exact exs_at' h.2 k (by simpa using hk)
theorem xs_cost' : ∀ l : List Ex,l.length ≤ qck l
 | [] => Nat.zero_le _
 | x :: l => by
   have := xs_cost' l
   unfold qck
   simp only [List.length_cons]
   omega
theorem costs_at : ∀ (l : List Ex) (k : Nat) (h : k < l.length),qbj l[k] ≤ qck l
 | x :: l,0,_ => by
   conv => rhs; unfold qck
   show qbj x ≤ _; omega
 | x :: l,k + 1,hk => by
   have hk' : k < l.length := by simpa using hk
   have := costs_at l k hk'
   conv => rhs; unfold qck
   show qbj (l[k]'hk') ≤ _
   omega
theorem kinds_take_err {cs : List Col} {f : Fault} : ∀ (l : List Ex) (k : Nat) (h : k < l.length) (ks : List Int),qbc cs (l.take k) = .ok ks → kindP cs l[k] = .error f → qbc cs l = .error f
 | x :: l,0,_,ks,_,he => by
   have he : kindP cs x = .error f := he
   unfold qbc
   rw [he]
 | x :: l,k + 1,hk,ks,h,he => by
   rw [List.take_succ_cons] at h
   unfold qbc at h
   unfold qbc
   cases hx : kindP cs x with
   | error g => rw [hx] at h; cases h
   | ok a =>
     rw [hx] at h
     simp only at h ⊢
     cases hr : qbc cs (l.take k) with
     | error g => rw [hr] at h; cases h
     | ok r => rw [kinds_take_err l k (by simpa using hk) r hr he]
theorem kinds_take_ok {cs : List Col} {a : Int} : ∀ (l : List Ex) (k : Nat) (h : k < l.length) (ks : List Int),qbc cs (l.take k) = .ok ks → kindP cs l[k] = .ok a → qbc cs (l.take (k + 1)) = .ok (ks ++ [a])
 | x :: l,0,_,ks,h,he => by
   have he : kindP cs x = .ok a := he
   rw [List.take_zero] at h
   unfold qbc at h
   cases h
   rw [List.take_succ_cons,List.take_zero]
   unfold qbc
   rw [he]
   simp only
   unfold qbc
   rfl
 | x :: l,k + 1,hk,ks,h,he => by
   rw [List.take_succ_cons] at h ⊢
   unfold qbc at h
   unfold qbc
   cases hx : kindP cs x with
   | error g => rw [hx] at h; cases h
   | ok b =>
     rw [hx] at h
     simp only at h ⊢
     cases hr : qbc cs (l.take k) with
     | error g => rw [hr] at h; cases h
     | ok r =>
       rw [hr] at h
       cases h
       rw [kinds_take_ok l k (by simpa using hk) r hr he]
       rfl
theorem kinds_len {cs : List Col} : ∀ {l : List Ex} {ks : List Int},qbc cs l = .ok ks → ks.length = l.length
 | [],ks,h => by unfold qbc at h; cases h; rfl
 | x :: l,ks,h => by
   unfold qbc at h
   cases hx : kindP cs x with
   | error g => rw [hx] at h; cases h
   | ok b =>
     rw [hx] at h
     simp only at h
     cases hr : qbc cs l with
     | error g => rw [hr] at h; cases h
     | ok r =>
       rw [hr] at h
       cases h
       simp [kinds_len hr]
def foldK (ar : List Int) (n : Nat) (ks : List Int) : Int × Bool := if ar.length = n then (ar.zip ks).foldl stepF (0,true) else (0,false)
theorem zip_snoc : ∀ (ar ks : List Int) (a : Int),ks.length < ar.length → ar.zip (ks ++ [a]) = ar.zip ks ++ [(ar.getD ks.length 0,a)]
 | x :: ar,[],a,_ => by simp
 | x :: ar,k :: ks,a,h => by
   show (x,k) :: ar.zip (ks ++ [a]) = (x,k) :: (ar.zip ks ++ [(ar.getD ks.length 0,a)])
   rw [zip_snoc ar ks a (by simpa using h)]
 | [],ks,a,h => absurd h (by simp)
theorem fold_no {ar ks : List Int} {n : Nat} {a : Int} (h : (foldK ar n ks).2 = false) (hk : ks.length < n) : foldK ar n (ks ++ [a]) = foldK ar n ks := by
 unfold foldK at h ⊢
 split
 ·rename_i hn
  rw [if_pos hn] at h
  rw [zip_snoc ar ks a (by omega),List.foldl_append]
  show stepF _ _ = _
  unfold stepF
  rw [if_pos (.inl h)]
 ·rfl
theorem fold_yes {ar ks : List Int} {n : Nat} {a : Int} (h : (foldK ar n ks).2 = true) (hk : ks.length < n) : ar.length = n ∧ foldK ar n (ks ++ [a]) = stepF (foldK ar n ks) (ar.getD ks.length 0,a) := by
 unfold foldK at h ⊢
 split
 ·rename_i hn
  refine ⟨hn,?_⟩
  rw [zip_snoc ar ks a (by omega),List.foldl_append]
  rfl
 ·rename_i hn
  rw [if_neg hn] at h
  cases h
theorem callK_fold {f : List UInt8} {ar : List Int} {out : Int} {ks : List Int} (h : qem f = some (ar,out)) : callK f ks = if (foldK ar ks.length ks).2 = true then some (if out = 9 then (foldK ar ks.length ks).1 else out) else none := by
 unfold callK foldK
 rw [h]
 simp only
 by_cases hl : ar.length = ks.length
 ·rw [if_neg (by simpa using hl),if_pos hl]
 ·rw [if_pos hl,if_neg hl]
  rfl
theorem wpAnyH_mono {P : Program} {md : Region.Mode} {ops : Array Oper} {Q : Exit → Act → World → Prop} {S T : World → Prop} (hST : ∀ w,T w → S w) : ∀ (fuel : Nat) (listed : Array Bool) (a : Act) (w : World),wpAnyH P md ops Q T fuel listed a w → wpAnyH P md ops Q S fuel listed a w
 | 0,_,_,_,h => h
 | fuel + 1,_,_,_,h => ⟨h.1,fun i hi => wpOp_mono (fun a' w' h' => ⟨hST _ h'.1,wpAnyH_mono hST fuel _ a' w' h'.2⟩) (h.2 i hi)⟩
def ShapeB (wy : World) (F b : Nat) (ar : List Int) (out : Int) : Prop := (∃ ev,wy.heap[F]? = some (.cells #[.slice (some ⟨b,0,none⟩) ar.length ar.length,.int .i64 out,ev] 176 (0,0))) ∧ KRow wy b ar
theorem ShapeB.named {B F b : Nat} {cs : List Col} {w w' : World} {ar : List Int} {out : Int} (h : ShapeB w F b ar out) (k : NmKeep B cs w w') : ShapeB w' F b ar out := by
 obtain ⟨⟨ev,h1⟩,h2⟩ := h
 exact ⟨⟨ev,k.obj h1 (by decide)⟩,k.obj h2 (by decide)⟩
theorem ShapeB.cells {F b : Nat} {w : World} {ar : List Int} {out : Int} (h : ShapeB w F b ar out) : w.cell? ⟨F,0,none⟩ = some (.slice (some ⟨b,0,none⟩) ar.length ar.length) ∧ w.cell? ⟨F,1,none⟩ = some (.int .i64 out) ∧ ∀ k,k < ar.length → w.cell? ⟨b,k,none⟩ = some (.int .i64 (ar.getD k 0)) := by
 obtain ⟨⟨ev,h1⟩,h2⟩ := h
 refine ⟨qac (i := 0) h1 rfl,qac (i := 1) h1 rfl,fun k hk => qac h2 ?_⟩
 rw [List.getElem?_toArray,List.getElem?_map,List.getElem?_eq_getElem hk,List.getD_eq_getElem?_getD,List.getElem?_eq_getElem hk]
 rfl
def StartR (w : World) (f : List UInt8) (F : Nat) (wy : World) : Prop := qag w wy ∧ match qem f with
 | none => True
 | some a => ∃ b,ShapeB wy F b a.1 a.2
def hasF (f : List UInt8) : Bool := (qem f).isSome
def DoneN (cs : List Col) (B : Nat) (w : World) (vs : List Value) (l : List Ex) (k : Nat) : Prop := ∀ i (_ : i < k) (h : i < l.length) (h' : i < vs.length),qbm (qIdx cs) (fun b => B ≤ b) w vs[i] l[i]
theorem done_next {cs : List Col} {B : Nat} {w w' : World} {vs : List Value} {l : List Ex} {k : Nat} (h : DoneN cs B w vs l k) (hk : NmKeep B cs w w') (h1 : k < l.length) (h2 : k < vs.length) (hn : qbm (qIdx cs) (fun b => B ≤ b) w' vs[k] l[k]) : DoneN cs B w' vs l (k + 1) := fun i hi h3 h4 => by
 by_cases hik : i = k
 ·subst hik; exact hn
 ·exact qbm.kept (fun s p i h => qIdx_set h) hk _ _ (h i (by omega) h3 h4)
theorem zero_shape (w : World) : (zeroValue 176).run Tryz.prog w = .ok (.agg #[.slice none 0 0,.int .i64 0,.nilFunc]) w := by kernel_rfl
def LookR (w : World) (f : List UInt8) (sb : Option Addr) (sn : Nat) (sk : Int) : Prop := match qem f with
 | none => True
 | some a => ∃ b,sb = some ⟨b,0,none⟩ ∧ sn = a.1.length ∧ sk = a.2 ∧ KRow w b a.1
theorem LookR.later {w w' : World} {f : List UInt8} {sb : Option Addr} {sn : Nat} {sk : Int} (h : LookR w f sb sn sk) (k : qag w w') : LookR w' f sb sn sk := by
 unfold LookR at h ⊢
 cases ha : qem f with
 | none => trivial
 | some a =>
   rw [ha] at h
   obtain ⟨b,h1,h2,h3,h4⟩ := h
   exact ⟨b,h1,h2,h3,k.obj h4⟩
theorem look_val {w : World} {F : List UInt8 → Option Value} (f : List UInt8) (hF : ∀ f,match qem f with
 | none => F f = none
 | some a => ∃ v,F f = some v ∧ ShapeAt w f a.1 a.2 v) : ∃ b ev n k,(F f).getD (.agg #[.slice none 0 0,.int .i64 0,.nilFunc]) = .agg #[.slice b n n,.int .i64 k,ev] ∧ (F f).isSome = hasF f ∧ LookR w f b n k ∧ ev.oneCell' = true := by
 have h := hF f
 unfold hasF LookR
 cases ha : qem f with
 | none =>
   rw [ha] at h
   simp only at h
   rw [h]
   exact ⟨none,.nilFunc,0,0,rfl,rfl,trivial,rfl⟩
 | some a =>
   rw [ha] at h
   obtain ⟨v,hv,b,ev,rfl,h1,h2⟩ := h
   rw [hv]
   refine ⟨some ⟨b,0,none⟩,ev,a.1.length,a.2,rfl,rfl,⟨b,rfl,rfl,rfl,h1⟩,?_⟩
   unfold EvV at h2
   split at h2
   ·obtain ⟨K,e,-⟩ := h2
    rw [e]; rfl
   ·rw [h2]; rfl
abbrev zShape : Obj := .cells #[.slice none 0 0,.int .i64 0,.nilFunc] 176 (0,0)
abbrev putShape (wa : World) (F : Nat) (sb : Option Addr) (sn : Nat) (sk : Int) (ev : Value) : World := ((wa.setCell ⟨F,0,none⟩ (.slice sb sn sn)).setCell ⟨F,1,none⟩ (.int .i64 sk)).setCell ⟨F,2,none⟩ ev
theorem put_keeps (wa : World) (F : Nat) (sb : Option Addr) (sn : Nat) (sk : Int) (ev : Value) : Keeps (fun b => b ≠ F) wa (putShape wa F sb sn sk ev) :=
 (((Keeps.refl _ wa).setCell (p := ⟨F,0,none⟩) (.inl fun h => h rfl) _).setCell (p := ⟨F,1,none⟩) (.inl fun h => h rfl) _).setCell (p := ⟨F,2,none⟩) (.inl fun h => h rfl) _
theorem start_r {w wa : World} {F : Nat} {f : List UInt8} {sb : Option Addr} {sn : Nat} {sk : Int} {ev : Value} (hL : qag w wa) (hO : wa.heap[F]? = some zShape) (hN : w.heap.size ≤ F) (hR : LookR wa f sb sn sk) : StartR w f F (putShape wa F sb sn sk ev) := by
 have hk := put_keeps wa F sb sn sk ev
 refine ⟨qeb hL hN hk,?_⟩
 unfold LookR at hR
 cases ha : qem f with
 | none => trivial
 | some a =>
   rw [ha] at hR
   obtain ⟨b,rfl,rfl,rfl,h4⟩ := hR
   have h1 : (wa.setCell ⟨F,0,none⟩ (.slice (some ⟨b,0,none⟩) a.1.length a.1.length)).heap[F]? = some (.cells #[.slice (some ⟨b,0,none⟩) a.1.length a.1.length,.int .i64 0,.nilFunc] 176 (0,0)) := qak (i := 0) hO _
   have h2 : ((wa.setCell ⟨F,0,none⟩ (.slice (some ⟨b,0,none⟩) a.1.length a.1.length)).setCell ⟨F,1,none⟩ (.int .i64 a.2)).heap[F]? = some (.cells #[.slice (some ⟨b,0,none⟩) a.1.length a.1.length,.int .i64 a.2,.nilFunc] 176 (0,0)) := qak (i := 1) h1 _
   refine ⟨b,⟨ev,qak (i := 2) h2 _⟩,hk.obj ?_ h4⟩
   rintro rfl
   unfold KRow at h4
   rw [hO] at h4
   injection h4 with h4
   injection h4 with _ h4
   exact absurd h4 (by decide)
theorem put_third {wa : World} {F : Nat} (hO : wa.heap[F]? = some zShape) (sb : Option Addr) (sn : Nat) (sk : Int) {ev : Value} (h : ev.oneCell' = true) :
  (store ⟨F,2,none⟩ ev).run Tryz.prog ((wa.setCell ⟨F,0,none⟩ (.slice sb sn sn)).setCell ⟨F,1,none⟩ (.int .i64 sk)) = .ok () (putShape wa F sb sn sk ev) := by
 have h1 : (wa.setCell ⟨F,0,none⟩ (.slice sb sn sn)).heap[F]? = some (.cells #[.slice sb sn sn,.int .i64 0,.nilFunc] 176 (0,0)) := qak (i := 0) hO _
 have h2 : ((wa.setCell ⟨F,0,none⟩ (.slice sb sn sn)).setCell ⟨F,1,none⟩ (.int .i64 sk)).heap[F]? = some (.cells #[.slice sb sn sn,.int .i64 sk,.nilFunc] 176 (0,0)) := qak (i := 1) h1 _
 have h3 : ((wa.setCell ⟨F,0,none⟩ (.slice sb sn sn)).setCell ⟨F,1,none⟩ (.int .i64 sk)).cell? ⟨F,2,none⟩ = some .nilFunc := qac (i := 2) h2 rfl
 have h4 : ((wa.setCell ⟨F,0,none⟩ (.slice sb sn sn)).setCell ⟨F,1,none⟩ (.int .i64 sk)).frozen? ⟨F,2,none⟩ = false := qaq (i := 2) h2
 rw [run_store _ _ _ _ _ h,h3]
 simp only [h4]
 rfl
theorem map_ne {w : World} {M n F : Nat} {g : List UInt8 → Option Value} (h : MapIn strI w M n g) (hO : w.heap[F]? = some zShape) : M ≠ F := by
 rintro rfl
 obtain ⟨es,c,hm⟩ := MapIn.obj h
 rw [hO] at hm
 cases hm
theorem kind_any (cs : List Col) (f : List UInt8) (p : Nat) (l : List Ex) (hx : ∀ x ∈ l,KdC cs x) (B : Nat) (ao : Option Addr) (c N : Nat) (w : World) (hn : qbm (qMay cs) (fun b => B ≤ b) w (.iface 168 (.pointer (some ⟨N,0,none⟩))) (.call f p l))
  (hel : ColsB B w ao cs) (hlen : cs.length ≤ 140737488355328) (ho : qel l) (hcost : f.length + 2 + qck l ≤ 1000000) (hB : B ≤ w.heap.size) :
  Calls Tryz.prog 88 #[.pointer (some ⟨N,0,none⟩),.slice ao cs.length c] w (KindTo B cs w (.iface 168 (.pointer (some ⟨N,0,none⟩))) (.call f p l)) := by
 unfold qbm at hn
 obtain ⟨N',vs,a,hNB,hN',hobj,hargs,hns⟩ := hn
 obtain rfl := ifaceP_inj hN'
 have HX := hid hx; have HEL := hid hel; have HLN := hid hlen; have HO := hid ho; have HB := hid hB; have HCO := hid hcost
 have HN := hid hNB; have HOBJ := hid hobj; have HAR := hid hargs; have HNS := hid hns
 clear hel hlen ho hcost hB hNB hobj hargs hns hx hN'
 have c0 : w.cell? ⟨N,0,none⟩ = some (.string (qah f)) := qac (i := 0) HOBJ.out rfl
 have hC0 : ∀ w',qag w w' → w'.cell? ⟨N,0,none⟩ = some (.string (qah f)) := fun w' k => qac (i := 0) (k.obj HOBJ.out) rfl
 have HC0 := hid hC0
 clear hC0 c0
 have hfl : f.length ≤ maxLen := by have := HCO.out; unfold maxLen; omega
 have HFL := hid hfl
 clear hfl
 go_enter Tryz.func88,Tryz.ntmps88
 go_upto_region 1 with (fail)
 obtain ⟨R1,hR1⟩ : ∃ RR_ : (Nat → Value) → World → Prop,RR_ = (fun us wy => ∃ F,us 5 = .pointer (some ⟨F,0,none⟩) ∧ us 6 = .bool (hasF f) ∧ StartR w f F wy) := ⟨_,rfl⟩
 have HR1 := hid hR1; clear hR1
 refine qau [ff,ff,ff,ff,ff,true,true,ff,ff,ff,ff,ff,true,true,true,true,true,true,true,true,true] R1 _ HR1.out ?_ ?_
 ·refine wp_region_held_drew (S := fun w => w.cell? ⟨N,0,none⟩ = some (.string (qah f))) (by kernel_rfl) (HC0.out _ (qag.drew w)) (fun hS => ?_)
  refine tH 1 (.pointer (some ⟨N,0,none⟩)) rfl (by kernel_rfl) (fun _ _ _ h => h) ⟨by rfl,?_⟩ hS ?_
  ·intro w hS
   clear hS
   go_simp
  try simp only [Act.put,sib,List.set]
  refine tH 2 (.pointer (some ⟨N,0,none⟩)) rfl (by kernel_rfl) (fun _ _ _ h => h) ⟨by rfl,?_⟩ hS ?_
  ·rintro w h0
   try (have := qad h0)
   go_simp
  try simp only [Act.put,sib,List.set]
  refine tH 3 (.pointer (some ⟨N,0,none⟩)) rfl (by kernel_rfl) (fun _ _ _ h => h) ⟨by rfl,?_⟩ hS ?_
  ·rintro w h0
   try (have := qad h0)
   go_simp
  try simp only [Act.put,sib,List.set]
  refine tH 4 (.string (qah f)) rfl (by kernel_rfl) (fun _ _ _ h => h) ⟨by rfl,?_⟩ hS ?_
  ·rintro w h0
   try (have := qad h0)
   go_simp
  try simp only [Act.put,sib,List.set]
  refine wpAnyH_ready (rs := [0,9]) (by kernel_rfl) (by simp) (AllReadyH.cons rfl (fun K hK => ?_) (AllReadyH.cons rfl (fun K hK => ?_) AllReadyH.nil))
  ·go_simp
   refine (functions_any _).mono ?_
   rintro e w1 ⟨M,F,rfl,hL1,hM1,hF1⟩
   have HL1 := hid (qag.trans _ _ _ (qag.drew w) hL1)
   refine hK.out _ _ (HC0.out _ HL1.out) (fun hS => ?_)
   clear hK K
   try simp only [Act.put,sib,List.set]
   refine wpAnyH_mono (T := fun w' => w'.cell? ⟨N,0,none⟩ = some (.string (qah f)) ∧ MapIn strI w' M 6 F) (fun w h => h.1) _ _ _ _ ?_
   have hS2 : w1.cell? ⟨N,0,none⟩ = some (.string (qah f)) ∧ MapIn strI w1 M 6 F := ⟨hS,hM1⟩
   clear hS
   have hS := hS2
   clear hS2
   obtain ⟨sb,ev,sn,sk,hzv,hzb,hR,hev⟩ := look_val (w := w1) f hF1
   have HR := hid hR; have HHF := hid hzb
   refine tH 5 (.tuple #[.agg #[.slice sb sn sn,.int .i64 sk,ev],.bool (hasF f)]) rfl (by kernel_rfl) (fun _ _ _ h => h) ⟨by rfl,?_⟩ hS ?_
   ·rintro w ⟨-,h0⟩
    have hlk : (Instr.lookup 177 (.map (some M)) (.string (qah f)) true).run Tryz.prog w = .ok (.tuple #[.agg #[.slice sb sn sn,.int .i64 sk,ev],.bool (hasF f)]) w := by
     have h := MapIn.look (mt := 177) (et := 176) Tryz.underlying177 zero_shape h0 f HFL.out
     rw [hzv,hzb] at h
     exact h
    clear h0 hzv hzb hR
    go_simp
   clear hzv hzb hR hM1 hF1
   try simp only [Act.put,sib,List.set]
   refine tH 6 (.tuple #[.agg #[.slice sb sn sn,.int .i64 sk,ev],.bool (hasF f)]) rfl (by kernel_rfl) (fun _ _ _ h => h) ⟨by rfl,?_⟩ hS ?_
   ·intro w hS
    clear hS
    go_simp
   try simp only [Act.put,sib,List.set]
   refine tH 7 (.agg #[.slice sb sn sn,.int .i64 sk,ev]) rfl (by kernel_rfl) (fun _ _ _ h => h) ⟨by rfl,?_⟩ hS ?_
   ·intro w hS
    clear hS
    go_simp
   try simp only [Act.put,sib,List.set]
   refine tH 8 (.bool (hasF f)) rfl (by kernel_rfl) (fun _ _ _ h => h) ⟨by rfl,?_⟩ hS ?_
   ·intro w hS
    clear hS
    go_simp
   try simp only [Act.put,sib,List.set]
   refine wpAnyH_ready (rs := [9]) (by kernel_rfl) (by simp) (AllReadyH.cons rfl (fun K hK => ?_) AllReadyH.nil)
   go_simp
   obtain ⟨F1,hF1⟩ : ∃ F1,F1 = w1.heap.size := ⟨_,rfl⟩
   obtain ⟨w2,hw2⟩ : ∃ w2,w2 = w1.alloc (.cells #[.slice none 0 0,.int .i64 0,.nilFunc] 176) := ⟨_,rfl⟩
   have hL2 : qag w1 w2 := hw2 ▸ qag.alloc _ _
   have hO2 : w2.heap[F1]? = some (.cells #[.slice none 0 0,.int .i64 0,.nilFunc] 176 (0,0)) := by rw [hw2,hF1]; exact qap _ _
   have HFN : Hid (w.heap.size ≤ F1 ∧ N ≠ F1) := hid ⟨by rw [hF1]; exact HL1.out.size,by have := qch HOBJ.out; have := HL1.out.size; omega⟩
   rw [← hw2,← hF1]
   have HL2 := hid hL2; have HO2 := hid hO2
   refine hK.out _ _ ⟨hL2.cell hS.1,hS.2.later hL2⟩ (fun hS => ?_)
   clear hK K hw2 hF1 hL2 hO2
   try simp only [Act.put,sib,List.set]
   have z0 : w2.cell? ⟨F1,0,none⟩ = some (.slice none 0 0) := qac (i := 0) HO2.out rfl
   have z1 : w2.cell? ⟨F1,1,none⟩ = some (.int .i64 0) := qac (i := 1) HO2.out rfl
   have z2 : w2.cell? ⟨F1,2,none⟩ = some .nilFunc := qac (i := 2) HO2.out rfl
   have f0 : w2.frozen? ⟨F1,0,none⟩ = false := qaq (i := 0) HO2.out
   have f1 : w2.frozen? ⟨F1,1,none⟩ = false := qaq (i := 1) HO2.out
   have f2 : w2.frozen? ⟨F1,2,none⟩ = false := qaq (i := 2) HO2.out
   have fl := qad z0
   have hSP : ∀ ev,(putShape w2 F1 sb sn sk ev).cell? ⟨N,0,none⟩ = some (.string (qah f)) ∧ MapIn strI (putShape w2 F1 sb sn sk ev) M 6 F := fun ev => ⟨(put_keeps _ _ _ _ _ _).cell (p := ⟨N,0,none⟩) HFN.out.2 hS.1,hS.2.kept (put_keeps _ _ _ _ _ _) (map_ne hS.2 HO2.out)⟩
   have HSP := hid hSP
   have HST := hid (fun ev => start_r (f := f) (ev := ev) (qag.trans _ _ _ HL1.out HL2.out) HO2.out HFN.out.1 (HR.out.later HL2.out))
   clear hSP hS
   refine wpAnyH_ready (rs := [10]) (by kernel_rfl) (by simp) (AllReadyH.cons rfl (fun K hK => ?_) AllReadyH.nil)
   go_simp
   rw [put_third HO2.out sb sn sk hev]
   go_simp
   refine hK.out _ _ (HSP.out _) (fun hS => ?_)
   clear hK K z0 z1 z2 f0 f1 f2 fl
   try simp only [Act.put,sib,List.set]
   refine tH 11 (.bool (hasF f)) rfl (by kernel_rfl) (fun _ _ _ h => h) ⟨by rfl,?_⟩ hS ?_
   ·intro w hS
    clear hS
    go_simp
   try simp only [Act.put,sib,List.set]
   refine wpAnyH_done (by kernel_rfl) ?_ _
   refine Meet.mk' HR1.out rfl ?_
   exact ⟨F1,rfl,rfl,HST.out _⟩
  ·go_simp
   obtain ⟨F1,hF1⟩ : ∃ F1,F1 = w.heap.size := ⟨_,rfl⟩
   obtain ⟨w2,hw2⟩ : ∃ w2,w2 = (w.alloc (.cells #[.slice none 0 0,.int .i64 0,.nilFunc] 176)).drew := ⟨_,rfl⟩
   have hL2 : qag w w2 := hw2 ▸ qag.trans _ _ _ (qag.alloc _ _) (qag.drew _)
   have hO2 : w2.heap[F1]? = some (.cells #[.slice none 0 0,.int .i64 0,.nilFunc] 176 (0,0)) := by rw [hw2,hF1]; exact (qag.drew _).obj (qap _ _)
   have HFN : Hid (w.heap.size ≤ F1 ∧ N ≠ F1) := hid ⟨by omega,by have := qch HOBJ.out; omega⟩
   rw [← hw2,← hF1]
   have HL2 := hid hL2; have HO2 := hid hO2
   refine hK.out _ _ (HC0.out _ hL2) (fun hS => ?_)
   clear hK K hw2 hF1 hL2 hO2
   try simp only [Act.put,sib,List.set]
   refine wpAnyH_ready (rs := [0]) (by kernel_rfl) (by simp) (AllReadyH.cons rfl (fun K hK => ?_) AllReadyH.nil)
   go_simp
   refine (functions_any _).mono ?_
   rintro e w3 ⟨M,F,rfl,hL3,hM3,hF3⟩
   have HL3 := hid (qag.trans _ _ _ HL2.out hL3)
   have HO3 := hid (hL3.obj HO2.out)
   refine hK.out _ _ (HC0.out _ HL3.out) (fun hS => ?_)
   clear hK K
   try simp only [Act.put,sib,List.set]
   refine wpAnyH_mono (T := fun w' => w'.cell? ⟨N,0,none⟩ = some (.string (qah f)) ∧ MapIn strI w' M 6 F) (fun w h => h.1) _ _ _ _ ?_
   have hS2 : w3.cell? ⟨N,0,none⟩ = some (.string (qah f)) ∧ MapIn strI w3 M 6 F := ⟨hS,hM3⟩
   clear hS
   have hS := hS2
   clear hS2
   obtain ⟨sb,ev,sn,sk,hzv,hzb,hR,hev⟩ := look_val (w := w3) f hF3
   have HR := hid hR; have HHF := hid hzb
   refine tH 5 (.tuple #[.agg #[.slice sb sn sn,.int .i64 sk,ev],.bool (hasF f)]) rfl (by kernel_rfl) (fun _ _ _ h => h) ⟨by rfl,?_⟩ hS ?_
   ·rintro w ⟨-,h0⟩
    have hlk : (Instr.lookup 177 (.map (some M)) (.string (qah f)) true).run Tryz.prog w = .ok (.tuple #[.agg #[.slice sb sn sn,.int .i64 sk,ev],.bool (hasF f)]) w := by
     have h := MapIn.look (mt := 177) (et := 176) Tryz.underlying177 zero_shape h0 f HFL.out
     rw [hzv,hzb] at h
     exact h
    clear h0 hzv hzb hR
    go_simp
   clear hzv hzb hR hM3 hF3
   try simp only [Act.put,sib,List.set]
   refine tH 6 (.tuple #[.agg #[.slice sb sn sn,.int .i64 sk,ev],.bool (hasF f)]) rfl (by kernel_rfl) (fun _ _ _ h => h) ⟨by rfl,?_⟩ hS ?_
   ·intro w hS
    clear hS
    go_simp
   try simp only [Act.put,sib,List.set]
   refine tH 7 (.agg #[.slice sb sn sn,.int .i64 sk,ev]) rfl (by kernel_rfl) (fun _ _ _ h => h) ⟨by rfl,?_⟩ hS ?_
   ·intro w hS
    clear hS
    go_simp
   try simp only [Act.put,sib,List.set]
   refine tH 8 (.bool (hasF f)) rfl (by kernel_rfl) (fun _ _ _ h => h) ⟨by rfl,?_⟩ hS ?_
   ·intro w hS
    clear hS
    go_simp
   try simp only [Act.put,sib,List.set]
   have z0 : w3.cell? ⟨F1,0,none⟩ = some (.slice none 0 0) := qac (i := 0) HO3.out rfl
   have z1 : w3.cell? ⟨F1,1,none⟩ = some (.int .i64 0) := qac (i := 1) HO3.out rfl
   have z2 : w3.cell? ⟨F1,2,none⟩ = some .nilFunc := qac (i := 2) HO3.out rfl
   have f0 : w3.frozen? ⟨F1,0,none⟩ = false := qaq (i := 0) HO3.out
   have f1 : w3.frozen? ⟨F1,1,none⟩ = false := qaq (i := 1) HO3.out
   have f2 : w3.frozen? ⟨F1,2,none⟩ = false := qaq (i := 2) HO3.out
   have fl := qad z0
   have hSP : ∀ ev,(putShape w3 F1 sb sn sk ev).cell? ⟨N,0,none⟩ = some (.string (qah f)) ∧ MapIn strI (putShape w3 F1 sb sn sk ev) M 6 F := fun ev => ⟨(put_keeps _ _ _ _ _ _).cell (p := ⟨N,0,none⟩) HFN.out.2 hS.1,hS.2.kept (put_keeps _ _ _ _ _ _) (map_ne hS.2 HO3.out)⟩
   have HSP := hid hSP
   have HST := hid (fun ev => start_r (f := f) (ev := ev) HL3.out HO3.out HFN.out.1 HR.out)
   clear hSP hS
   refine wpAnyH_ready (rs := [10]) (by kernel_rfl) (by simp) (AllReadyH.cons rfl (fun K hK => ?_) AllReadyH.nil)
   go_simp
   rw [put_third HO3.out sb sn sk hev]
   go_simp
   refine hK.out _ _ (HSP.out _) (fun hS => ?_)
   clear hK K z0 z1 z2 f0 f1 f2 fl
   try simp only [Act.put,sib,List.set]
   refine tH 11 (.bool (hasF f)) rfl (by kernel_rfl) (fun _ _ _ h => h) ⟨by rfl,?_⟩ hS ?_
   ·intro w hS
    clear hS
    go_simp
   try simp only [Act.put,sib,List.set]
   refine wpAnyH_done (by kernel_rfl) ?_ _
   refine Meet.mk' HR1.out rfl ?_
   exact ⟨F1,rfl,rfl,HST.out _⟩
 intro us1 w1 hrel
 obtain ⟨F,h5,h6,hstart⟩ := hrel
 simp only [qao,Nat.reduceAdd,h5,h6]
 have Hh5 := hid h5; clear h5
 have Hh6 := hid h6; clear h6
 have HK1 := hid (NmKeep.later (B := B) (cs := cs) hstart.1)
 cases hfa : qem f with
 | none =>
   have HFA := hid hfa
   have hhf : hasF f = false := by unfold hasF; rw [hfa]; rfl
   have q1 : w1.cell? ⟨N,1,none⟩ = some (.int .i64 (p : Int)) := qac (i := 1) (HK1.out.obj HOBJ.out (by decide)) rfl
   have ql := qad q1
   rw [hhf]
   clear hstart hfa hhf
   go_wp2_with fail
   refine (qbn 2 p _).mono ?_
   rintro e w' ⟨hfl,hw'⟩
   subst w'
   have hfl' := hfl
   unfold qbr at hfl
   subst hfl
   simp only [Exit.then,Exit.inBlock]
   refine ⟨rfl,HK1.out,?_⟩
   unfold kindP
   rw [HFA.out]
   exact hfl'
 | some a =>
 obtain ⟨ar,out⟩ := a
 have HFA := hid hfa
 have hhf : hasF f = true := by unfold hasF; rw [hfa]; rfl
 obtain ⟨-,hst⟩ := hstart
 rw [hfa] at hst
 obtain ⟨b,hsh⟩ := hst
 have HSH := hid hsh
 rw [hhf]
 have hvl := nodesG_len HNS.out
 have HVL := hid hvl
 obtain ⟨ag,acap,rfl⟩ : ∃ ag cap,a = .slice ag l.length cap := by
  rcases HAR.out.1.2 with ⟨hv,h0⟩ | ⟨g,cap,cur,hv,_⟩
  ·exact ⟨none,0,by rw [hv,← hvl,h0]⟩
  ·exact ⟨_,_,by rw [hv,hvl]⟩
 have HLL : Hid (l.length ≤ 1000000) := hid (by have := xs_cost' l; have := HCO.out; omega)
 obtain ⟨s0,s1,s2⟩ := hsh.cells
 have q2 : w1.cell? ⟨N,2,none⟩ = some (.slice ag l.length acap) := qac (i := 2) (HK1.out.obj HOBJ.out (by decide)) rfl
 have ql := qad q2
 clear hhf hfa hvl hsh s2
 go_upto_region 5 with (fail)
 refine qaj (by kernel_rfl) (by kernel_rfl) qag qag.refl qag.trans (fun _ => none) (fun _ _ _ _ _ h => by cases h) ?_
 simp only [qam,Nat.reduceAdd]
 refine LexS.out ?_
 iterate 10
  first
  | (refine LexS.skip rfl ?_; simp only [Act.put,sib,List.set])
  | (refine LexS.one' rfl rfl ?_
     apply Exists.intro
     refine ⟨fun w hR hF => ?_,?_⟩
     ·have hP := hR
      repeat (first | replace hP := qag.of_drew hP | replace hP := qag.of_drewN hP | replace hP := qag.of_alloc hP)
      have hcs := hR.cells
      have zq2 := hP.cell q2
      have zs0 := hP.cell s0
      clear hR hF hP
      go_simp
      first | done | rfl
     simp only [Act.put,sib,List.set])
 refine LexS.nil ?_
 intro w2 hL2 hF9
 clear hF9
 repeat (first | replace hL2 := qag.of_drew hL2 | replace hL2 := qag.of_drewN hL2 | replace hL2 := qag.of_alloc hL2)
 have HK2 := hid (HK1.out.trans (NmKeep.later (B := B) (cs := cs) hL2))
 have HSH2 := hid (HSH.out.named (NmKeep.later (B := B) (cs := cs) hL2))
 clear q2 ql s0 s1 hL2
 have q2 : w2.cell? ⟨N,2,none⟩ = some (.slice ag l.length acap) := qac (i := 2) (HK2.out.obj HOBJ.out (by decide)) rfl
 have ql := qad q2
 obtain ⟨bl,hbl⟩ : ∃ b,((l.length : Int) == (ar.length : Int)) = b := ⟨_,rfl⟩
 have hfold0 : foldK ar l.length [] = (0,bl) := by
  unfold foldK
  rw [← hbl]
  by_cases h : ar.length = l.length
  ·rw [if_pos h,h]; simp
  ·rw [if_neg h]
   have : ((l.length : Int) == (ar.length : Int)) = false := by simp; omega
   rw [this]
 have HF0 := hid hfold0
 try rw [hbl]
 clear hbl hfold0
 go_wp2_with fail
 obtain ⟨R2,hR2⟩ : ∃ RR_ : (Nat → Value) → World → Prop,RR_ = (fun us wx => ∃ (k : Nat) (ks : List Int),us 42 = .int .i64 (k : Int) ∧ us 7 = .int .i64 (foldK ar l.length ks).1 ∧ us 8 = .bool (foldK ar l.length ks).2 ∧ k ≤ l.length ∧ qbc cs (l.take k) = .ok ks ∧ NmKeep B cs w wx ∧ ShapeB wx F b ar out ∧ DoneN cs B wx vs l k) := ⟨_,rfl⟩
 obtain ⟨mu2,hmu2⟩ : ∃ mu : (Nat → Value) → World → Nat,mu = (fun us _ => l.length - (intOf (us 42)).toNat) := ⟨_,rfl⟩
 have HR2 := hid hR2; have Hmu2 := hid hmu2; clear hR2 hmu2
 refine qal [ff,ff,ff,ff,ff,ff,ff,true,true,true,true,true,ff,ff,ff,ff,ff,ff,ff,ff,ff,ff,ff,ff,ff,ff,ff,ff,ff,ff,ff,ff,ff,ff,ff,ff,ff,ff,ff,ff,ff,ff,true,true,true,true,true,true,true,true,true,true,true,true,true,true,true,true,true,true,true,true,true,true,true,true,true,true,true,true,true,true,true,true,true,true,true,true,true,true,true,true,true,true,true,true,true,true,true,true,true,true,true,true,true,true,true] R2 _ mu2 HR2.out ?_ ?_
 ·refine ⟨0,[],rfl,by rw [HF0.out]; rfl,by rw [HF0.out]; rfl,Nat.zero_le _,?_,HK2.out,HSH2.out,fun i h => absurd h (by omega)⟩
  rw [List.take_zero]
  unfold qbc
  rfl
 clear HF0
 intro us2 wx hrel
 obtain ⟨k,ks,h42,h7,h8,hk,hks,hKx,hshx,hdn⟩ := hrel
 simp only [qao,Nat.reduceAdd,h42,h7,h8]
 have Hh42 := hid h42; clear h42
 have Hh7 := hid h7; clear h7
 have Hh8 := hid h8; clear h8
 have HKX := hid hKx; have HSX := hid hshx; have HDN := hid hdn; have HKS := hid hks; have HKL := hid hk
 have hkl := kinds_len hks
 rw [List.length_take,Nat.min_eq_left hk] at hkl
 have HKSL := hid hkl
 obtain ⟨sh,hsh⟩ : ∃ x,(foldK ar l.length ks).1 = x := ⟨_,rfl⟩
 obtain ⟨ft,hft⟩ : ∃ x,(foldK ar l.length ks).2 = x := ⟨_,rfl⟩
 have HFO : Hid (foldK ar l.length ks = (sh,ft)) := hid (by rw [← hsh,← hft])
 rw [hsh,hft]
 clear hKx hshx hdn hks hkl hsh hft q2 ql
 by_cases hlt : k < l.length
 ·have HLT := hid hlt
  have hki : (k : Int) < l.length := by omega
  have hkv : k < vs.length := by rw [HVL.out]; exact hlt
  have HKV := hid hkv
  have hcell : ∃ g,ag = some ⟨g,0,none⟩ ∧ wx.cell? ⟨g,k,none⟩ = some (vs[k]'hkv) := by
   have har := args_named HAR.out HKX.out
   rcases har.1.2 with ⟨hv,h0⟩ | ⟨g,cap',cur,hv,_⟩
   ·omega
   ·simp only [Value.slice.injEq] at hv
    refine ⟨g,hv.1,?_⟩
    have h := har.1.cells (g := g) (by rw [hv.1]; rfl) k _ (List.getElem?_eq_getElem hkv)
    rw [qeg rfl,Nat.zero_add] at h
    exact h
  obtain ⟨g,rfl,hc⟩ := hcell
  obtain ⟨v,hv⟩ : ∃ v,vs[k]'HKV.out = v := ⟨_,rfl⟩
  rw [hv] at hc
  have hcl := qad hc
  have HV := hid hv
  have HWK : Hid (wrap64 ((k : Int) + 1) = ((k + 1 : Nat) : Int)) := hid (by have := HLT.out; have := HLL.out; unfold wrap64; omega)
  obtain ⟨x,hxk⟩ : ∃ x,l[k]'HLT.out = x := ⟨_,rfl⟩
  have HXK := hid hxk
  have HCX : Hid (qbj x ≤ 1000000) := hid (by have := costs_at l k HLT.out; rw [hxk] at this; have := HCO.out; omega)
  have HNX0 : Hid (qbm (qMay cs) (fun b => B ≤ b) wx v x) := hid (by
   have := nodesG_at HNS.out k HLT.out HKV.out
   rw [hv,hxk] at this
   exact qbm.kept (fun s p i h => qMay_set h) HKX.out _ _ this)
  have HOX : Hid (qef x) := hid (by have := exs_at' HO.out k HLT.out; rw [hxk] at this; exact this)
  clear hlt hkv hv hxk hk
  go_wp2_with fail
  refine (HX.out x (by rw [← HXK.out]; exact List.getElem_mem _) B ao c v wx HNX0.out (HEL.out.named HKX.out) HLN.out HOX.out HCX.out (Nat.le_trans HB.out HKX.out.size)).mono ?_
  rintro e w3 ⟨hk3,hm3⟩
  have HK3 := hid (HKX.out.trans hk3)
  have HSH3 := hid (HSX.out.named hk3)
  cases hkp : kindP cs x with
  | error fl =>
    rw [hkp] at hm3
    simp only at hm3
    have hfl := hm3
    unfold qbr at hm3
    subst hm3
    simp only [Exit.then,Exit.inBlock]
    refine ⟨rfl,HK3.out,?_⟩
    unfold kindP
    rw [HFA.out]
    simp only
    rw [kinds_take_err l k HLT.out ks HKS.out (by rw [HXK.out]; exact hkp)]
    exact hfl
  | ok ka =>
    rw [hkp] at hm3
    obtain ⟨rfl,hq3⟩ := hm3
    have HKN := hid (kinds_take_ok l k HLT.out ks HKS.out (by rw [HXK.out]; exact hkp))
    have HDN3 := hid (done_next HDN.out hk3 HLT.out HKV.out (by rw [HV.out,HXK.out]; exact hq3))
    clear hk3 hkp hq3 hc hcl
    have hsz : ks.length < l.length := by rw [HKSL.out]; exact HLT.out
    cases ft with
    | false =>
      have HNX : Hid (foldK ar l.length (ks ++ [ka]) = (sh,false)) := hid (by rw [fold_no (by rw [HFO.out]) hsz,HFO.out])
      clear hsz
      go_wp2_with fail
      try simp only [HWK.out]
      refine Round.mk' HR2.out Hmu2.out rfl ?_ ?_
      ·exact ⟨k + 1,ks ++ [ka],rfl,by rw [HNX.out]; rfl,by rw [HNX.out]; rfl,HLT.out,HKN.out,HK3.out,HSH3.out,HDN3.out⟩
      ·rw [Hh42.out]; have := HLT.out; simp [intOf,qas]; omega
    | true =>
      obtain ⟨har,hst⟩ := fold_yes (a := ka) (by rw [HFO.out]) hsz
      rw [HFO.out,HKSL.out] at hst
      obtain ⟨q,hq⟩ : ∃ q,ar.getD k 0 = q := ⟨_,rfl⟩
      rw [hq] at hst
      have HST := hid hst
      obtain ⟨s0,s1,s2⟩ := HSH3.out.cells
      have s2 := s2 k (by rw [har]; exact HLT.out)
      rw [hq] at s2
      have hka : (k : Int) < ar.length := by rw [har]; have := HLT.out; omega
      have hk0 : (0 : Int) ≤ k := by omega
      have sl := qad s0
      have sl2 := qad s2
      have HARL := hid har
      clear hsz hst hq s1 har
      by_cases q0 : q = 0
      ·have HNX : Hid (foldK ar l.length (ks ++ [ka]) = (sh,true)) := hid (by rw [HST.out]; unfold stepF; rw [if_pos (.inr q0)])
       subst q0
       go_wp2_with fail
       try simp only [HWK.out]
       refine Round.mk' HR2.out Hmu2.out rfl ?_ ?_
       ·exact ⟨k + 1,ks ++ [ka],rfl,by rw [HNX.out]; rfl,by rw [HNX.out]; rfl,HLT.out,HKN.out,HK3.out,HSH3.out,HDN3.out⟩
       ·rw [Hh42.out]; have := HLT.out; simp [intOf,qas]; omega
      ·by_cases q9 : q = 9
       ·by_cases sh0 : sh = 0
        ·have HNX : Hid (foldK ar l.length (ks ++ [ka]) = (ka,true)) := hid (by rw [HST.out]; unfold stepF; rw [if_neg (by simp [q0]),if_pos q9,if_pos sh0])
         subst q9
         subst sh0
         clear q0
         go_wp2_with fail
         try simp only [HWK.out]
         refine Round.mk' HR2.out Hmu2.out rfl ?_ ?_
         ·exact ⟨k + 1,ks ++ [ka],rfl,by rw [HNX.out]; rfl,by rw [HNX.out]; rfl,HLT.out,HKN.out,HK3.out,HSH3.out,HDN3.out⟩
         ·rw [Hh42.out]; have := HLT.out; simp [intOf,qas]; omega
        ·obtain ⟨bq,hbq⟩ : ∃ b,decide (ka = sh) = b := ⟨_,rfl⟩
         have HNX : Hid (foldK ar l.length (ks ++ [ka]) = (sh,bq)) := hid (by rw [HST.out]; unfold stepF; rw [if_neg (by simp [q0]),if_pos q9,if_neg sh0]; simp [hbq])
         have hbe : (ka == sh) = bq := by rw [← hbq,Bool.eq_iff_iff]; simp
         subst q9
         clear q0 hbq
         go_wp2_with fail
         try simp only [HWK.out]
         refine Round.mk' HR2.out Hmu2.out rfl ?_ ?_
         ·exact ⟨k + 1,ks ++ [ka],rfl,by rw [HNX.out]; rfl,by rw [HNX.out]; rfl,HLT.out,HKN.out,HK3.out,HSH3.out,HDN3.out⟩
         ·rw [Hh42.out]; have := HLT.out; simp [intOf,qas]; omega
       ·obtain ⟨bq,hbq⟩ : ∃ b,decide (ka = q) = b := ⟨_,rfl⟩
        have HNX : Hid (foldK ar l.length (ks ++ [ka]) = (sh,bq)) := hid (by rw [HST.out]; unfold stepF; rw [if_neg (by simp [q0]),if_neg q9]; simp [hbq])
        have hbe : (ka == q) = bq := by rw [← hbq,Bool.eq_iff_iff]; simp
        clear hbq
        go_wp2_with fail
        try simp only [HWK.out]
        refine Round.mk' HR2.out Hmu2.out rfl ?_ ?_
        ·exact ⟨k + 1,ks ++ [ka],rfl,by rw [HNX.out]; rfl,by rw [HNX.out]; rfl,HLT.out,HKN.out,HK3.out,HSH3.out,HDN3.out⟩
        ·rw [Hh42.out]; have := HLT.out; simp [intOf,qas]; omega
 ·have hki : ¬ (k : Int) < l.length := by omega
  obtain rfl : k = l.length := by omega
  have hksl := HKS.out
  rw [List.take_length] at hksl
  have HKT := hid hksl
  have hck := callK_fold (ks := ks) HFA.out
  rw [HKSL.out,HFO.out] at hck
  have HCK := hid hck
  obtain ⟨s0,s1,s2⟩ := HSX.out.cells
  have sl := qad s0
  have q1 : wx.cell? ⟨N,1,none⟩ = some (.int .i64 (p : Int)) := qac (i := 1) (HKX.out.obj HOBJ.out (by decide)) rfl
  have ql := qad q1
  have HNODE : Hid (qbm (qIdx cs) (fun b => B ≤ b) wx (.iface 168 (.pointer (some ⟨N,0,none⟩))) (.call f p l)) := hid (by
   unfold qbm
   exact ⟨N,vs,_,HN.out,rfl,HKX.out.obj HOBJ.out (by decide),args_named HAR.out HKX.out,nodesG_of HVL.out fun i h1 h2 => HDN.out i h1 h1 h2⟩)
  clear hlt hk hksl hck s0 s2
  cases ft with
  | false =>
    go_wp2_with fail
    refine (qbn 3 p _).mono ?_
    rintro e w' ⟨hfl,hw'⟩
    subst w'
    have hfl' := hfl
    unfold qbr at hfl
    subst hfl
    simp only [Exit.then,Exit.inBlock]
    refine ⟨rfl,HKX.out,?_⟩
    unfold kindP
    rw [HFA.out]
    simp only
    rw [HKT.out]
    simp only
    rw [HCK.out]
    exact hfl'
  | true =>
    have hans : kindP cs (.call f p l) = .ok (if out = 9 then sh else out) := by
     unfold kindP
     rw [HFA.out]
     simp only
     rw [HKT.out]
     simp only
     rw [HCK.out]
     simp only [if_true]
    by_cases h9 : out = 9
    ·have HANS : Hid (kindP cs (.call f p l) = .ok sh) := hid (by rw [hans,if_pos h9])
     subst h9
     clear hans
     go_wp2_with fail
     refine bodyPost_ret (results_tmp rfl _ _ _) rfl ⟨HKX.out,?_⟩
     rw [HANS.out]
     exact ⟨rfl,HNODE.out⟩
    ·have HANS : Hid (kindP cs (.call f p l) = .ok out) := hid (by rw [hans,if_neg h9])
     clear hans
     go_wp2_with fail
     refine bodyPost_ret (results_tmp rfl _ _ _) rfl ⟨HKX.out,?_⟩
     rw [HANS.out]
     exact ⟨rfl,HNODE.out⟩
attribute [local go_sem high] as_call no_call_lit no_call_name no_call_un no_call_bin
theorem kd_call (cs : List Col) (f : List UInt8) (p : Nat) (l : List Ex) (hx : ∀ x ∈ l,KdC cs x) : KdC cs (.call f p l) := by
 intro B ao c v w hn hel hlen ho hcost hB
 have hn' := hn
 unfold qbm at hn'
 obtain ⟨N,vs,a,-,rfl,-,-,-⟩ := hn'
 unfold qef at ho
 unfold qbj at hcost
 have H := hid (kind_any cs f p l hx B ao c N w hn hel hlen ho hcost hB)
 clear hel hlen ho hcost hB hn hx
 go_enter Tryz.func55,Tryz.ntmps55
 go_wp2_with fail
 refine H.out.mono ?_
 rintro e w1 ⟨hk,hm⟩
 cases hkp : kindP cs (.call f p l) with
 | error g =>
   rw [hkp] at hm
   simp only at hm
   have hfl := hm
   unfold qbr at hm
   subst hm
   simp only [Exit.then,Exit.inBlock]
   refine ⟨rfl,hk,?_⟩
   rw [hkp]
   exact hfl
 | ok k =>
   rw [hkp] at hm
   obtain ⟨rfl,hn1⟩ := hm
   have HK := hid hk; have HN1 := hid hn1; have HKP := hid hkp
   clear hk hn1 hkp
   go_wp2_with fail
   refine bodyPost_ret (results_tmp rfl _ _ _) rfl ⟨HK.out,?_⟩
   rw [HKP.out]
   exact ⟨rfl,HN1.out⟩
mutual
theorem kd_all (cs : List Col) : ∀ x : Ex,KdC cs x
 | .lit v => kd_lit cs v
 | .name s p => kd_name cs s p
 | .un neg p x => kd_un cs neg p x (kd_all cs x)
 | .bin o p x y => kd_bin cs o p x y (kd_all cs x) (kd_all cs y)
 | .call f p l => kd_call cs f p l (kds_all cs l)
theorem kds_all (cs : List Col) : ∀ l : List Ex,∀ x ∈ l,KdC cs x
 | [],_,h => absurd h (by simp)
 | y :: l,x,h => by
   rcases List.mem_cons.1 h with h | h
   ·rw [h]; exact kd_all cs y
   ·exact kds_all cs l x h
end
end Go.Proofs.YtgajofkeidjbgaaGreatDoor
