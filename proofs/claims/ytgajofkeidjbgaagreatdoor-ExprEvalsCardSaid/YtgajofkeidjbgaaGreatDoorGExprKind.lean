/-
  PROVED HERE: a part of the proof of ExprEvals: ExprKind, ExprDoc.
-/
import Derived.Test.YtgajofkeidjbgaaGreatDoorGDoor
import Derived.Test.YtgajofkeidjbgaaGreatDoorGTabExpr
namespace Go.Proofs.YtgajofkeidjbgaaGreatDoor
set_option linter.unusedSimpArgs false
set_option linter.unusedVariables false
open Go Go.RowKit
structure Col where
 s : List UInt8
 k : Int
def colAt (cs : List Col) (s : List UInt8) : Option Nat := cs.findIdx? fun c => c.s == s
abbrev catW : List UInt8 := [43,43]
abbrev andW : List UInt8 := [97,110,100]
abbrev orW : List UInt8 := [111,114]
abbrev lenW : List UInt8 := [108,101,110]
abbrev absW : List UInt8 := [97,98,115]
abbrev cutW : List UInt8 := [99,117,116]
abbrev qbv : List UInt8 := [105,115,110,117,108,108]
abbrev coalW : List UInt8 := [99,111,97,108,101,115,99,101]
abbrev ifW : List UInt8 := [105,102]
def opsW : List (List UInt8) := [orW,andW,[61],[60,62],[60],[60,61],[62],[62,61],[43],[45],catW,[42],[47],[37]]
def qct (o : List UInt8) : Nat := if o ∈ qaw 0 then 0 else if o ∈ qaw 1 then 1 else if o ∈ qaw 2 then 2 else if o ∈ qaw 3 then 3 else if o ∈ qaw 4 then 4 else 9
def binK (o : List UInt8) (a b : Int) : Option Int :=
 if qct o < 2 then (if a = 2 ∧ b = 2 then some 2 else none)
 else if qct o = 2 then (if b = a then some 2 else none)
 else if o = catW then (if a = 3 ∧ b = 3 then some 3 else none)
 else if a = 1 ∧ b = 1 then some 1 else none
def qem (f : List UInt8) : Option (List Int × Int) :=
 if f = lenW then some ([3],1) else if f = absW then some ([1],1) else if f = cutW then some ([3,1],3)
 else if f = qbv then some ([0],2) else if f = coalW then some ([9,9],9) else if f = ifW then some ([2,9,9],9) else none
def stepF (s : Int × Bool) (x : Int × Int) : Int × Bool :=
 if s.2 = false ∨ x.1 = 0 then s else if x.1 = 9 then (if s.1 = 0 then (x.2,s.2) else (s.1,s.2 && decide (x.2 = s.1))) else (s.1,s.2 && decide (x.2 = x.1))
def callK (f : List UInt8) (ks : List Int) : Option Int := match qem f with
 | none => none
 | some (ar,out) =>
   if ar.length ≠ ks.length then none
   else if ((ar.zip ks).foldl stepF (0,true)).2 = true then some (if out = 9 then ((ar.zip ks).foldl stepF (0,true)).1 else out) else none
mutual
def kindP (cs : List Col) : Ex → Except Fault Int
 | .lit v => .ok v.k
 | .name s p => match colAt cs s with
   | none => .error (2,p)
   | some i => .ok (cs.getD i ⟨[],0⟩).k
 | .un neg p x => match kindP cs x with
   | .error e => .error e
   | .ok k => if k = (if neg = true then 1 else 2) then .ok (if neg = true then 1 else 2) else .error (3,p)
 | .bin o p x y => match kindP cs x with
   | .error e => .error e
   | .ok a => match kindP cs y with
     | .error e => .error e
     | .ok b => match binK o a b with
       | none => .error (3,p)
       | some k => .ok k
 | .call f p l => match qem f with
   | none => .error (2,p)
   | some _ => match qbc cs l with
     | .error e => .error e
     | .ok ks => match callK f ks with
       | none => .error (3,p)
       | some k => .ok k
def qbc (cs : List Col) : List Ex → Except Fault (List Int)
 | [] => .ok []
 | x :: l => match kindP cs x with
   | .error e => .error e
   | .ok k => match qbc cs l with
     | .error e => .error e
     | .ok ks => .ok (k :: ks)
end
instance : DecidableEq Val := fun x y => decidable_of_iff (x.k = y.k ∧ x.n = y.n ∧ x.t = y.t) (by cases x; cases y; simp)
def intV (n : Int) : Val := ⟨1,n,ByteArray.empty⟩
def qav (b : Bool) : Val := ⟨2,if b = true then 1 else 0,ByteArray.empty⟩
def logicV (a b d : Val) : Val := if a = d ∨ b = d then d else if a.k = 0 ∨ b.k = 0 then qaa else a
def qcy (o : List UInt8) (a b : Val) : Val :=
 if o = [61] then qav (decide (qba a b = 0)) else if o = [60,62] then qav (decide (qba a b ≠ 0))
 else if o = [60] then qav (decide (qba a b < 0)) else if o = [60,61] then qav (decide (qba a b ≤ 0))
 else if o = [62] then qav (decide (0 < qba a b)) else if o = [62,61] then qav (decide (0 ≤ qba a b))
 else if o = catW then textV ((a.t.data.toList ++ b.t.data.toList).take 60)
 else if o = [43] then intV (wrap64 (a.n + b.n)) else if o = [45] then intV (wrap64 (a.n - b.n)) else if o = [42] then intV (wrap64 (a.n * b.n))
 else if b.n = 0 then qaa else if o = [47] then intV (wrap64 (a.n.tdiv b.n)) else intV (wrap64 (a.n.tmod b.n))
def qdk (o : List UInt8) (a b : Val) : Val :=
 if o = andW then logicV a b (qav false) else if o = orW then logicV a b (qav true)
 else if a.k = 0 ∨ b.k = 0 then qaa else qcy o a b
def qda (l : List Val) : Bool := l.any fun v => decide (v.k = 0)
def callV (f : List UInt8) (l : List Val) : Val :=
 if f = lenW then (if qda l = true then qaa else intV (l.getD 0 qaa).t.size)
 else if f = absW then (if qda l = true then qaa else intV (max (l.getD 0 qaa).n (wrap64 (-(l.getD 0 qaa).n))))
 else if f = cutW then (if qda l = true then qaa else textV ((l.getD 0 qaa).t.data.toList.take (max 0 (min ((l.getD 0 qaa).t.size : Int) (l.getD 1 qaa).n)).toNat))
 else if f = qbv then qav (decide ((l.getD 0 qaa).k = 0))
 else if f = coalW then (if (l.getD 0 qaa).k = 0 then l.getD 1 qaa else l.getD 0 qaa)
 else if l.getD 0 qaa = qav true then l.getD 1 qaa else l.getD 2 qaa
mutual
def qby (cs : List Col) (row : List Val) : Ex → Val
 | .lit v => v
 | .name s _ => match colAt cs s with
   | none => qaa
   | some i => row.getD i qaa
 | .un neg _ x => if (qby cs row x).k = 0 then qby cs row x else if neg = true then intV (wrap64 (-(qby cs row x).n)) else qav (decide ((qby cs row x).n = 0))
 | .bin o _ x y => qdk o (qby cs row x) (qby cs row y)
 | .call f _ l => callV f (qbe cs row l)
def qbe (cs : List Col) (row : List Val) : List Ex → List Val
 | [] => []
 | x :: l => qby cs row x :: qbe cs row l
end
mutual
def qef : Ex → Prop
 | .lit v => qbt v = true ∧ qdr v ∧ (v.k = 1 ∨ v.k = 2 ∨ v.k = 3)
 | .name _ _ => True
 | .un _ _ x => qef x
 | .bin o _ x y => o ∈ opsW ∧ qef x ∧ qef y
 | .call _ _ l => qel l
def qel : List Ex → Prop
 | [] => True
 | x :: l => qef x ∧ qel l
end
def K3 (k : Int) : Prop := k = 1 ∨ k = 2 ∨ k = 3
def ColsOk (cs : List Col) : Prop := ∀ c ∈ cs,K3 c.k
def qdv (v : Val) (k : Int) : Prop := qbt v = true ∧ qdr v ∧ (v.k = 0 ∨ v.k = k)
def FitsOk (cs : List Col) (row : List Val) : Prop := row.length = cs.length ∧ ∀ i (h : i < row.length) (h' : i < cs.length),qdv row[i] cs[i].k
theorem colAt_some {cs : List Col} {s : List UInt8} {i : Nat} (h : colAt cs s = some i) : ∃ h' : i < cs.length,cs[i].s = s := by
 unfold colAt at h
 obtain ⟨h1,h2,-⟩ := List.findIdx?_eq_some_iff_getElem.1 h
 exact ⟨h1,by simpa using h2⟩
theorem kind_name {cs : List Col} (hc : ColsOk cs) {s : List UInt8} {i : Nat} (h : colAt cs s = some i) : K3 (cs.getD i ⟨[],0⟩).k := by
 obtain ⟨h1,-⟩ := colAt_some h
 rw [List.getD_eq_getElem?_getD,List.getElem?_eq_getElem h1]
 exact hc _ (List.getElem_mem _)
theorem wrap64_ok (n : Int) : -9223372036854775808 ≤ wrap64 n ∧ wrap64 n ≤ 9223372036854775807 := by unfold wrap64; omega
theorem intV_of {n : Int} (h : -9223372036854775808 ≤ n ∧ n ≤ 9223372036854775807) : qdv (intV n) 1 := ⟨(by decide +kernel : (str ByteArray.empty).isEmpty = true),h,.inr rfl⟩
theorem truthV_of (b : Bool) : qdv (qav b) 2 := by cases b <;> exact ⟨by decide +kernel,by unfold qdr qav; simp,.inr rfl⟩
theorem qcw (k : Int) : qdv qaa k := ⟨by decide +kernel,by unfold qdr qaa; simp,.inl rfl⟩
theorem textV_of {l : List UInt8} (h : l.length ≤ 60) : qdv (textV l) 3 := by
 refine ⟨?_,by unfold qdr textV; simp,.inr rfl⟩
 unfold qbt textV
 rw [if_neg (fun h => by cases h),if_neg (fun h => by cases h),if_neg (fun h => by cases h),if_pos rfl]
 have : (qah l).size = l.length := qax l
 simp [this,h]
theorem opsW_cases {o : List UInt8} (h : o ∈ opsW) : o = orW ∨ o = andW ∨ o = [61] ∨ o = [60,62] ∨ o = [60] ∨ o = [60,61] ∨ o = [62] ∨ o = [62,61] ∨ o = [43] ∨ o = [45] ∨ o = catW ∨ o = [42] ∨ o = [47] ∨ o = [37] := by
 unfold opsW at h
 simpa only [List.mem_cons,List.not_mem_nil,or_false] using h
theorem bin_of {o : List UInt8} (ho : o ∈ opsW) {a b : Val} {ka kb k : Int} (ha : qdv a ka) (hb : qdv b kb) (h : binK o ka kb = some k) (ka3 : K3 ka) : K3 k ∧ qdv (qdk o a b) k := by
 have logic : ∀ d : Bool,ka = 2 → qdv (logicV a b (qav d)) 2 := by
  intro d hk
  unfold logicV
  split
  ·exact truthV_of d
  ·split
   ·exact qcw 2
   ·exact hk ▸ ha
 rcases opsW_cases ho with rfl | rfl | rfl | rfl | rfl | rfl | rfl | rfl | rfl | rfl | rfl | rfl | rfl | rfl
 ·have h : (if ka = 2 ∧ kb = 2 then some (2 : Int) else none) = some k := h
  split at h
  ·rename_i hk; cases h; exact ⟨.inr (.inl rfl),logic true hk.1⟩
  ·cases h
 ·have h : (if ka = 2 ∧ kb = 2 then some (2 : Int) else none) = some k := h
  split at h
  ·rename_i hk; cases h; exact ⟨.inr (.inl rfl),logic false hk.1⟩
  ·cases h
 iterate 6
  ·have h : (if kb = ka then some (2 : Int) else none) = some k := h
   split at h
   ·cases h
    refine ⟨.inr (.inl rfl),?_⟩
    show qdv (if a.k = 0 ∨ b.k = 0 then qaa else qav _) 2
    split
    ·exact qcw 2
    ·exact truthV_of _
   ·cases h
 iterate 2
  ·have h : (if ka = 1 ∧ kb = 1 then some (1 : Int) else none) = some k := h
   split at h
   ·cases h
    refine ⟨.inl rfl,?_⟩
    show qdv (if a.k = 0 ∨ b.k = 0 then qaa else intV (wrap64 _)) 1
    split
    ·exact qcw 1
    ·exact intV_of (wrap64_ok _)
   ·cases h
 ·have h : (if ka = 3 ∧ kb = 3 then some (3 : Int) else none) = some k := h
  split at h
  ·cases h
   refine ⟨.inr (.inr rfl),?_⟩
   show qdv (if a.k = 0 ∨ b.k = 0 then qaa else textV (List.take 60 _)) 3
   split
   ·exact qcw 3
   ·exact textV_of (by rw [List.length_take]; omega)
  ·cases h
 ·have h : (if ka = 1 ∧ kb = 1 then some (1 : Int) else none) = some k := h
  split at h
  ·cases h
   refine ⟨.inl rfl,?_⟩
   show qdv (if a.k = 0 ∨ b.k = 0 then qaa else intV (wrap64 _)) 1
   split
   ·exact qcw 1
   ·exact intV_of (wrap64_ok _)
  ·cases h
 iterate 2
  ·have h : (if ka = 1 ∧ kb = 1 then some (1 : Int) else none) = some k := h
   split at h
   ·cases h
    refine ⟨.inl rfl,?_⟩
    show qdv (if a.k = 0 ∨ b.k = 0 then qaa else if b.n = 0 then qaa else intV (wrap64 _)) 1
    split
    ·exact qcw 1
    ·split
     ·exact qcw 1
     ·exact intV_of (wrap64_ok _)
   ·cases h
def callD (f : List UInt8) (ks : List Int) : Option Int :=
 if f = lenW then (if ks = [3] then some 1 else none) else if f = absW then (if ks = [1] then some 1 else none)
 else if f = cutW then (if ks = [3,1] then some 3 else none) else if f = qbv then (if ks.length = 1 then some 2 else none)
 else if f = coalW then (match ks with | [a,b] => if a = b then some a else none | _ => none)
 else if f = ifW then (match ks with | [a,b,c] => if a = 2 ∧ b = c then some b else none | _ => none) else none
theorem call_same {f : List UInt8} {ks : List Int} (h : ∀ k ∈ ks,K3 k) : callK f ks = callD f ks := by
 have nz : ∀ k ∈ ks,k ≠ 0 := fun k hk => by rcases h k hk with h | h | h <;> omega
 unfold callK qem callD
 by_cases h1 : f = lenW
 ·simp only [h1,if_true,List.length_cons,List.length_nil]
  match ks,nz with
  | [],_ => rfl
  | [a],_ => by_cases ha : a = 3 <;> simp [stepF,ha]
  | _ :: _ :: _,_ => simp
 rw [if_neg h1,if_neg h1]
 by_cases h2 : f = absW
 ·simp only [h2,if_true,List.length_cons,List.length_nil]
  match ks,nz with
  | [],_ => rfl
  | [a],_ => by_cases ha : a = 1 <;> simp [stepF,ha]
  | _ :: _ :: _,_ => simp
 rw [if_neg h2,if_neg h2]
 by_cases h3 : f = cutW
 ·simp only [h3,if_true,List.length_cons,List.length_nil]
  match ks,nz with
  | [],_ => rfl
  | [a],_ => simp
  | [a,b],_ => by_cases ha : a = 3 <;> by_cases hb : b = 1 <;> simp [stepF,ha,hb]
  | _ :: _ :: _ :: _,_ => simp
 rw [if_neg h3,if_neg h3]
 by_cases h4 : f = qbv
 ·simp only [h4,if_true,List.length_cons,List.length_nil]
  match ks,nz with
  | [],_ => rfl
  | [a],_ => simp [stepF]
  | _ :: _ :: _,_ => simp
 rw [if_neg h4,if_neg h4]
 by_cases h5 : f = coalW
 ·simp only [h5,if_true,List.length_cons,List.length_nil]
  match ks,nz with
  | [],_ => rfl
  | [a],_ => simp
  | [a,b],nz =>
    have ha : a ≠ 0 := nz a (by simp)
    by_cases hb : b = a
    ·simp [stepF,ha,hb]
    ·have hb' : ¬ a = b := fun e => hb e.symm
     simp [stepF,ha,hb,hb']
  | _ :: _ :: _ :: _,_ => simp
 rw [if_neg h5,if_neg h5]
 by_cases h6 : f = ifW
 ·simp only [h6,if_true,List.length_cons,List.length_nil]
  match ks,nz with
  | [],_ => rfl
  | [a],_ => simp
  | [a,b],_ => simp
  | [a,b,c],nz =>
    have hb0 : b ≠ 0 := nz b (by simp)
    by_cases ha : a = 2
    ·by_cases hc : c = b
     ·simp [stepF,ha,hb0,hc]
     ·have hc' : ¬ b = c := fun e => hc e.symm
      simp [stepF,ha,hb0,hc,hc']
    ·simp [stepF,ha]
  | _ :: _ :: _ :: _ :: _,_ => simp
 rw [if_neg h6,if_neg h6]
theorem call_of {f : List UInt8} {l : List Val} {ks : List Int} {k : Int} (hl : l.length = ks.length) (hv : ∀ i (h : i < l.length) (h' : i < ks.length),qdv l[i] ks[i]) (h3 : ∀ k ∈ ks,K3 k) (h : callK f ks = some k) : K3 k ∧ qdv (callV f l) k := by
 rw [call_same h3] at h
 unfold callD at h
 unfold callV
 by_cases h1 : f = lenW
 ·rw [if_pos h1] at h ⊢
  split at h
  ·rename_i hk
   cases h
   subst hk
   match l,hl with
   | [a],_ =>
     refine ⟨.inl rfl,?_⟩
     have := hv 0 (by simp) (by simp)
     simp only [List.getElem_cons_zero] at this
     split
     ·exact qcw 1
     ·rename_i hn
      have ha : a.k = 3 := this.2.2.resolve_left fun e => hn (by simp [qda,e])
      have hs : a.t.size ≤ 60 := by
       have := this.1
       unfold qbt at this
       rw [if_neg (by omega),if_neg (by omega),if_neg (by omega),if_pos ha] at this
       simp at this; exact this.2
      clear hv h3 this
      exact intV_of (n := (a.t.size : Int)) (by omega)
  ·cases h
 rw [if_neg h1] at h ⊢
 by_cases h2 : f = absW
 ·rw [if_pos h2] at h ⊢
  split at h
  ·rename_i hk
   cases h
   subst hk
   match l,hl with
   | [a],_ =>
     refine ⟨.inl rfl,?_⟩
     have := hv 0 (by simp) (by simp)
     simp only [List.getElem_cons_zero] at this
     split
     ·exact qcw 1
     ·have h1 := this.2.1
      have h2 := wrap64_ok (-a.n)
      unfold qdr at h1
      exact intV_of (by show _ ≤ max a.n (wrap64 (-a.n)) ∧ max a.n (wrap64 (-a.n)) ≤ _; omega)
  ·cases h
 rw [if_neg h2] at h ⊢
 by_cases h3' : f = cutW
 ·rw [if_pos h3'] at h ⊢
  split at h
  ·rename_i hk
   cases h
   subst hk
   match l,hl with
   | [a,b],_ =>
     refine ⟨.inr (.inr rfl),?_⟩
     have := hv 0 (by simp) (by simp)
     simp only [List.getElem_cons_zero] at this
     split
     ·exact qcw 3
     ·rename_i hn
      have ha : a.k = 3 := this.2.2.resolve_left fun e => hn (by simp [qda,e])
      have hs : a.t.size ≤ 60 := by
       have := this.1
       unfold qbt at this
       rw [if_neg (by omega),if_neg (by omega),if_neg (by omega),if_pos ha] at this
       simp at this; exact this.2
      refine textV_of ?_
      show (List.take _ a.t.data.toList).length ≤ 60
      rw [List.length_take]
      have : a.t.data.toList.length = a.t.size := Array.length_toList
      omega
  ·cases h
 rw [if_neg h3'] at h ⊢
 by_cases h4 : f = qbv
 ·rw [if_pos h4] at h ⊢
  split at h
  ·cases h; exact ⟨.inr (.inl rfl),truthV_of _⟩
  ·cases h
 rw [if_neg h4] at h ⊢
 by_cases h5 : f = coalW
 ·rw [if_pos h5] at h ⊢
  match ks,hl,hv,h3,h with
  | [a,b],hl,hv,h3,h =>
    simp only at h
    split at h
    ·rename_i hab
     cases h
     subst hab
     refine ⟨h3 _ (by simp),?_⟩
     match l,hl,hv with
     | [x,y],_,hv =>
       have e0 := hv 0 (by simp) (by simp)
       have e1 := hv 1 (by simp) (by simp)
       simp only [List.getElem_cons_zero,List.getElem_cons_succ] at e0 e1
       show qdv (if x.k = 0 then y else x) _
       split
       ·exact e1
       ·exact e0
    ·cases h
  | [],_,_,_,h => cases h
  | [_],_,_,_,h => cases h
  | _ :: _ :: _ :: _,_,_,_,h => cases h
 rw [if_neg h5] at h ⊢
 by_cases h6 : f = ifW
 ·rw [if_pos h6] at h
  match ks,hl,hv,h3,h with
  | [a,b,c],hl,hv,h3,h =>
    simp only at h
    split at h
    ·rename_i hab
     cases h
     obtain ⟨-,rfl⟩ := hab
     refine ⟨h3 _ (by simp),?_⟩
     match l,hl,hv with
     | [x,y,z],_,hv =>
       have e1 := hv 1 (by simp) (by simp)
       have e2 := hv 2 (by simp) (by simp)
       simp only [List.getElem_cons_zero,List.getElem_cons_succ] at e1 e2
       show qdv (if x = qav true then y else z) _
       split
       ·exact e1
       ·exact e2
    ·cases h
  | [],_,_,_,h => cases h
  | [_],_,_,_,h => cases h
  | [_,_],_,_,_,h => cases h
  | _ :: _ :: _ :: _ :: _,_,_,_,h => cases h
 ·rw [if_neg h6] at h; cases h
mutual
theorem eval_of {cs : List Col} {row : List Val} (hc : ColsOk cs) (hr : FitsOk cs row) : ∀ (x : Ex) (k : Int),qef x → kindP cs x = .ok k → K3 k ∧ qdv (qby cs row x) k
 | .lit v,k,ho,h => by
   unfold qef at ho
   unfold kindP at h
   unfold qby
   cases h
   exact ⟨ho.2.2,ho.1,ho.2.1,.inr rfl⟩
 | .name s p,k,ho,h => by
   unfold kindP at h
   unfold qby
   cases hi : colAt cs s with
   | none => rw [hi] at h; cases h
   | some i =>
     rw [hi] at h
     cases h
     obtain ⟨h1,-⟩ := colAt_some hi
     refine ⟨kind_name hc hi,?_⟩
     have h2 : i < row.length := by rw [hr.1]; exact h1
     simp only
     have e1 : cs.getD i ⟨[],0⟩ = cs[i] := by rw [List.getD_eq_getElem?_getD,List.getElem?_eq_getElem h1]; rfl
     have e2 : row.getD i qaa = row[i] := by rw [List.getD_eq_getElem?_getD,List.getElem?_eq_getElem h2]; rfl
     rw [e1,e2]
     exact hr.2 i h2 h1
 | .un neg p x,k,ho,h => by
   unfold qef at ho
   unfold kindP at h
   unfold qby
   cases hx : kindP cs x with
   | error e => rw [hx] at h; cases h
   | ok a =>
     rw [hx] at h
     have ih := eval_of hc hr x a ho hx
     change (if a = (if neg = true then 1 else 2) then Except.ok (if neg = true then (1 : Int) else 2) else Except.error (3,p)) = Except.ok k at h
     by_cases ha : a = (if neg = true then 1 else 2)
     ·rw [if_pos ha] at h
      obtain rfl := Except.ok.inj h
      refine ⟨by split <;> simp [K3],?_⟩
      split
      ·exact ⟨ih.2.1,ih.2.2.1,.inl (by assumption)⟩
      ·split
       ·exact intV_of (wrap64_ok _)
       ·exact truthV_of _
     ·rw [if_neg ha] at h; cases h
 | .bin o p x y,k,ho,h => by
   unfold qef at ho
   unfold kindP at h
   unfold qby
   cases hx : kindP cs x with
   | error e => rw [hx] at h; cases h
   | ok a =>
     rw [hx] at h
     simp only at h
     cases hy : kindP cs y with
     | error e => rw [hy] at h; cases h
     | ok b =>
       rw [hy] at h
       simp only at h
       have i1 := eval_of hc hr x a ho.2.1 hx
       have i2 := eval_of hc hr y b ho.2.2 hy
       cases hk : binK o a b with
       | none => rw [hk] at h; cases h
       | some k' =>
         rw [hk] at h
         cases h
         exact bin_of ho.1 i1.2 i2.2 hk i1.1
 | .call f p l,k,ho,h => by
   unfold qef at ho
   unfold kindP at h
   unfold qby
   cases hf : qem f with
   | none => rw [hf] at h; cases h
   | some ar =>
     rw [hf] at h
     simp only at h
     cases hl : qbc cs l with
     | error e => rw [hl] at h; cases h
     | ok ks =>
       rw [hl] at h
       simp only at h
       have ih := evals_of hc hr l ks ho hl
       cases hk : callK f ks with
       | none => rw [hk] at h; cases h
       | some k' =>
         rw [hk] at h
         cases h
         exact call_of ih.1 ih.2.2 ih.2.1 hk
theorem evals_of {cs : List Col} {row : List Val} (hc : ColsOk cs) (hr : FitsOk cs row) : ∀ (l : List Ex) (ks : List Int),qel l → qbc cs l = .ok ks →
  (qbe cs row l).length = ks.length ∧ (∀ k ∈ ks,K3 k) ∧ ∀ i (h : i < (qbe cs row l).length) (h' : i < ks.length),qdv (qbe cs row l)[i] ks[i]
 | [],ks,_,h => by
   unfold qbc at h
   cases h
   unfold qbe
   exact ⟨rfl,by simp,fun i h => absurd h (by simp)⟩
 | x :: l,ks,ho,h => by
   unfold qel at ho
   unfold qbc at h
   unfold qbe
   cases hx : kindP cs x with
   | error e => rw [hx] at h; cases h
   | ok a =>
     rw [hx] at h
     simp only at h
     cases hl : qbc cs l with
     | error e => rw [hl] at h; cases h
     | ok ks' =>
       rw [hl] at h
       cases h
       have i1 := eval_of hc hr x a ho.1 hx
       have i2 := evals_of hc hr l ks' ho.2 hl
       refine ⟨by simp [i2.1],?_,?_⟩
       ·intro k hk
        rcases List.mem_cons.1 hk with rfl | hk
        ·exact i1.1
        ·exact i2.2.1 k hk
       ·intro i h1 h2
        match i with
        | 0 => exact i1.2
        | i + 1 => exact i2.2.2 i (by simpa using h1) (by simpa using h2)
end
abbrev minusN : List UInt8 := [109,105,110,117,115]
abbrev qcu : List UInt8 := [99,97,108,108]
def qat (what name : List UInt8) (a b : Val) : Val :=
 if what = andW then qav true else if what = orW then qav false else if what = notW then qav (decide (a.n = 0)) else if what = minusN then intV (wrap64 (-a.n))
 else if what = [61] then qav (decide (a = b)) else if what = [60,62] then qav (decide (a ≠ b)) else if what = [60] then qav (beforeV a b)
 else if what = [60,61] then qav (beforeV a b || decide (a = b)) else if what = [62] then qav (!beforeV a b && decide (a ≠ b)) else if what = [62,61] then qav (!beforeV a b)
 else if what = catW then textV ((a.t.data.toList ++ b.t.data.toList).take 60)
 else if what = [43] then intV (wrap64 (a.n + b.n)) else if what = [45] then intV (wrap64 (a.n - b.n)) else if what = [42] then intV (wrap64 (a.n * b.n))
 else if what = [47] ∨ what = [37] then (if b.n = 0 then qaa else if what = [47] then intV (wrap64 (a.n.tdiv b.n)) else intV (wrap64 (a.n.tmod b.n)))
 else if name = lenW then intV a.t.size else if name = absW then (if a.n < 0 then intV (wrap64 (-a.n)) else a)
 else textV (a.t.data.toList.take (if (a.t.size : Int) < (if b.n < 0 then 0 else b.n) then (a.t.size : Int) else if b.n < 0 then 0 else b.n).toNat)
def docV (what name : List UInt8) (v0 v1 v2 : Val) (nulls : Nat) : Val :=
 if what = andW ∧ (v0 = qav false ∨ v1 = qav false) then qav false
 else if what = orW ∧ (v0 = qav true ∨ v1 = qav true) then qav true
 else if what = qcu ∧ name = qbv then qav (decide (nulls = 1))
 else if what = qcu ∧ name = coalW then (if v0.k = 0 then v1 else v0)
 else if what = qcu ∧ name = ifW then (if v0 = qav true then v1 else v2)
 else if 0 < nulls then qaa else qat what name v0 v1
def nullN (l : List Val) : Nat := (l.filter fun v => decide (v.k = 0)).length
theorem before_irr (x : Val) : beforeV x x = false := by
 have h := bytes_tri (str x.t) (str x.t)
 unfold beforeV
 rw [if_pos rfl,if_pos rfl]
 cases hb : Op.bytesLess (str x.t) (str x.t) with
 | false => rfl
 | true => rw [hb] at h; simp at h
theorem eqV_iff (x y : Val) : eqV x y = true ↔ x = y := by
 rw [← signI_zero (l := beforeV x y),← compareV_eq]
 exact compareV_total.eq x y
theorem cmp_lt (x y : Val) : qba x y < 0 ↔ beforeV x y = true := by
 rw [compareV_eq]
 cases he : eqV x y with
 | true =>
   obtain rfl := (eqV_iff x y).1 he
   rw [before_irr]; simp [signI]
 | false => cases beforeV x y <;> simp [signI]
theorem cmp_zero (x y : Val) : qba x y = 0 ↔ x = y := compareV_total.eq x y
theorem null_is {v : Val} {k : Int} (h : qdv v k) (h0 : v.k = 0) : v = qaa := by
 rcases valid_cases h.1 with h | ⟨h,-⟩ | h | h | ⟨h,-⟩
 ·exact h
 ·omega
 ·rw [h] at h0; exact absurd h0 (by decide)
 ·rw [h] at h0; exact absurd h0 (by decide)
 ·rw [h] at h0; exact absurd h0 (by show ¬ (3 : Int) = 0; decide)
theorem bool_is {v : Val} (h : qdv v 2) : v = qaa ∨ v = qav false ∨ v = qav true := by
 rcases valid_cases h.1 with h' | ⟨h',-⟩ | h' | h' | ⟨h',-⟩
 ·exact .inl h'
 ·rcases h.2.2 with h2 | h2 <;> omega
 ·exact .inr (.inl h')
 ·exact .inr (.inr h')
 ·have : v.k = 3 := by rw [h']; rfl
  rcases h.2.2 with h2 | h2 <;> omega
theorem int_is {v : Val} (h : qdv v 1) (h0 : v.k ≠ 0) : v = intV v.n := by
 rcases valid_cases h.1 with h' | ⟨h1,h2⟩ | h' | h' | ⟨h',-⟩
 ·rw [h'] at h0; exact absurd rfl h0
 ·cases v; simp only at h1 h2; subst h1 h2; rfl
 ·have : v.k = 2 := by rw [h']
  rcases h.2.2 with h2 | h2 <;> omega
 ·have : v.k = 2 := by rw [h']
  rcases h.2.2 with h2 | h2 <;> omega
 ·have : v.k = 3 := by rw [h']; rfl
  rcases h.2.2 with h2 | h2 <;> omega
theorem nulls2 (a b : Val) : 0 < nullN [a,b] ↔ (a.k = 0 ∨ b.k = 0) := by
 unfold nullN
 by_cases h1 : a.k = 0 <;> by_cases h2 : b.k = 0 <;> simp [h1,h2]
theorem doc_un {neg : Bool} {v : Val} {nm : List UInt8} (h : qdv v (if neg = true then 1 else 2)) :
  docV (if neg = true then minusN else notW) nm v qaa qaa (nullN [v]) = if v.k = 0 then v else if neg = true then intV (wrap64 (-v.n)) else qav (decide (v.n = 0)) := by
 by_cases h0 : v.k = 0
 ·rw [if_pos h0]
  obtain rfl := null_is h h0
  cases neg <;> rfl
 ·rw [if_neg h0]
  have hn : nullN [v] = 0 := by unfold nullN; simp [h0]
  rw [hn]
  cases neg <;> rfl
theorem doc_bin {o nm : List UInt8} (ho : o ∈ opsW) {a b : Val} {ka kb k : Int} (ha : qdv a ka) (hb : qdv b kb) (h : binK o ka kb = some k) : docV o nm a b qaa (nullN [a,b]) = qdk o a b := by
 rcases opsW_cases ho with rfl | rfl | rfl | rfl | rfl | rfl | rfl | rfl | rfl | rfl | rfl | rfl | rfl | rfl
 ·have h : (if ka = 2 ∧ kb = 2 then some (2 : Int) else none) = some k := h
  split at h
  ·rename_i hk
   obtain ⟨rfl,rfl⟩ := hk
   rcases bool_is ha with rfl | rfl | rfl <;> rcases bool_is hb with rfl | rfl | rfl <;> rfl
  ·cases h
 ·have h : (if ka = 2 ∧ kb = 2 then some (2 : Int) else none) = some k := h
  split at h
  ·rename_i hk
   obtain ⟨rfl,rfl⟩ := hk
   rcases bool_is ha with rfl | rfl | rfl <;> rcases bool_is hb with rfl | rfl | rfl <;> rfl
  ·cases h
 all_goals
  clear ho h ha hb
  by_cases hn : a.k = 0 ∨ b.k = 0
  ·have h1 : 0 < nullN [a,b] := (nulls2 a b).2 hn
   have e1 : ∀ o,o ≠ andW → o ≠ orW → o ≠ qcu → docV o nm a b qaa (nullN [a,b]) = qaa := fun o g1 g2 g3 => by
    unfold docV
    rw [if_neg (fun h => g1 h.1),if_neg (fun h => g2 h.1),if_neg (fun h => g3 h.1),if_neg (fun h => g3 h.1),if_neg (fun h => g3 h.1),if_pos h1]
   have e2 : ∀ o,o ≠ andW → o ≠ orW → qdk o a b = qaa := fun o g1 g2 => by unfold qdk; rw [if_neg g1,if_neg g2,if_pos hn]
   rw [e1 _ (by decide) (by decide) (by decide),e2 _ (by decide) (by decide)]
  ·have h1 : ¬ 0 < nullN [a,b] := fun h => hn ((nulls2 a b).1 h)
   have e1 : ∀ o,o ≠ andW → o ≠ orW → o ≠ qcu → docV o nm a b qaa (nullN [a,b]) = qat o nm a b := fun o g1 g2 g3 => by
    unfold docV
    rw [if_neg (fun h => g1 h.1),if_neg (fun h => g2 h.1),if_neg (fun h => g3 h.1),if_neg (fun h => g3 h.1),if_neg (fun h => g3 h.1),if_neg h1]
   have e2 : ∀ o,o ≠ andW → o ≠ orW → qdk o a b = qcy o a b := fun o g1 g2 => by unfold qdk; rw [if_neg g1,if_neg g2,if_neg hn]
   rw [e1 _ (by decide) (by decide) (by decide),e2 _ (by decide) (by decide)]
   have c1 : decide (qba a b = 0) = decide (a = b) := by rw [Bool.eq_iff_iff]; simp [cmp_zero]
   have c2 : decide (qba a b ≠ 0) = decide (a ≠ b) := by rw [Bool.eq_iff_iff]; simp [cmp_zero]
   have c3 : decide (qba a b < 0) = beforeV a b := by rw [Bool.eq_iff_iff]; simp [cmp_lt]
   have c4 : decide (qba a b ≤ 0) = (beforeV a b || decide (a = b)) := by
    rw [Bool.eq_iff_iff]; simp only [Bool.or_eq_true,decide_eq_true_eq,← cmp_lt,← cmp_zero]; omega
   have c5 : decide (0 < qba a b) = (!beforeV a b && decide (a ≠ b)) := by
    rw [← c3,← c2]; rw [Bool.eq_iff_iff]; simp; omega
   have c6 : decide (0 ≤ qba a b) = !beforeV a b := by
    rw [← c3]; rw [Bool.eq_iff_iff]; simp
   first
    | rfl
    | (show qav (decide (a = b)) = qav (decide (qba a b = 0)); rw [c1])
    | (show qav (decide (a ≠ b)) = qav (decide (qba a b ≠ 0)); rw [c2])
    | (show qav (beforeV a b) = qav (decide (qba a b < 0)); rw [c3])
    | (show qav (beforeV a b || decide (a = b)) = qav (decide (qba a b ≤ 0)); rw [c4])
    | (show qav (!beforeV a b && decide (a ≠ b)) = qav (decide (0 < qba a b)); rw [c5])
    | (show qav (!beforeV a b) = qav (decide (0 ≤ qba a b)); rw [c6])
theorem doc_call {f : List UInt8} {l : List Val} {ks : List Int} {k : Int} (hl : l.length = ks.length) (hv : ∀ i (h : i < l.length) (h' : i < ks.length),qdv l[i] ks[i]) (h3 : ∀ k ∈ ks,K3 k) (h : callK f ks = some k) :
  docV qcu f (l.getD 0 qaa) (l.getD 1 qaa) (l.getD 2 qaa) (nullN l) = callV f l := by
 rw [call_same h3] at h
 unfold callD at h
 have pass : ∀ v0 v1 v2 n,f ≠ qbv → f ≠ coalW → f ≠ ifW → docV qcu f v0 v1 v2 n = if 0 < n then qaa else qat qcu f v0 v1 := fun v0 v1 v2 n g1 g2 g3 => by
  unfold docV
  rw [if_neg (fun h => absurd h.1 (by decide)),if_neg (fun h => absurd h.1 (by decide)),if_neg (fun h => g1 h.2),if_neg (fun h => g2 h.2),if_neg (fun h => g3 h.2)]
 have nul : ∀ l : List Val,(0 < nullN l) = (qda l = true) := fun l => by
  unfold nullN qda
  rw [List.length_pos_iff_exists_mem]
  simp
 by_cases h1 : f = lenW
 ·rw [if_pos h1] at h
  split at h
  ·rename_i hk
   subst h1 hk
   match l,hl with
   | [a],_ =>
     rw [pass _ _ _ _ (by decide) (by decide) (by decide)]
     simp only [nul]
     rfl
  ·cases h
 rw [if_neg h1] at h
 by_cases h2 : f = absW
 ·rw [if_pos h2] at h
  split at h
  ·rename_i hk
   subst h2 hk
   match l,hl with
   | [a],_ =>
     have hva := hv 0 (by simp) (by simp)
     simp only [List.getElem_cons_zero] at hva
     rw [pass _ _ _ _ (by decide) (by decide) (by decide)]
     simp only [nul]
     show (if qda [a] = true then qaa else if a.n < 0 then intV (wrap64 (-a.n)) else a) = if qda [a] = true then qaa else intV (max a.n (wrap64 (-a.n)))
     by_cases hn : qda [a] = true
     ·rw [if_pos hn,if_pos hn]
     ·rw [if_neg hn,if_neg hn]
      have ha : a.k ≠ 0 := fun e => hn (by simp [qda,e])
      have ho := hva.2.1
      unfold qdr at ho
      by_cases hneg : a.n < 0
      ·rw [if_pos hneg]
       congr 1
       have : a.n ≤ wrap64 (-a.n) := by unfold wrap64; omega
       omega
      ·rw [if_neg hneg]
       have e : max a.n (wrap64 (-a.n)) = a.n := by
        have : wrap64 (-a.n) ≤ a.n := by unfold wrap64; omega
        omega
       rw [e]
       exact int_is hva ha
  ·cases h
 rw [if_neg h2] at h
 by_cases h3' : f = cutW
 ·rw [if_pos h3'] at h
  split at h
  ·rename_i hk
   subst h3' hk
   match l,hl with
   | [a,b],_ =>
     rw [pass _ _ _ _ (by decide) (by decide) (by decide)]
     simp only [nul]
     show (if qda [a,b] = true then qaa else textV (a.t.data.toList.take _)) = if qda [a,b] = true then qaa else textV (a.t.data.toList.take _)
     congr 3
     show Int.toNat (if (a.t.size : Int) < (if b.n < 0 then 0 else b.n) then (a.t.size : Int) else if b.n < 0 then 0 else b.n) = (max 0 (min (a.t.size : Int) b.n)).toNat
     split <;> split <;> omega
  ·cases h
 rw [if_neg h3'] at h
 by_cases h4 : f = qbv
 ·rw [if_pos h4] at h
  split at h
  ·rename_i hk
   subst h4
   match l,hl,hk with
   | [a],_,_ =>
     show qav (decide (nullN [a] = 1)) = qav (decide (a.k = 0))
     unfold nullN
     by_cases h0 : a.k = 0 <;> simp [h0]
   | [],hl,hk => simp at hl; omega
   | _ :: _ :: _,hl,hk => simp at hl; omega
  ·cases h
 rw [if_neg h4] at h
 by_cases h5 : f = coalW
 ·subst h5
  rfl
 rw [if_neg h5] at h
 by_cases h6 : f = ifW
 ·subst h6
  rfl
 ·rw [if_neg h6] at h; cases h
def brk (b : Bool) (l : List UInt8) : List UInt8 := if b = true then 40 :: (l ++ [41]) else l
mutual
def printP : Ex → Nat → List UInt8
 | .lit v,_ => qbs v
 | .name s _,_ => s
 | .un neg _ x,L => brk (decide ((if neg = true then 5 else 2) < L)) ((if neg = true then [45] else [110,111,116,32]) ++ printP x (if neg = true then 5 else 2))
 | .bin o _ x y,L => brk (decide (qct o < L)) (printP x (if qct o = 2 then 3 else qct o) ++ (32 :: (o ++ [32]) ++ printP y (qct o + 1)))
 | .call f _ l,_ => f ++ [40] ++ (printsP false l ++ [41])
def printsP : Bool → List Ex → List UInt8
 | _,[] => []
 | more,x :: l => (if more = true then [44,32] else []) ++ (printP x 0 ++ printsP true l)
end
mutual
def printD : Ex → Nat → List UInt8
 | .lit v,q => brk (decide (9 < q)) (qbs v)
 | .name s _,q => brk (decide (9 < q)) s
 | .un neg _ x,q => brk (decide ((if neg = true then 7 else 3) < q)) ((if neg = true then [45] else [110,111,116,32]) ++ printD x (if neg = true then 7 else 3))
 | .bin o _ x y,q => brk (decide (powS o < q)) (printD x (if powS o = 4 then 5 else powS o) ++ (32 :: (o ++ [32]) ++ printD y (powS o + 1)))
 | .call f _ l,q => brk (decide (9 < q)) (f ++ [40] ++ (printsD false l ++ [41]))
def printsD : Bool → List Ex → List UInt8
 | _,[] => []
 | more,x :: l => (if more = true then [44,32] else []) ++ (printD x 0 ++ printsD true l)
end
def Corr (L q : Nat) : Prop := L ≤ 5 ∧ (q = qdf L ∨ (L = 0 ∧ q = 1))
theorem Corr.vals {L q : Nat} (h : Corr L q) : (L = 0 ∧ (q = 0 ∨ q = 1)) ∨ (L = 1 ∧ q = 2) ∨ (L = 2 ∧ q = 3) ∨ (L = 3 ∧ q = 5) ∨ (L = 4 ∧ q = 6) ∨ (L = 5 ∧ q = 7) := by
 obtain ⟨h1,h2⟩ := h
 match L,h1,h2 with
 | 0,_,h2 =>
   rcases h2 with h2 | h2
   ·exact .inl ⟨rfl,.inl h2⟩
   ·exact .inl ⟨rfl,.inr h2.2⟩
 | 1,_,h2 =>
   rcases h2 with h2 | h2
   ·exact .inr (.inl ⟨rfl,h2⟩)
   ·omega
 | 2,_,h2 =>
   rcases h2 with h2 | h2
   ·exact .inr (.inr (.inl ⟨rfl,h2⟩))
   ·omega
 | 3,_,h2 =>
   rcases h2 with h2 | h2
   ·exact .inr (.inr (.inr (.inl ⟨rfl,h2⟩)))
   ·omega
 | 4,_,h2 =>
   rcases h2 with h2 | h2
   ·exact .inr (.inr (.inr (.inr (.inl ⟨rfl,h2⟩))))
   ·omega
 | 5,_,h2 =>
   rcases h2 with h2 | h2
   ·exact .inr (.inr (.inr (.inr (.inr ⟨rfl,h2⟩))))
   ·omega
theorem op_corr {o : List UInt8} (ho : o ∈ opsW) : (qct o = 0 ∧ powS o = 1) ∨ (qct o = 1 ∧ powS o = 2) ∨ (qct o = 2 ∧ powS o = 4) ∨ (qct o = 3 ∧ powS o = 5) ∨ (qct o = 4 ∧ powS o = 6) := by
 rcases opsW_cases ho with rfl | rfl | rfl | rfl | rfl | rfl | rfl | rfl | rfl | rfl | rfl | rfl | rfl | rfl <;> decide
mutual
theorem print_same : ∀ (x : Ex) (L q : Nat),qef x → Corr L q → printP x L = printD x q
 | .lit v,L,q,_,hc => by
   unfold printP printD brk
   have := hc.vals
   rw [if_neg (by simp; omega)]
 | .name s p,L,q,_,hc => by
   unfold printP printD brk
   have := hc.vals
   rw [if_neg (by simp; omega)]
 | .un neg p x,L,q,ho,hc => by
   unfold qef at ho
   unfold printP printD
   have hv := hc.vals
   cases neg with
   | true =>
     simp only [if_true]
     rw [print_same x 5 7 ho ⟨by omega,.inl rfl⟩]
     congr 1
     rw [Bool.eq_iff_iff]; simp; omega
   | false =>
     simp only [Bool.false_eq_true,if_false]
     rw [print_same x 2 3 ho ⟨by omega,.inl rfl⟩]
     congr 1
     rw [Bool.eq_iff_iff]; simp; omega
 | .bin o p x y,L,q,ho,hc => by
   unfold qef at ho
   unfold printP printD
   have hv := hc.vals
   have hp := op_corr ho.1
   have e1 : Corr (if qct o = 2 then 3 else qct o) (if powS o = 4 then 5 else powS o) := by
    rcases hp with ⟨h1,h2⟩ | ⟨h1,h2⟩ | ⟨h1,h2⟩ | ⟨h1,h2⟩ | ⟨h1,h2⟩ <;> rw [h1,h2]
    ·exact ⟨by simp,.inr ⟨rfl,rfl⟩⟩
    ·exact ⟨by simp,.inl rfl⟩
    ·exact ⟨by simp,.inl rfl⟩
    ·exact ⟨by simp,.inl rfl⟩
    ·exact ⟨by simp,.inl rfl⟩
   have e2 : Corr (qct o + 1) (powS o + 1) := by
    rcases hp with ⟨h1,h2⟩ | ⟨h1,h2⟩ | ⟨h1,h2⟩ | ⟨h1,h2⟩ | ⟨h1,h2⟩ <;> rw [h1,h2] <;> exact ⟨by simp,.inl rfl⟩
   rw [print_same x _ _ ho.2.1 e1,print_same y _ _ ho.2.2 e2]
   congr 1
   rw [Bool.eq_iff_iff]; simp; omega
 | .call f p l,L,q,ho,hc => by
   unfold qef at ho
   unfold printP printD
   have hv := hc.vals
   rw [prints_same l false ho]
   unfold brk
   rw [if_neg (by simp; omega)]
theorem prints_same : ∀ (l : List Ex) (more : Bool),qel l → printsP more l = printsD more l
 | [],_,_ => by unfold printsP printsD; rfl
 | x :: l,more,ho => by
   unfold qel at ho
   unfold printsP printsD
   rw [print_same x 0 0 ho.1 ⟨by omega,.inl rfl⟩,prints_same l true ho.2]
end
end Go.Proofs.YtgajofkeidjbgaaGreatDoor
