/-
  PROVED HERE: a part of the proof of ExprEvals: RKind3.
-/
import Derived.Test.YtgajofkeidjbgaaGreatDoorShort
import Derived.Test.YtgajofkeidjbgaaGreatDoorGRKind2
import Derived.Test.YtgajofkeidjbgaaGreatDoorGKindCall
namespace Go.Proofs.YtgajofkeidjbgaaGreatDoor
set_option linter.unusedSimpArgs false
set_option linter.unusedVariables false
set_option maxHeartbeats 8000000
set_option maxRecDepth 100000
open Go.RowKit
def qbw : Ex → List Ex
 | .un _ _ x => [x]
 | .bin _ _ x y => [x,y]
 | .call _ _ l => l
 | _ => []
def isKid : Ex → Bool
 | .lit _ => false
 | .name _ _ => false
 | _ => true
def isCallE : Ex → Bool
 | .call _ _ _ => true
 | _ => false
def placeE : Ex → Nat
 | .name _ p => p
 | .un _ p _ => p
 | .bin _ p _ _ => p
 | .call _ p _ => p
 | _ => 0
def qdj : Ex → List UInt8
 | .call f _ _ => f
 | _ => []
def resE (x : Ex) (ks : List Int) : Option Int := match x with
 | .un neg _ _ => if ks.getD 0 0 = (if neg = true then 1 else 2) then some (if neg = true then 1 else 2) else none
 | .bin o _ _ _ => binK o (ks.getD 0 0) (ks.getD 1 0)
 | .call f _ _ => callD f ks
 | _ => none
theorem EIn.kids {S : Nat → Prop} {w : World} {B : Nat} {x : Ex} (h : EIn S w (.pointer (some ⟨B,0,none⟩)) x) (hk : isKid x = true) : ∃ (a : Value) (us : List Value) (v1 v2 v3 nm : Value),
  w.heap[B]? = some (.cells #[.string (qah (qen x)),.int .i64 (placeE x : Int),a,v1,v2,v3,nm] 77 (0,0)) ∧ KidsIn S w a us ∧ EsIn S w us (qbw x) ∧ (isCallE x = true → nm = .string (qah (qdj x))) := by
 cases x with
 | lit v => cases hk
 | name s p => cases hk
 | un neg p x =>
   unfold EIn at h
   obtain ⟨B',a,u,v1,v2,v3,nm,-,hB,ho,h1,h2⟩ := h
   obtain rfl := ptr_inj hB
   exact ⟨a,[u],v1,v2,v3,nm,ho,h1,by unfold qbw EsIn; exact ⟨h2,by unfold EsIn; trivial⟩,fun h => by cases h⟩
 | bin o p x y =>
   unfold EIn at h
   obtain ⟨B',a,u1,u2,v1,v2,v3,nm,-,hB,ho,h1,h2,h3⟩ := h
   obtain rfl := ptr_inj hB
   exact ⟨a,[u1,u2],v1,v2,v3,nm,ho,h1,by unfold qbw EsIn; exact ⟨h2,by unfold EsIn; exact ⟨h3,by unfold EsIn; trivial⟩⟩,fun h => by cases h⟩
 | call f p l =>
   unfold EIn at h
   obtain ⟨B',a,us,v1,v2,v3,-,hB,ho,h1,h2⟩ := h
   obtain rfl := ptr_inj hB
   exact ⟨a,us,v1,v2,v3,_,ho,h1,h2,fun _ => rfl⟩
theorem row_null {cs : List Col} : FitsOk cs (cs.map fun _ => qaa) := ⟨by simp,fun i h h' => by simp; exact qcw _⟩
theorem kinds_k3 {cs : List Col} (hc : ColsOk cs) {l : List Ex} {ks : List Int} (ho : qel l) (h : qbc cs l = .ok ks) : ∀ k ∈ ks,K3 k := (evals_of hc row_null l ks ho h).2.1
theorem kind_k3 {cs : List Col} (hc : ColsOk cs) {x : Ex} {k : Int} (ho : qef x) (h : kindP cs x = .ok k) : K3 k := (eval_of hc row_null x k ho h).1
theorem kind_kids {cs : List Col} (hc : ColsOk cs) {x : Ex} (hk : isKid x = true) (ho : qef x) : kindP cs x = if isCallE x = true ∧ argN (qdj x) < 0 then .error (2,placeE x) else match qbc cs (qbw x) with
  | .error f => .error f
  | .ok ks => match resE x ks with
    | none => .error (3,placeE x)
    | some k => .ok k := by
 cases x with
 | lit v => cases hk
 | name s p => cases hk
 | un neg p x =>
   rw [if_neg (by rintro ⟨h,-⟩; cases h)]
   unfold kindP qbw
   unfold qbc
   cases kindP cs x with
   | error f => rfl
   | ok k =>
     simp only
     unfold qbc
     simp only [resE,List.getD_cons_zero,placeE]
     by_cases h : k = (if neg = true then 1 else 2)
     ·rw [if_pos h,if_pos h]
     ·rw [if_neg h,if_neg h]
 | bin o p x y =>
   rw [if_neg (by rintro ⟨h,-⟩; cases h)]
   unfold kindP qbw
   unfold qbc
   cases kindP cs x with
   | error f => rfl
   | ok k =>
     simp only
     unfold qbc
     cases kindP cs y with
     | error f => rfl
     | ok b =>
       simp only
       unfold qbc
       rfl
 | call f p l =>
   unfold qef at ho
   unfold kindP
   cases hf : qem f with
   | none =>
     rw [if_pos ⟨rfl,by show argN f < 0; unfold argN; rw [hf]; decide⟩]
     rfl
   | some a =>
     rw [if_neg (by rintro ⟨-,h⟩; have h : argN f < 0 := h; unfold argN at h; rw [hf] at h; simp only at h; omega)]
     show (match qbc cs l with
      | .error e => _
      | .ok ks => match callK f ks with
        | none => _
        | some k => _) = match qbc cs l with
      | .error e => _
      | .ok ks => match callD f ks with
        | none => _
        | some k => _
     cases hl : qbc cs l with
     | error e => rfl
     | ok ks =>
       simp only
       rw [call_same (kinds_k3 hc ho hl)]
       rfl
def RKTo (cs : List Col) (x : Ex) (w : World) (e : Ending) (w' : World) : Prop := qag w w' ∧ match kindP cs x with
 | .ok k => e = .returned (.tuple #[.int .i64 k,.int .i64 0,.int .i64 0])
 | .error f => e = .returned (.tuple #[.int .i64 0,.int .i64 f.1,.int .i64 (f.2 : Int)])
def RKC (cs : List Col) (x : Ex) : Prop := ∀ (B : Nat) (S : Nat → Prop) (ao : Option Addr) (c : Nat) (w : World),EIn S w (.pointer (some ⟨B,0,none⟩)) x → ColsEl w ao cs → cs.length ≤ 140737488355328 → ColsOk cs → qef x → qbj x ≤ 1000000 →
 Calls Tryz.prog 31 #[.pointer (some ⟨B,0,none⟩),.slice ao cs.length c] w (RKTo cs x w)
theorem rkc_lit (cs : List Col) (v : Val) : RKC cs (.lit v) := by
 intro B S ao c w hn hel hlen hc ho hcost
 unfold EIn at hn
 obtain ⟨B',p,a,nm,-,hB,hobj⟩ := hn
 obtain rfl := ptr_inj hB
 obtain ⟨sv,hsv⟩ : ∃ s,s = qah valueN := ⟨_,rfl⟩
 rw [← hsv] at hobj
 have e1 : (sv.toList == [118,97,108,117,101]) = true := qay valueN hsv
 have c0 : w.cell? ⟨B,0,none⟩ = some (.string sv) := qac (i := 0) hobj rfl
 have c3 : w.cell? ⟨B,3,none⟩ = some (.int .i64 v.k) := qac (i := 3) hobj rfl
 have hlt := qad c0
 clear hel hlen hc ho hcost hobj hB hsv
 go_enter Tryz.func31,Tryz.ntmps31
 go_wp2_with fail
 refine bodyPost_ret (v := .tuple #[.int .i64 v.k,.int .i64 0,.int .i64 0]) (by simp [results,Tryz.results31,go_sem]) rfl ⟨qag.refl _,?_⟩
 unfold kindP
 rfl
theorem rkc_name (cs : List Col) (s : List UInt8) (p : Nat) : RKC cs (.name s p) := by
 intro B S ao c w hn hel hlen hc ho hcost
 unfold EIn at hn
 obtain ⟨B',a,v1,v2,v3,-,hB,hobj⟩ := hn
 obtain rfl := ptr_inj hB
 obtain ⟨sv,hsv⟩ : ∃ s,s = qah nameN := ⟨_,rfl⟩
 rw [← hsv] at hobj
 have HEL := hid hel; have HLN := hid hlen
 have e1 := qab [118,97,108,117,101] hsv (by decide)
 have e2 : (sv.toList == [110,97,109,101]) = true := qay nameN hsv
 have c0 : w.cell? ⟨B,0,none⟩ = some (.string sv) := qac (i := 0) hobj rfl
 have c1 : w.cell? ⟨B,1,none⟩ = some (.int .i64 (p : Int)) := qac (i := 1) hobj rfl
 have c6 : w.cell? ⟨B,6,none⟩ = some (.string (qah s)) := qac (i := 6) hobj rfl
 have hlt := qad c0
 clear hel hlen hc ho hcost hobj hB hsv
 go_enter Tryz.func31,Tryz.ntmps31
 go_wp2_with fail
 refine (rat_any ao c cs s w HEL.out HLN.out).mono ?_
 rintro e w' ⟨rfl,hw'⟩
 subst w'
 cases hi : colAt cs s with
 | none =>
   have HI := hid hi
   have hii : idxI (none : Option Nat) = -1 := rfl
   rw [hii]
   clear hi hii
   go_upto_region 6 with (fail)
   refine qaj (by kernel_rfl) (by kernel_rfl) qag qag.refl qag.trans (fun _ => none) (fun _ _ _ _ _ h => by cases h) ?_
   simp only [qam,Nat.reduceAdd]
   refine LexS.out ?_
   iterate 7
    first
    | (refine LexS.skip rfl ?_; simp only [Act.put,sib,List.set])
    | (refine LexS.one' rfl rfl ?_
       apply Exists.intro
       refine ⟨fun w hR hF => ?_,?_⟩
       ·have hP := hR
        repeat (first | replace hP := qag.of_drew hP | replace hP := qag.of_drewN hP | replace hP := qag.of_alloc hP)
        have hcs := hR.cells
        have zc1 := hP.cell c1
        clear hR hF hP
        go_simp
        first | done | rfl
       simp only [Act.put,sib,List.set])
   refine LexS.nil ?_
   intro w2 hL2 hF9
   clear hF9
   repeat (first | replace hL2 := qag.of_drew hL2 | replace hL2 := qag.of_drewN hL2 | replace hL2 := qag.of_alloc hL2)
   have HL2 := hid hL2
   clear hL2 c0 c1 c6 hlt
   go_wp2_with fail
   refine bodyPost_ret (v := .tuple #[.int .i64 0,.int .i64 2,.int .i64 (p : Int)]) (by simp [results,Tryz.results31,go_sem]) rfl ⟨HL2.out,?_⟩
   unfold kindP
   rw [HI.out]
 | some i =>
   have HI := hid hi
   have hii : idxI (some i) = (i : Int) := rfl
   rw [hii]
   obtain ⟨hic,-⟩ := colAt_some hi
   obtain ⟨b,o,rfl,-,hcol⟩ := HEL.out i hic
   obtain ⟨y,hy⟩ : ∃ y,cs[i]'hic = y := ⟨_,rfl⟩
   rw [hy] at hcol
   have HY : Hid (cs.getD i ⟨[],0⟩ = y) := hid (by rw [List.getD_eq_getElem?_getD,List.getElem?_eq_getElem hic,← hy]; rfl)
   obtain ⟨q1,q2⟩ := hcol
   have ql := qad q1
   have hi0 : ¬ (i : Int) < 0 := by omega
   have hil : (i : Int) < cs.length := by omega
   have hi1 : (0 : Int) ≤ i := by omega
   clear hi hy hii c0 c1 c6 hlt
   go_wp2_with fail
   refine bodyPost_ret (v := .tuple #[.int .i64 y.k,.int .i64 0,.int .i64 0]) (by simp [results,Tryz.results31,go_sem]) rfl ⟨qag.refl _,?_⟩
   unfold kindP
   rw [HI.out]
   simp only
   rw [HY.out]
theorem kinds_set {w : World} {b k : Nat} {ks : List Int} {a : Int} (h : qdc w b ks) (hk : ks.length = k) : (k < 4 → qdc (w.setCell ⟨b,k,none⟩ (.int .i64 a)) b (ks ++ [a])) ∧ (¬ k < 4 → qdc w b (ks ++ [a])) := by
 subst hk
 constructor
 ·intro h4
  unfold qdc at h ⊢
  rw [qak h]
  match ks,h4 with
  | [],_ => rfl
  | [x],_ => rfl
  | [x,y],_ => rfl
  | [x,y,z],_ => rfl
  | _ :: _ :: _ :: _ :: _,h4 => exact absurd h4 (by simp)
 ·intro h4
  have e : ∀ i,i < 4 → (ks ++ [a]).getD i 0 = ks.getD i 0 := fun i hi => by
   rw [List.getD_eq_getElem?_getD,List.getD_eq_getElem?_getD,List.getElem?_append_left (by omega)]
  unfold qdc at h ⊢
  rw [e 0 (by omega),e 1 (by omega),e 2 (by omega),e 3 (by omega)]
  exact h
theorem rres_short (B b m cp : Nat) (ao : Option Addr) (n : Int) (w : World) (hb : w.cell? ⟨B,0,none⟩ = some (.string (qah qcu))) (h2 : w.cell? ⟨B,2,none⟩ = some (.slice ao m cp)) (hne : (m : Int) ≠ n) :
  Calls Tryz.prog 60 #[.pointer (some ⟨B,0,none⟩),.int .i64 n,.slice (some ⟨b,0,none⟩) 4 4] w (ResTo none w) := by
 obtain ⟨sv,hsv⟩ : ∃ s,s = qah qcu := ⟨_,rfl⟩
 rw [← hsv] at hb
 have e0 := qab [110,111,116] hsv (by decide)
 have e1 := qab [109,105,110,117,115] hsv (by decide)
 have e2 := qab [97,110,100] hsv (by decide)
 have e3 := qab [111,114] hsv (by decide)
 have e4 := qab [43,43] hsv (by decide)
 have e5 : (sv.toList == [99,97,108,108]) = true := qay qcu hsv
 have hq : ((m : Int) == n) = false := by simpa using hne
 have hq' : ((m : Int) != n) = true := by simpa using hne
 have hlt := qad hb
 clear hne hsv
 go_enter Tryz.func60,Tryz.ntmps60
 go_wp2_with fail
 exact bodyPost_ret (results_tmp rfl _ _ _) rfl ⟨rfl,qag.refl _⟩
theorem argN_cases {f : List UInt8} (h : ¬ argN f < 0) : f = lenW ∨ f = absW ∨ f = qbv ∨ f = cutW ∨ f = coalW ∨ f = ifW := by
 unfold argN qem at h
 by_cases g0 : f = lenW
 ·exact .inl g0
 rw [if_neg g0] at h
 by_cases g1 : f = absW
 ·exact .inr (.inl g1)
 rw [if_neg g1] at h
 by_cases g2 : f = cutW
 ·exact .inr (.inr (.inr (.inl g2)))
 rw [if_neg g2] at h
 by_cases g3 : f = qbv
 ·exact .inr (.inr (.inl g3))
 rw [if_neg g3] at h
 by_cases g4 : f = coalW
 ·exact .inr (.inr (.inr (.inr (.inl g4))))
 rw [if_neg g4] at h
 by_cases g5 : f = ifW
 ·exact .inr (.inr (.inr (.inr (.inr g5))))
 rw [if_neg g5] at h
 exact absurd (by decide) h
theorem rres_any {x : Ex} (hi : isKid x = true) (ho : qef x) (B b m cp : Nat) (ao : Option Addr) (v1 v2 v3 nm pv : Value) (n : Int) (ks : List Int) (w : World)
  (hobj : w.heap[B]? = some (.cells #[.string (qah (qen x)),pv,.slice ao m cp,v1,v2,v3,nm] 77 (0,0))) (hnm : isCallE x = true → nm = .string (qah (qdj x)) ∧ n = argN (qdj x) ∧ ¬ argN (qdj x) < 0)
  (hk : qdc w b ks) (hlen : ks.length = m) : Calls Tryz.prog 60 #[.pointer (some ⟨B,0,none⟩),.int .i64 n,.slice (some ⟨b,0,none⟩) 4 4] w (ResTo (resE x ks) w) := by
 have c0 : w.cell? ⟨B,0,none⟩ = some (.string (qah (qen x))) := qac (i := 0) hobj rfl
 have c2 : w.cell? ⟨B,2,none⟩ = some (.slice ao m cp) := qac (i := 2) hobj rfl
 have c6 : w.cell? ⟨B,6,none⟩ = some nm := qac (i := 6) hobj rfl
 cases x with
 | lit v => cases hi
 | name s p => cases hi
 | un neg p y =>
   cases neg
   ·exact rres_not B b n ks w c0 hk
   ·exact rres_minus B b n ks w c0 hk
 | bin o p y z =>
   unfold qef at ho
   exact rres_bin o ho.1 B b n ks w c0 hk
 | call f p l =>
   obtain ⟨rfl,rfl,hn⟩ := hnm rfl
   have hn : ¬ argN f < 0 := hn
   by_cases hm : (m : Int) = argN f
   ·subst hlen
    rcases argN_cases hn with rfl | rfl | rfl | rfl | rfl | rfl
    ·exact rres_lenW B b cp ao ks w c0 c2 c6 hk (by have : argN lenW = 1 := rfl; omega)
    ·exact rres_absW B b cp ao ks w c0 c2 c6 hk (by have : argN absW = 1 := rfl; omega)
    ·exact rres_isnullW B b cp ao ks w c0 c2 c6 hk (by have : argN qbv = 1 := rfl; omega)
    ·exact rres_cutW B b cp ao ks w c0 c2 c6 hk (by have : argN cutW = 2 := rfl; omega)
    ·exact rres_coalW B b cp ao ks w c0 c2 c6 hk (by have : argN coalW = 2 := rfl; omega)
    ·exact rres_ifW B b cp ao ks w c0 c2 c6 hk (by have : argN ifW = 3 := rfl; omega)
   ·have h := rres_short B b m cp ao (argN f) w c0 c2 hm
    have e : resE (.call f p l) ks = none := by
     show callD f ks = none
     cases hc : callD f ks with
     | none => rfl
     | some k => exact absurd (by rw [callD_len hc,hlen]) hm
    rw [e]
    exact h
mutual
theorem kind_err {cs : List Col} {f : Fault} : ∀ {x : Ex},kindP cs x = .error f → f.1 ≠ 0
 | .lit v,h => by unfold kindP at h; cases h
 | .name s p,h => by
   unfold kindP at h
   cases hc : colAt cs s with
   | none => rw [hc] at h; cases h; exact (by decide : (2 : Int) ≠ 0)
   | some i => rw [hc] at h; cases h
 | .un neg p x,h => by
   unfold kindP at h
   cases hx : kindP cs x with
   | error g => rw [hx] at h; cases h; exact kind_err hx
   | ok k =>
     rw [hx] at h
     change (if k = (if neg = true then 1 else 2) then Except.ok (if neg = true then (1 : Int) else 2) else Except.error (3,p)) = Except.error f at h
     by_cases hk : k = (if neg = true then 1 else 2)
     ·rw [if_pos hk] at h; cases h
     ·rw [if_neg hk] at h; cases h; exact (by decide : (3 : Int) ≠ 0)
 | .bin o p x y,h => by
   unfold kindP at h
   cases hx : kindP cs x with
   | error g => rw [hx] at h; cases h; exact kind_err hx
   | ok k =>
     rw [hx] at h
     simp only at h
     cases hy : kindP cs y with
     | error g => rw [hy] at h; cases h; exact kind_err hy
     | ok b =>
       rw [hy] at h
       simp only at h
       cases hb : binK o k b with
       | none => rw [hb] at h; cases h; exact (by decide : (3 : Int) ≠ 0)
       | some r => rw [hb] at h; cases h
 | .call g p l,h => by
   unfold kindP at h
   cases ha : qem g with
   | none => rw [ha] at h; cases h; exact (by decide : (2 : Int) ≠ 0)
   | some a =>
     rw [ha] at h
     simp only at h
     cases hl : qbc cs l with
     | error e => rw [hl] at h; cases h; exact kinds_err hl
     | ok ks =>
       rw [hl] at h
       simp only at h
       cases hk : callK g ks with
       | none => rw [hk] at h; cases h; exact (by decide : (3 : Int) ≠ 0)
       | some r => rw [hk] at h; cases h
theorem kinds_err {cs : List Col} {f : Fault} : ∀ {l : List Ex},qbc cs l = .error f → f.1 ≠ 0
 | [],h => by unfold qbc at h; cases h
 | x :: l,h => by
   unfold qbc at h
   cases hx : kindP cs x with
   | error g => rw [hx] at h; cases h; exact kind_err hx
   | ok k =>
     rw [hx] at h
     simp only at h
     cases hl : qbc cs l with
     | error e => rw [hl] at h; cases h; exact kinds_err hl
     | ok ks => rw [hl] at h; cases h
end
theorem kinds_cell {w : World} {b k : Nat} {ks : List Int} (h : qdc w b ks) (h4 : k < 4) : ∃ u,w.cell? ⟨b,k,none⟩ = some u := by
 match k,h4 with
 | 0,_ => exact ⟨_,qac (i := 0) h rfl⟩
 | 1,_ => exact ⟨_,qac (i := 1) h rfl⟩
 | 2,_ => exact ⟨_,qac (i := 2) h rfl⟩
 | 3,_ => exact ⟨_,qac (i := 3) h rfl⟩
 | _ + 4,h => exact absurd h (by omega)
def CallR (x : Ex) (nm : Value) (n : Int) : Prop := isCallE x = true → nm = .string (qah (qdj x)) ∧ n = argN (qdj x) ∧ ¬ argN (qdj x) < 0
theorem kids_ok {x : Ex} (ho : qef x) : qel (qbw x) := by
 cases x with
 | lit v => unfold qbw qel; trivial
 | name s p => unfold qbw qel; trivial
 | un neg p y => unfold qef at ho; unfold qbw qel; exact ⟨ho,by unfold qel; trivial⟩
 | bin o p y z => unfold qef at ho; unfold qbw qel; exact ⟨ho.2.1,by unfold qel; exact ⟨ho.2.2,by unfold qel; trivial⟩⟩
 | call f p l => unfold qef at ho; exact ho
theorem kids_cost {x : Ex} : qck (qbw x) ≤ qbj x := by
 cases x with
 | lit v => unfold qbw qck; exact Nat.zero_le _
 | name s p => unfold qbw qck; exact Nat.zero_le _
 | un neg p y => unfold qbw qbj qck; unfold qck; omega
 | bin o p y z => unfold qbw qbj qck; unfold qck; unfold qck; omega
 | call f p l =>
   show qck l ≤ _
   conv => rhs; unfold qbj
   omega
theorem what_kid {x : Ex} (hi : isKid x = true) (ho : qef x) : qen x ≠ valueN ∧ qen x ≠ nameN ∧ (qen x = qcu ↔ isCallE x = true) := by
 cases x with
 | lit v => cases hi
 | name s p => cases hi
 | un neg p y =>
   cases neg
   ·exact ⟨(by decide : notW ≠ valueN),(by decide : notW ≠ nameN),(by decide : notW = qcu ↔ false = true)⟩
   ·exact ⟨(by decide : minusN ≠ valueN),(by decide : minusN ≠ nameN),(by decide : minusN = qcu ↔ false = true)⟩
 | bin o p y z =>
   unfold qef at ho
   have := ops_what o ho.1
   exact ⟨this.1,this.2.1,fun h => absurd h this.2.2.1,fun h => by cases h⟩
 | call f p l => exact ⟨(by decide : qcu ≠ valueN),(by decide : qcu ≠ nameN),fun _ => rfl,fun _ => rfl⟩
theorem rkc_kids (cs : List Col) (x : Ex) (hi : isKid x = true) (hsub : ∀ y ∈ qbw x,RKC cs y) : RKC cs x := by
 intro B S ao c w hn hel hlen hc ho hcost
 obtain ⟨a,vs,v1,v2,v3,nm,hobj,hkids,hes,hnm⟩ := hn.kids hi
 have hkk := kind_kids hc hi ho
 have hul := es_len hes
 obtain ⟨ag,cp,ha⟩ : ∃ ag cp,a = .slice ag vs.length cp := by
  obtain ⟨ag,cp,hv,-⟩ := hkids
  exact ⟨ag,cp,hv⟩
 have hcellk : ∀ k (h : k < vs.length),∃ b o,ag = some ⟨b,o,none⟩ ∧ w.cell? ⟨b,o + k,none⟩ = some vs[k] := fun k hk => by
  obtain ⟨b,o,c',e,hx⟩ := kids_at hkids (by intro e; rw [e] at hk; exact absurd hk (by simp))
  rw [ha] at e
  simp only [Value.slice.injEq] at e
  exact ⟨b,o,e.1,hx k hk⟩
 subst ha
 have hw := what_kid hi ho
 obtain ⟨wh,hwh⟩ : ∃ s,s = qah (qen x) := ⟨_,rfl⟩
 have e1 : (wh.toList == [118,97,108,117,101]) = false := what_ne hwh hw.1
 have e2 : (wh.toList == [110,97,109,101]) = false := what_ne hwh hw.2.1
 obtain ⟨bc,hbc⟩ : ∃ b,isCallE x = b := ⟨_,rfl⟩
 have e3 : (wh.toList == [99,97,108,108]) = bc := by
  rw [hwh,qan,← hbc,Bool.eq_iff_iff]
  simpa using hw.2.2
 have HOBJ := hid hobj; have HES := hid hes; have HEL := hid hel; have HLN := hid hlen; have HC := hid hc; have HO := hid ho; have HCO := hid hcost; have HSUB := hid hsub; have HKK := hid hkk; have HNM := hid hnm; have HUL := hid hul; have HCK := hid hcellk; have HI := hid hi; have HBC := hid hbc
 have HLL : Hid (vs.length ≤ 1000000) := hid (by have := xs_cost' (qbw x); have := kids_cost (x := x); omega)
 rw [← hwh] at hobj
 have c0 : w.cell? ⟨B,0,none⟩ = some (.string wh) := qac (i := 0) hobj rfl
 have c6 : w.cell? ⟨B,6,none⟩ = some nm := qac (i := 6) hobj rfl
 have c1 : w.cell? ⟨B,1,none⟩ = some (.int .i64 (placeE x : Int)) := qac (i := 1) hobj rfl
 have hlt := qad c0
 clear hn hel hlen hc ho hcost hobj hkids hes hnm hkk hul hcellk hw hwh hsub hi hbc
 go_enter Tryz.func31,Tryz.ntmps31
 go_upto_if 51 with (fail)
 obtain ⟨R1,hR1⟩ : ∃ RR_ : (Nat → Value) → World → Prop,RR_ = (fun us wy => ∃ n,us 8 = .int .i64 n ∧ wy = w ∧ CallR x nm n) := ⟨_,rfl⟩
 have HR1 := hid hR1; clear hR1
 refine qau [ff,ff,ff,ff,ff,ff,ff,ff,true,ff,ff,ff,ff,ff,ff,ff,ff,ff,ff,ff,ff,ff,ff,ff,ff,ff,ff,ff,ff,ff,ff,ff,ff,ff,ff,ff,ff,ff,ff,ff,ff,ff,ff,ff,ff,ff,ff,ff,ff,ff,ff,ff,true,true,true,true,true,true,true,true,true,true,true] R1 _ HR1.out ?_ ?_
 ·cases bc with
  | false =>
    go_wp2_with fail
    refine Meet.mk' HR1.out rfl ?_
    exact ⟨-1,rfl,rfl,fun h => by rw [HBC.out] at h; cases h⟩
  | true =>
    obtain rfl := HNM.out HBC.out
    go_wp2_with fail
    refine (rargs_any (qdj x) w).mono ?_
    rintro e w' ⟨rfl,hw'⟩
    subst w'
    obtain ⟨n,hn⟩ : ∃ n,argN (qdj x) = n := ⟨_,rfl⟩
    rw [hn]
    have HNN := hid hn
    clear hn
    by_cases hneg : n < 0
    ·have HNEG := hid hneg
     go_upto_region 12 with (fail)
     refine qaj (by kernel_rfl) (by kernel_rfl) qag qag.refl qag.trans (fun _ => none) (fun _ _ _ _ _ h => by cases h) ?_
     simp only [qam,Nat.reduceAdd]
     refine LexS.out ?_
     iterate 7
      first
      | (refine LexS.skip rfl ?_; simp only [Act.put,sib,List.set])
      | (refine LexS.one' rfl rfl ?_
         apply Exists.intro
         refine ⟨fun w hR hF => ?_,?_⟩
         ·have hP := hR
          repeat (first | replace hP := qag.of_drew hP | replace hP := qag.of_drewN hP | replace hP := qag.of_alloc hP)
          have hcs := hR.cells
          have zc1 := hP.cell c1
          clear hR hF hP
          go_simp
          first | done | rfl
         simp only [Act.put,sib,List.set])
     refine LexS.nil ?_
     intro w2 hL2 hF9
     clear hF9
     repeat (first | replace hL2 := qag.of_drew hL2 | replace hL2 := qag.of_drewN hL2 | replace hL2 := qag.of_alloc hL2)
     have HL2 := hid hL2
     clear hL2 c0 c1 c6 hlt
     go_wp2_with fail
     refine bodyPost_ret (v := .tuple #[.int .i64 0,.int .i64 2,.int .i64 (placeE x : Int)]) (by simp [results,Tryz.results31,go_sem]) rfl ⟨HL2.out,?_⟩
     rw [HKK.out,if_pos ⟨HBC.out,by rw [HNN.out]; exact HNEG.out⟩]
    ·have HNEG := hid hneg
     go_wp2_with fail
     refine Meet.mk' HR1.out rfl ?_
     exact ⟨n,rfl,rfl,fun _ => ⟨rfl,HNN.out.symm,by rw [HNN.out]; have := HNEG.out; omega⟩⟩
 intro us1 wy hrel
 obtain ⟨n,h8,hwy,hn⟩ := hrel
 simp only [qao,Nat.reduceAdd,h8]
 have Hh8 := hid h8; clear h8
 subst hwy
 have HN := hid hn
 clear hn
 have HNO : Hid (¬ (isCallE x = true ∧ argN (qdj x) < 0)) := hid fun ⟨h1,h2⟩ => (HN.out h1).2.2 h2
 clear e1 e2 e3 c6 c1
 go_upto_region 14 with (fail)
 obtain ⟨b,hb⟩ : ∃ b,b = wy.heap.size := ⟨_,rfl⟩
 obtain ⟨w1,hw1⟩ : ∃ w1,w1 = wy.alloc (.cells #[.int .i64 0,.int .i64 0,.int .i64 0,.int .i64 0] 33) := ⟨_,rfl⟩
 have hL1 : qag wy w1 := hw1 ▸ qag.alloc _ _
 have hk1 : qdc w1 b [] := by unfold qdc; rw [hw1,hb]; exact qap _ _
 have HBS : Hid (wy.heap.size ≤ b) := hid (by omega)
 rw [← hw1,← hb]
 have HL1 := hid hL1; have HK1 := hid hk1
 clear hw1 hb hL1 hk1 c0 hlt
 go_wp2_with fail
 obtain ⟨R2,hR2⟩ : ∃ RR_ : (Nat → Value) → World → Prop,RR_ = (fun us wx => ∃ (k : Nat) (ks : List Int),us 10 = .int .i64 (k : Int) ∧ k ≤ vs.length ∧ qbc cs ((qbw x).take k) = .ok ks ∧ qag wy wx ∧ qdc wx b ks) := ⟨_,rfl⟩
 obtain ⟨mu2,hmu2⟩ : ∃ mu : (Nat → Value) → World → Nat,mu = (fun us _ => vs.length - (intOf (us 10)).toNat) := ⟨_,rfl⟩
 have HR2 := hid hR2; have Hmu2 := hid hmu2; clear hR2 hmu2
 refine qal [ff,ff,ff,ff,true,true,true,ff,ff,ff,true,true,true,true,ff,ff,ff,ff,ff,ff,ff,ff,ff,ff,ff,ff,ff,ff,ff,ff,ff,ff,ff,ff,ff,ff,ff,ff,ff,ff,ff,ff,ff,ff,ff,ff,ff,ff,ff,ff,ff,ff,ff,ff,ff,ff,ff,ff,ff,ff,ff,ff,ff,ff,true,true,true,true,true,true,true,true,true,true,true,true,true,true,true,true,true,true,true,true,true,true,true,true,true,true,true,true,true,true,true,true] R2 _ mu2 HR2.out ?_ ?_
 ·refine ⟨0,[],rfl,Nat.zero_le _,?_,HL1.out,HK1.out⟩
  rw [List.take_zero]
  unfold qbc
  rfl
 clear HK1 HL1
 intro us2 wx hrel
 obtain ⟨k,ks,h10,hk,hks,hL,hka⟩ := hrel
 simp only [qao,Nat.reduceAdd,h10]
 have Hh10 := hid h10; clear h10
 have HL := hid hL; have HKA := hid hka; have HKS := hid hks; have HKL := hid hk
 have hkl := kinds_len hks
 rw [List.length_take,Nat.min_eq_left (by rw [← HUL.out]; exact hk)] at hkl
 have HKSL := hid hkl
 have c2 : wx.cell? ⟨B,2,none⟩ = some (.slice ag vs.length cp) := qac (i := 2) (hL.obj HOBJ.out) rfl
 have hlt2 := qad c2
 clear hL hka hks hkl
 by_cases hkv : k < vs.length
 ·have hki : (k : Int) < vs.length := by omega
  have HKV := hid hkv
  have hkx : k < (qbw x).length := by rw [← HUL.out]; exact hkv
  have HKX := hid hkx
  obtain ⟨g,o,rfl,hcg⟩ := HCK.out k hkv
  replace hcg := HL.out.cell hcg
  have hen := es_at HES.out k hkx hkv
  obtain ⟨u,hu⟩ : ∃ u,vs[k]'HKV.out = u := ⟨_,rfl⟩
  rw [hu] at hcg hen
  obtain ⟨y,hy⟩ : ∃ y,(qbw x)[k]'HKX.out = y := ⟨_,rfl⟩
  rw [hy] at hen
  obtain ⟨N,rfl⟩ := hen.ptr
  have HEN := hid (EIn.kept (HL.out.keeps S) (fun _ h => h) _ _ hen)
  have hgl := qad hcg
  have HY := hid hy
  have HWK : Hid (wrap64 ((k : Int) + 1) = ((k + 1 : Nat) : Int)) := hid (by have := HKV.out; have := HLL.out; unfold wrap64; omega)
  have HCY : Hid (qbj y ≤ 1000000) := hid (by have := costs_at (qbw x) k HKX.out; rw [hy] at this; have := kids_cost (x := x); have := HCO.out; omega)
  have HOY : Hid (qef y) := hid (by have := exs_at' (kids_ok HO.out) k HKX.out; rw [hy] at this; exact this)
  clear hk hkv hkx hen hu hy
  go_wp2_with fail
  refine (HSUB.out y (by rw [← HY.out]; exact List.getElem_mem _) N S ao c wx HEN.out (cols_later HEL.out HL.out) HLN.out HC.out HOY.out HCY.out).mono ?_
  rintro e w3 ⟨hL3,hm3⟩
  have HL3 := hid (qag.trans _ _ _ HL.out hL3)
  have HKA3 := hid (hL3.obj HKA.out)
  cases hkp : kindP cs y with
  | error f =>
    rw [hkp] at hm3
    obtain rfl := hm3
    have HER := hid (kinds_take_err (qbw x) k HKX.out ks HKS.out (by rw [HY.out]; exact hkp))
    have hf0 : f.1 ≠ 0 := kind_err hkp
    clear hL3 hkp
    go_wp2_with fail
    refine bodyPost_ret (v := .tuple #[.int .i64 0,.int .i64 f.1,.int .i64 (f.2 : Int)]) (by simp [results,Tryz.results31,go_sem]) rfl ⟨HL3.out,?_⟩
    rw [HKK.out,if_neg HNO.out,HER.out]
  | ok ka =>
    rw [hkp] at hm3
    obtain rfl := hm3
    have HNX := hid (kinds_take_ok (qbw x) k HKX.out ks HKS.out (by rw [HY.out]; exact hkp))
    have z0 : ∃ u,w3.cell? ⟨b,0,none⟩ = some u := ⟨_,qac (i := 0) HKA3.out rfl⟩
    obtain ⟨u0,z0⟩ := z0
    have hbl := qad z0
    by_cases h4 : k < 4
    ·have h4i : (k : Int) < 4 := by omega
     have hk0 : (0 : Int) ≤ k := by omega
     obtain ⟨u1,z1⟩ := kinds_cell HKA3.out h4
     have zf : w3.frozen? ⟨b,k,none⟩ = false := qaq HKA3.out
     have HST := hid ((kinds_set (a := ka) HKA3.out HKSL.out).1 h4)
     have HLS : Hid (qag wy (w3.setCell ⟨b,k,none⟩ (.int .i64 ka))) := hid (HL3.out.new (p := ⟨b,k,none⟩) HBS.out _)
     clear hL3 hkp h4 z0
     go_wp2_with fail
     try simp only [HWK.out]
     refine Round.mk' HR2.out Hmu2.out rfl ?_ ?_
     ·exact ⟨k + 1,ks ++ [ka],rfl,HKV.out,HNX.out,HLS.out,HST.out⟩
     ·rw [Hh10.out]; have := HKV.out; simp [intOf,qas]; omega
    ·have h4i : ¬ (k : Int) < 4 := by omega
     have HST := hid ((kinds_set (a := ka) HKA3.out HKSL.out).2 h4)
     clear hL3 hkp h4 z0
     go_wp2_with fail
     try simp only [HWK.out]
     refine Round.mk' HR2.out Hmu2.out rfl ?_ ?_
     ·exact ⟨k + 1,ks ++ [ka],rfl,HKV.out,HNX.out,HL3.out,HST.out⟩
     ·rw [Hh10.out]; have := HKV.out; simp [intOf,qas]; omega
 ·have hki : ¬ (k : Int) < vs.length := by omega
  obtain rfl : k = vs.length := by omega
  have hkt := HKS.out
  rw [HUL.out,List.take_length] at hkt
  have HKT := hid hkt
  have HRES := hid (rres_any HI.out HO.out B b vs.length cp ag v1 v2 v3 nm _ n ks wx (HL.out.obj HOBJ.out) HN.out HKA.out HKSL.out)
  have c1 : wx.cell? ⟨B,1,none⟩ = some (.int .i64 (placeE x : Int)) := qac (i := 1) (HL.out.obj HOBJ.out) rfl
  clear hkv hk hkt
  go_wp2_with fail
  refine HRES.out.mono ?_
  rintro e w3 ⟨rfl,hL3⟩
  have HL3 := hid (qag.trans _ _ _ HL.out hL3)
  replace c1 := hL3.cell c1
  replace hlt2 := qad c1
  cases hr : resE x ks with
  | none =>
    have HR := hid hr
    rw [show (none : Option Int).getD 0 = 0 from rfl]
    clear hL3 hr c2
    go_upto_region 24 with (fail)
    refine qaj (by kernel_rfl) (by kernel_rfl) qag qag.refl qag.trans (fun _ => none) (fun _ _ _ _ _ h => by cases h) ?_
    simp only [qam,Nat.reduceAdd]
    refine LexS.out ?_
    iterate 7
     first
     | (refine LexS.skip rfl ?_; simp only [Act.put,sib,List.set])
     | (refine LexS.one' rfl rfl ?_
        apply Exists.intro
        refine ⟨fun w hR hF => ?_,?_⟩
        ·have hP := hR
         repeat (first | replace hP := qag.of_drew hP | replace hP := qag.of_drewN hP | replace hP := qag.of_alloc hP)
         have hcs := hR.cells
         have zc1 := hP.cell c1
         clear hR hF hP
         go_simp
         first | done | rfl
        simp only [Act.put,sib,List.set])
    refine LexS.nil ?_
    intro w4 hL4 hF9
    clear hF9
    repeat (first | replace hL4 := qag.of_drew hL4 | replace hL4 := qag.of_drewN hL4 | replace hL4 := qag.of_alloc hL4)
    have HL4 := hid (qag.trans _ _ _ HL3.out hL4)
    clear hL4 c1 hlt2
    go_wp2_with fail
    refine bodyPost_ret (v := .tuple #[.int .i64 0,.int .i64 3,.int .i64 (placeE x : Int)]) (by simp [results,Tryz.results31,go_sem]) rfl ⟨HL4.out,?_⟩
    rw [HKK.out,if_neg HNO.out,HKT.out]
    simp only
    rw [HR.out]
  | some r =>
    have HR := hid hr
    rw [show (some r : Option Int).getD 0 = r from rfl]
    have HKP : Hid (kindP cs x = .ok r) := hid (by rw [HKK.out,if_neg HNO.out,HKT.out]; simp only; rw [hr])
    have hr0 : ¬ r = 0 := by
     rcases kind_k3 HC.out HO.out HKP.out with h | h | h <;> omega
    have hr1 : (r == 0) = false := by simpa using hr0
    clear hL3 hr c2
    go_wp2_with fail
    refine bodyPost_ret (v := .tuple #[.int .i64 r,.int .i64 0,.int .i64 0]) (by simp [results,Tryz.results31,go_sem]) rfl ⟨HL3.out,?_⟩
    rw [HKP.out]
mutual
theorem rkc_all (cs : List Col) : ∀ x : Ex,RKC cs x
 | .lit v => rkc_lit cs v
 | .name s p => rkc_name cs s p
 | .un neg p x => rkc_kids cs _ rfl fun y hy => by
   rw [List.mem_singleton.1 hy]
   exact rkc_all cs x
 | .bin o p x y => rkc_kids cs _ rfl fun z hz => by
   rcases List.mem_cons.1 hz with h | h
   ·rw [h]; exact rkc_all cs x
   ·rw [List.mem_singleton.1 h]
    exact rkc_all cs y
 | .call f p l => rkc_kids cs _ rfl (rkcs_all cs l)
theorem rkcs_all (cs : List Col) : ∀ l : List Ex,∀ x ∈ l,RKC cs x
 | [],_,h => absurd h (by simp)
 | y :: l,x,h => by
   rcases List.mem_cons.1 h with h | h
   ·rw [h]; exact rkc_all cs y
   ·exact rkcs_all cs l x h
end
end Go.Proofs.YtgajofkeidjbgaaGreatDoor
