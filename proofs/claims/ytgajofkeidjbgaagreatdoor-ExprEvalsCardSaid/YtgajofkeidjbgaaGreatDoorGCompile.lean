/-
  PROVED HERE: a part of the proof of ExprEvals: Compile, RCheck, OpenV, OpenCols.
-/
import Derived.Test.YtgajofkeidjbgaaGreatDoorGKindCall
import Derived.Test.YtgajofkeidjbgaaGreatDoorGExprCols
import Derived.Test.YtgajofkeidjbgaaGreatDoorGParText
import Derived.Test.YtgajofkeidjbgaaGreatDoorGRKind3
import Derived.Test.YtgajofkeidjbgaaGreatDoorGRefParse
import Derived.Test.YtgajofkeidjbgaaGreatDoorGUnquote
import Derived.Test.YtgajofkeidjbgaaGreatDoorRows
import Derived.Test.YtgajofkeidjbgaaGreatDoorGData
namespace Go.Proofs.YtgajofkeidjbgaaGreatDoor
set_option linter.unusedSimpArgs false
set_option linter.unusedVariables false
set_option maxHeartbeats 4000000
set_option maxRecDepth 100000
open Go.RowKit
def qep (cs : List Col) (r : Except Fault Ex) : Except Fault (Int × Ex) := match r with
 | .error f => .error f
 | .ok x => if colsP cs = true then (match kindP cs x with
   | .error f => .error f
   | .ok k => .ok (k,x)) else .error (4,0)
theorem qbm.iface {q : List UInt8 → Nat → Int → Prop} {S : Nat → Prop} {w : World} {v : Value} {x : Ex} (h : qbm q S w v x) : ∃ N,v = .iface (nodeT x) (.pointer (some ⟨N,0,none⟩)) := by
 cases x <;> (unfold qbm at h)
 ·obtain ⟨B,-,h,-⟩ := h; exact ⟨B,h⟩
 ·obtain ⟨B,pos,-,h,-⟩ := h; exact ⟨B,h⟩
 ·obtain ⟨B,u,-,h,-⟩ := h; exact ⟨B,h⟩
 ·obtain ⟨B,u1,u2,-,h,-⟩ := h; exact ⟨B,h⟩
 ·obtain ⟨B,vs,a,-,h,-⟩ := h; exact ⟨B,h⟩
mutual
theorem qbm.keep {q : List UInt8 → Nat → Int → Prop} {S S' : Nat → Prop} {w w' : World} (k : Keeps S' w w') (hs : ∀ b,S b → S' b) : ∀ (v : Value) (x : Ex),qbm q S w v x → qbm q S w' v x
 | v,.lit x,h => by
   unfold qbm at h ⊢
   obtain ⟨B,h1,h2,h3⟩ := h
   exact ⟨B,h1,h2,k.obj (hs _ h1) h3⟩
 | v,.name s p,h => by
   unfold qbm at h ⊢
   obtain ⟨B,pos,h1,h2,h3,h4⟩ := h
   exact ⟨B,pos,h1,h2,k.obj (hs _ h1) h3,h4⟩
 | v,.un neg p x,h => by
   unfold qbm at h ⊢
   obtain ⟨B,u,h1,h2,h3,h4⟩ := h
   exact ⟨B,u,h1,h2,k.obj (hs _ h1) h3,qbm.keep k hs u x h4⟩
 | v,.bin o p x y,h => by
   unfold qbm at h ⊢
   obtain ⟨B,u1,u2,h1,h2,h3,h4,h5⟩ := h
   exact ⟨B,u1,u2,h1,h2,k.obj (hs _ h1) h3,qbm.keep k hs u1 x h4,qbm.keep k hs u2 y h5⟩
 | v,.call f p l,h => by
   unfold qbm at h ⊢
   obtain ⟨B,vs,a,h1,h2,h3,h4,h5⟩ := h
   exact ⟨B,vs,a,h1,h2,k.obj (hs _ h1) h3,h4.kept k hs,qcb.keep k hs vs l h5⟩
theorem qcb.keep {q : List UInt8 → Nat → Int → Prop} {S S' : Nat → Prop} {w w' : World} (k : Keeps S' w w') (hs : ∀ b,S b → S' b) : ∀ (vs : List Value) (l : List Ex),qcb q S w vs l → qcb q S w' vs l
 | [],[],h => by unfold qcb; trivial
 | v :: vs,x :: l,h => by
   unfold qcb at h ⊢
   exact ⟨qbm.keep k hs v x h.1,qcb.keep k hs vs l h.2⟩
 | [],_ :: _,h => by unfold qcb at h; exact h.elim
 | _ :: _,[],h => by unfold qcb at h; exact h.elim
end
mutual
theorem qbm.mono {q : List UInt8 → Nat → Int → Prop} {S S' : Nat → Prop} {w : World} (hs : ∀ b,S b → S' b) : ∀ (v : Value) (x : Ex),qbm q S w v x → qbm q S' w v x
 | v,.lit x,h => by
   unfold qbm at h ⊢
   obtain ⟨B,h1,h2,h3⟩ := h
   exact ⟨B,hs _ h1,h2,h3⟩
 | v,.name s p,h => by
   unfold qbm at h ⊢
   obtain ⟨B,pos,h1,h2,h3,h4⟩ := h
   exact ⟨B,pos,hs _ h1,h2,h3,h4⟩
 | v,.un neg p x,h => by
   unfold qbm at h ⊢
   obtain ⟨B,u,h1,h2,h3,h4⟩ := h
   exact ⟨B,u,hs _ h1,h2,h3,qbm.mono hs u x h4⟩
 | v,.bin o p x y,h => by
   unfold qbm at h ⊢
   obtain ⟨B,u1,u2,h1,h2,h3,h4,h5⟩ := h
   exact ⟨B,u1,u2,hs _ h1,h2,h3,qbm.mono hs u1 x h4,qbm.mono hs u2 y h5⟩
 | v,.call f p l,h => by
   unfold qbm at h ⊢
   obtain ⟨B,vs,a,h1,h2,h3,h4,h5⟩ := h
   exact ⟨B,vs,a,hs _ h1,h2,h3,⟨h4.1,fun g hg => hs _ (h4.2 g hg)⟩,qcb.mono hs vs l h5⟩
theorem qcb.mono {q : List UInt8 → Nat → Int → Prop} {S S' : Nat → Prop} {w : World} (hs : ∀ b,S b → S' b) : ∀ (vs : List Value) (l : List Ex),qcb q S w vs l → qcb q S' w vs l
 | [],[],h => by unfold qcb; trivial
 | v :: vs,x :: l,h => by
   unfold qcb at h ⊢
   exact ⟨qbm.mono hs v x h.1,qcb.mono hs vs l h.2⟩
 | [],_ :: _,h => by unfold qcb at h; exact h.elim
 | _ :: _,[],h => by unfold qcb at h; exact h.elim
end
theorem cols_below {w : World} {ao : Option Addr} {cs : List Col} (h : ColsEl w ao cs) : ColsB w.heap.size w ao cs := fun i hi => let ⟨b,o,ha,_,hx⟩ := h i hi; ⟨b,o,ha,qad hx.1,hx⟩
abbrev compO (k : Int) (v : Value) : Obj := .cells #[.int .i64 k,v] 81 (0,0)
structure ColsArg (w : World) (ao : Option Addr) (c : Nat) (cs : List Col) : Prop where
 el : ColsEl w ao cs
 cap : cs.length ≤ c ∧ cs.length ≤ 140737488355328
 str : ∀ x ∈ cs,x.s.length ≤ 140737488355328
theorem ColsArg.later {w w' : World} {ao : Option Addr} {c : Nat} {cs : List Col} (h : ColsArg w ao c cs) (k : qag w w') : ColsArg w' ao c cs := ⟨cols_later h.el k,h.cap,h.str⟩
def Comp1To (cs : List Col) (s : List UInt8) (C : Nat) (w : World) (e : Ending) (w' : World) : Prop := Keeps (fun b => b ≠ C) w w' ∧ ∃ r,TextR true s r ∧ match qep cs r with
 | .error f => qbr f.1 f.2 e ∧ w'.heap[C]? = some (compO 0 .nilIface)
 | .ok kx => e = .returned (.tuple #[]) ∧ ∃ v,w'.heap[C]? = some (compO kx.1 v) ∧ qbm (qIdx cs) (fun b => w.heap.size ≤ b) w' v kx.2
theorem compile1_any (s : List UInt8) (ao : Option Addr) (c : Nat) (cs : List Col) (T CB C : Nat) (w : World) (hE : qea w) (hT : PowTab w) (hS : qdx w) (t0 : w.heap[T]? = some (.cells #[.string (qah s)] 9 (0,0))) (b0 : w.heap[CB]? = some (.cells #[.slice ao cs.length c] 36 (0,0)))
  (o0 : w.heap[C]? = some (compO 0 .nilIface)) (ha : ColsArg w ao c cs) : Calls Tryz.prog 53 #[.pointer (some ⟨T,0,none⟩),.pointer (some ⟨CB,0,none⟩),.pointer (some ⟨C,0,none⟩)] w (Comp1To cs s C w) := by
 have HE := hid hE; have HT := hid hT; have HSP := hid hS; have HO0 := hid o0; have HB0 := hid b0; have HA := hid ha
 have c0 : w.cell? ⟨T,0,none⟩ = some (.string (qah s)) := qac (i := 0) t0 rfl
 have hlt := qad c0
 clear hE hT hS t0 o0 b0 ha
 go_enter Tryz.func53,Tryz.ntmps53
 go_wp2_with fail
 refine (parse_any s w HE.out HT.out HSP.out).mono ?_
 rintro e w1 ⟨hL1,r,hr,hm⟩
 have HL1 := hid hL1; have HR := hid hr
 cases r with
 | error f =>
   simp only at hm
   have hfl := hm
   unfold qbr at hm
   subst hm
   exact ⟨rfl,HL1.out.keeps _,.error f,HR.out,hfl,HL1.out.obj HO0.out⟩
 | ok x =>
 obtain ⟨v,rfl,hn⟩ := hm
 have HN := hid (qbh.may cs _ _ hn)
 have HOK := hid (text_ok hr)
 have HCO : Hid (qbj x ≤ 1000000) := hid (Nat.le_trans (text_cost hr) (by omega))
 have b1 : w1.cell? ⟨CB,0,none⟩ = some (.slice ao cs.length c) := qac (i := 0) (HL1.out.obj HB0.out) rfl
 have bl := qad b1
 clear hL1 hr hn c0 hlt
 go_wp2_with fail
 refine (columns_any ao c cs w1 (HA.out.later HL1.out).el HA.out.cap HA.out.str).mono ?_
 rintro e w2 ⟨rfl,hL2⟩
 have HL2 := hid (qag.trans _ _ _ HL1.out hL2)
 have HN2 := hid (qbm.keep (hL2.keeps (fun _ => True)) (fun _ _ => trivial) _ _ HN.out)
 have b2 : w2.cell? ⟨CB,0,none⟩ = some (.slice ao cs.length c) := qac (i := 0) (HL2.out.obj HB0.out) rfl
 have bl2 := qad b2
 obtain ⟨bc,hbc⟩ : ∃ b,colsP cs = b := ⟨_,rfl⟩
 have HBC := hid hbc
 rw [hbc]
 clear hL2 b1 bl hbc
 cases bc with
 | false =>
   go_wp2_with fail
   refine (qbn 4 0 _).mono ?_
   rintro e w' ⟨hfl,hw'⟩
   subst w'
   have hfl' := hfl
   unfold qbr at hfl
   subst hfl
   simp only [Exit.then,Exit.inBlock]
   refine ⟨rfl,HL2.out.keeps _,.ok x,HR.out,?_⟩
   unfold qep
   simp only
   rw [if_neg (by rw [HBC.out]; simp)]
   exact ⟨hfl',HL2.out.obj HO0.out⟩
 | true =>
 go_wp2_with fail
 refine (kd_all cs x w.heap.size ao c v w2 HN2.out (fun i hi => let ⟨b,o,ha,hb,hx⟩ := cols_below HA.out.el i hi; ⟨b,o,ha,hb,hx.later HL2.out⟩) (by have := HA.out.cap; omega) HOK.out HCO.out HL2.out.size).mono ?_
 rintro e w3 ⟨hk,hm⟩
 have HK : Hid (Keeps (fun b => b < w.heap.size) w2 w3) := hid hk.below
 have HK3 : Hid (Keeps (fun _ => True) w w3) := hid ((HL2.out.keeps _).under HK.out)
 have HR3 : Hid (∀ f,kindP cs x = .error f → qep cs (.ok x) = .error f) := hid fun f h => by unfold qep; simp only; rw [if_pos HBC.out,h]
 have HR4 : Hid (∀ k,kindP cs x = .ok k → qep cs (.ok x) = .ok (k,x)) := hid fun f h => by unfold qep; simp only; rw [if_pos HBC.out,h]
 clear hk
 cases hkp : kindP cs x with
 | error f =>
   rw [hkp] at hm
   simp only at hm
   have hfl := hm
   unfold qbr at hm
   subst hm
   simp only [Exit.then,Exit.inBlock]
   refine ⟨rfl,HK3.out.mono fun _ _ _ => trivial,.ok x,HR.out,?_⟩
   rw [HR3.out f hkp]
   exact ⟨hfl,HK3.out.obj trivial HO0.out⟩
 | ok k =>
   rw [hkp] at hm
   obtain ⟨rfl,hn3⟩ := hm
   have HN3 := hid hn3; have HR5 := hid (HR4.out k hkp)
   obtain ⟨N,rfl⟩ := hn3.iface
   have HO3 := hid (HK3.out.obj trivial HO0.out)
   have z0 : w3.cell? ⟨C,0,none⟩ = some (.int .i64 0) := qac (i := 0) HO3.out rfl
   have z1 : w3.cell? ⟨C,1,none⟩ = some .nilIface := qac (i := 1) HO3.out rfl
   have f0 : w3.frozen? ⟨C,0,none⟩ = false := qaq (i := 0) HO3.out
   have f1 : w3.frozen? ⟨C,1,none⟩ = false := qaq (i := 1) HO3.out
   have zl := qad z0
   have HCW : Hid (C < w.heap.size) := hid (qch HO0.out)
   clear hn3 hkp b2 bl2
   go_wp2_with fail
   have h1 : (w3.setCell ⟨C,0,none⟩ (.int .i64 k)).heap[C]? = some (compO k .nilIface) := qak (i := 0) HO3.out _
   have h2 : ((w3.setCell ⟨C,0,none⟩ (.int .i64 k)).setCell ⟨C,1,none⟩ (.iface (nodeT x) (.pointer (some ⟨N,0,none⟩)))).heap[C]? = some (compO k (.iface (nodeT x) (.pointer (some ⟨N,0,none⟩)))) := qak (i := 1) h1 _
   have hk5 : Keeps (fun b => b ≠ C) w3 ((w3.setCell ⟨C,0,none⟩ (.int .i64 k)).setCell ⟨C,1,none⟩ (.iface (nodeT x) (.pointer (some ⟨N,0,none⟩)))) :=
    ((Keeps.refl _ w3).setCell (p := ⟨C,0,none⟩) (.inl fun h => h rfl) _).setCell (p := ⟨C,1,none⟩) (.inl fun h => h rfl) _
   refine bodyPost_end (results_none rfl _ _ _) rfl ⟨(HK3.out.mono fun _ _ _ => trivial).trans hk5,.ok x,HR.out,?_⟩
   rw [HR5.out]
   exact ⟨rfl,_,h2,qbm.keep hk5 (fun b hb => by have := HCW.out; omega) _ _ HN3.out⟩
theorem alloc3 {w w4 : World} {o1 o2 o3 : Obj} (h : w4 = ((w.alloc o1).alloc o2).alloc o3) : qag w w4 ∧ w4.heap[w.heap.size]? = some o1 ∧ w4.heap[w.heap.size + 1]? = some o2 ∧ w4.heap[w.heap.size + 2]? = some o3 ∧ w4.heap.size = w.heap.size + 3 := by
 subst h
 refine ⟨((qag.alloc _ _).alloc' _).alloc' _,?_,?_,?_,by simp⟩
 ·exact ((qag.alloc (w.alloc o1) o2).alloc' o3).obj (qap w o1)
 ·exact (qag.alloc _ _).obj (qcp (by simp))
 ·exact qcp (by simp)
def CompileTo (cs : List Col) (s : List UInt8) (w : World) (e : Ending) (w' : World) : Prop := qag w w' ∧ ∃ r,TextR true s r ∧ match qep cs r with
 | .error f => e = .returned (.tuple #[.agg #[.int .i64 0,.nilIface],.int .i64 (f.2 : Int),errV f.1])
 | .ok kx => ∃ v,e = .returned (.tuple #[.agg #[.int .i64 kx.1,v],.int .i64 0,.nilIface]) ∧ qbm (qIdx cs) (fun _ => True) w' v kx.2
theorem compile_any (s : List UInt8) (ao : Option Addr) (c : Nat) (cs : List Col) (w : World) (hE : qea w) (hT : PowTab w) (hS : qdx w) (ha : ColsArg w ao c cs) :
  Calls Tryz.prog 27 #[.string (qah s),.slice ao cs.length c] w (CompileTo cs s w) := by
 have HE := hid hE; have HT := hid hT; have HS := hid hS; have HA := hid ha
 clear hE hT hS ha
 go_enter Tryz.func27,Tryz.ntmps27
 go_wp2_with fail
 obtain ⟨w2,hw2⟩ : ∃ w2,w2 = ((w.alloc (.cells #[.string (qah s)] 9)).alloc (.cells #[.slice ao cs.length c] 36)).alloc (compO 0 .nilIface) := ⟨_,rfl⟩
 obtain ⟨hL2,o1,o2,o3,hsz⟩ := alloc3 hw2
 have HSZ := hid hsz
 rw [← hw2]
 have HL2 := hid hL2; have O1 := hid o1; have O2 := hid o2; have O3 := hid o3
 clear hw2 hL2 o1 o2 o3 hsz
 refine (caught_any 53 (enters_of Tryz.func53 (by kernel_rfl) rfl) #[.pointer (some ⟨w.heap.size,0,none⟩),.pointer (some ⟨w.heap.size + 1,0,none⟩),.pointer (some ⟨w.heap.size + 2,0,none⟩)] w2
  (fun w4 => Keeps (fun b => b ≠ w.heap.size + 2) w2 w4 ∧ ∃ r kx,TextR true s r ∧ qep cs r = .ok kx ∧ ∃ v,w4.heap[w.heap.size + 2]? = some (compO kx.1 v) ∧ qbm (qIdx cs) (fun b => w2.heap.size + 2 ≤ b) w4 v kx.2)
  (fun e p w4 => Keeps (fun b => b ≠ w.heap.size + 2) w2 w4 ∧ ∃ r,TextR true s r ∧ qep cs r = .error (e,p) ∧ w4.heap[w.heap.size + 2]? = some (compO 0 .nilIface)) (fun w3 hL3 hs3 => ?_)).mono ?_
 ·have h3 := qag.trans _ _ _ HL2.out hL3
  refine (compile1_any s ao c cs _ _ _ w3 (HE.out.later h3) (HT.out.later h3) (HS.out.later h3) (hL3.obj O1.out) (hL3.obj O2.out) (hL3.obj O3.out) (HA.out.later h3)).mono ?_
  rintro e w4 ⟨hk,r,hr,hm⟩
  refine ⟨hk.mono fun b hb h => by have := HSZ.out; omega,?_⟩
  cases hc : qep cs r with
  | error f =>
    rw [hc] at hm
    exact .inr ⟨f.1,f.2,hm.1,(hL3.keeps _).trans hk,r,hr,hc,hm.2⟩
  | ok kx =>
    rw [hc] at hm
    obtain ⟨he,v,h1,h2⟩ := hm
    exact .inl ⟨he,(hL3.keeps _).trans hk,r,kx,hr,hc,v,h1,qbm.mono (fun b hb => by omega) _ _ h2⟩
 ·rintro e w6 ⟨w4,hk,hc⟩
  have HK := hid hk
  rcases hc with ⟨rfl,hkk,r,kx,hr,hck,v,ho,hn⟩ | ⟨e4,p,rfl,hkk,r,hr,hck,ho⟩
  ·have s6 := hk.obj (by have := HSZ.out; omega) ho
   have HL6 : Hid (qag w w6) := hid ((((HL2.out.keeps (fun _ => True)).under (hkk.mono fun b _ hb => by omega)).under (hk.mono fun b _ hb => by have := HSZ.out; omega)).later)
   have hn6 := qbm.keep hk (S := fun b => w2.heap.size + 2 ≤ b) (fun b hb => ⟨by omega,by omega⟩) _ _ hn
   have HN6 := hid hn6
   obtain ⟨N,rfl⟩ := hn.iface
   have HR := hid hr; have HCK := hid hck; have HS6 := hid s6
   have q0 : w6.cell? ⟨w.heap.size + 2,0,none⟩ = some (.int .i64 kx.1) := qac (i := 0) s6 rfl
   have q1 : w6.cell? ⟨w.heap.size + 2,1,none⟩ = some (.iface (nodeT kx.2) (.pointer (some ⟨N,0,none⟩))) := qac (i := 1) s6 rfl
   have f0 : w6.frozen? ⟨w.heap.size + 2,0,none⟩ = false := qaq (i := 0) s6
   have f1 : w6.frozen? ⟨w.heap.size + 2,1,none⟩ = false := qaq (i := 1) s6
   have ql := qad q0
   clear hk hkk hr hck ho hn s6 hn6
   go_wp2_with fail
   obtain ⟨w8,hw8⟩ : ∃ w8,w8 = (w6.setCell ⟨w.heap.size + 2,0,none⟩ (.int .i64 kx.1)).setCell ⟨w.heap.size + 2,1,none⟩ (.iface (nodeT kx.2) (.pointer (some ⟨N,0,none⟩))) := ⟨_,rfl⟩
   have h1 : (w6.setCell ⟨w.heap.size + 2,0,none⟩ (.int .i64 kx.1)).heap[w.heap.size + 2]? = some (compO kx.1 (.iface (nodeT kx.2) (.pointer (some ⟨N,0,none⟩)))) := qak (i := 0) HS6.out _
   have h2 : w8.heap[w.heap.size + 2]? = some (compO kx.1 (.iface (nodeT kx.2) (.pointer (some ⟨N,0,none⟩)))) := by rw [hw8]; exact qak (i := 1) h1 _
   have hk8 : Keeps (fun b => b ≠ w.heap.size + 2) w6 w8 := by
    rw [hw8]
    exact ((Keeps.refl _ w6).setCell (p := ⟨w.heap.size + 2,0,none⟩) (.inl fun h => h rfl) _).setCell (p := ⟨w.heap.size + 2,1,none⟩) (.inl fun h => h rfl) _
   have hL8 : qag w w8 := qeb HL6.out (by omega) hk8
   have q7 : w8.cell? ⟨w.heap.size + 2,0,none⟩ = some (.int .i64 kx.1) := qac (i := 0) h2 rfl
   have q8 : w8.cell? ⟨w.heap.size + 2,1,none⟩ = some (.iface (nodeT kx.2) (.pointer (some ⟨N,0,none⟩))) := qac (i := 1) h2 rfl
   rw [← hw8]
   refine bodyPost_ret (v := .tuple #[.agg #[.int .i64 kx.1,.iface (nodeT kx.2) (.pointer (some ⟨N,0,none⟩))],.int .i64 0,.nilIface]) (by simp [results,Tryz.results27,go_sem,q7,q8]) rfl ⟨hL8,r,HR.out,?_⟩
   rw [HCK.out]
   exact ⟨_,rfl,qbm.mono (fun _ _ => trivial) _ _ (qbm.keep hk8 (fun b hb => by have := HSZ.out; omega) _ _ HN6.out)⟩
  ·have s6 := hk.obj (by have := HSZ.out; omega) ho
   have HL6 : Hid (qag w w6) := hid ((((HL2.out.keeps (fun _ => True)).under (hkk.mono fun b _ hb => by omega)).under (hk.mono fun b _ hb => by have := HSZ.out; omega)).later)
   have HR := hid hr; have HCK := hid hck; have HS6 := hid s6
   have q0 : w6.cell? ⟨w.heap.size + 2,0,none⟩ = some (.int .i64 0) := qac (i := 0) s6 rfl
   have q1 : w6.cell? ⟨w.heap.size + 2,1,none⟩ = some .nilIface := qac (i := 1) s6 rfl
   have f0 : w6.frozen? ⟨w.heap.size + 2,0,none⟩ = false := qaq (i := 0) s6
   have f1 : w6.frozen? ⟨w.heap.size + 2,1,none⟩ = false := qaq (i := 1) s6
   have ql := qad q0
   clear hk hkk hr hck ho s6
   unfold errV
   go_wp2_with fail
   obtain ⟨w8,hw8⟩ : ∃ w8,w8 = (w6.setCell ⟨w.heap.size + 2,0,none⟩ (.int .i64 0)).setCell ⟨w.heap.size + 2,1,none⟩ .nilIface := ⟨_,rfl⟩
   have h1 : (w6.setCell ⟨w.heap.size + 2,0,none⟩ (.int .i64 0)).heap[w.heap.size + 2]? = some (compO 0 .nilIface) := qak (i := 0) HS6.out _
   have h2 : w8.heap[w.heap.size + 2]? = some (compO 0 .nilIface) := by rw [hw8]; exact qak (i := 1) h1 _
   have hk8 : Keeps (fun b => b ≠ w.heap.size + 2) w6 w8 := by
    rw [hw8]
    exact ((Keeps.refl _ w6).setCell (p := ⟨w.heap.size + 2,0,none⟩) (.inl fun h => h rfl) _).setCell (p := ⟨w.heap.size + 2,1,none⟩) (.inl fun h => h rfl) _
   have hL8 : qag w w8 := qeb HL6.out (by omega) hk8
   have q7 : w8.cell? ⟨w.heap.size + 2,0,none⟩ = some (.int .i64 0) := qac (i := 0) h2 rfl
   have q8 : w8.cell? ⟨w.heap.size + 2,1,none⟩ = some .nilIface := qac (i := 1) h2 rfl
   rw [← hw8]
   refine bodyPost_ret (v := .tuple #[.agg #[.int .i64 0,.nilIface],.int .i64 (p : Int),.iface 29 (.int .i64 e4)]) (by simp [results,Tryz.results27,go_sem,q7,q8]) rfl ⟨hL8,r,HR.out,?_⟩
   rw [HCK.out]
   rfl
def RCheckTo (cs : List Col) (s : List UInt8) (w : World) (e : Ending) (w' : World) : Prop := qag w w' ∧ ∃ r,TextR false s r ∧ match qep cs r with
 | .error f => ∃ p,e = .returned (.tuple #[.pointer p,.int .i64 0,.int .i64 f.1,.int .i64 (f.2 : Int)]) ∧ f.1 ≠ 0
 | .ok kx => ∃ B,e = .returned (.tuple #[.pointer (some ⟨B,0,none⟩),.int .i64 kx.1,.int .i64 0,.int .i64 0]) ∧ EIn (fun _ => True) w' (.pointer (some ⟨B,0,none⟩)) kx.2
theorem rcheck_any (s : List UInt8) (ao : Option Addr) (c : Nat) (cs : List Col) (w : World) (ha : ColsArg w ao c cs) (hok : ∀ x,TextR false s (.ok x) → qef x ∧ qbj x ≤ 1000000) :
  Calls Tryz.prog 14 #[.string (qah s),.slice ao cs.length c] w (RCheckTo cs s w) := by
 have HA := hid ha; have HOK := hid hok
 clear ha hok
 go_enter Tryz.func14,Tryz.ntmps14
 go_wp2_with fail
 refine (rparse_any s w).mono ?_
 rintro e w1 ⟨hL1,r,hr,hm⟩
 have HL1 := hid hL1; have HR := hid hr
 cases r with
 | error f =>
   obtain ⟨rfl,hne⟩ := hm
   have HNE := hid hne
   have hne' : (f.1 != 0) = true := by simpa using hne
   clear hL1 hr
   go_wp2_with fail
   refine bodyPost_ret (v := .tuple #[.pointer none,.int .i64 0,.int .i64 f.1,.int .i64 (f.2 : Int)]) (by simp [results,Tryz.results14,go_sem]) rfl ⟨HL1.out,.error f,HR.out,?_⟩
   exact ⟨none,rfl,HNE.out⟩
 | ok x =>
 obtain ⟨B,rfl,hx⟩ := hm
 have HX := hid hx
 have HXO := hid (HOK.out x hr)
 clear hL1 hr hx
 go_wp2_with fail
 refine (rcolumns_any ao c cs w1 (HA.out.later HL1.out).el HA.out.cap.2 HA.out.str).mono ?_
 rintro e w2 ⟨rfl,hL2⟩
 have HL2 := hid (qag.trans _ _ _ HL1.out hL2)
 have HX2 := hid (EIn.kept (hL2.keeps (fun _ => True)) (fun _ _ => trivial) _ _ HX.out)
 obtain ⟨bc,hbc⟩ : ∃ b,colsP cs = b := ⟨_,rfl⟩
 have HBC := hid hbc
 rw [hbc]
 clear hL2 hbc
 cases bc with
 | false =>
   go_wp2_with fail
   refine bodyPost_ret (v := .tuple #[.pointer none,.int .i64 0,.int .i64 4,.int .i64 0]) (by simp [results,Tryz.results14,go_sem]) rfl ⟨HL2.out,.ok x,HR.out,?_⟩
   unfold qep
   simp only
   rw [if_neg (by rw [HBC.out]; simp)]
   exact ⟨none,rfl,(by decide : (4 : Int) ≠ 0)⟩
 | true =>
   go_wp2_with fail
   refine (rkc_all cs x B _ ao c w2 HX2.out (HA.out.later HL2.out).el HA.out.cap.2 (colsP_ok HBC.out) HXO.out.1 HXO.out.2).mono ?_
   rintro e w3 ⟨hL3,hm3⟩
   have HL3 := hid (qag.trans _ _ _ HL2.out hL3)
   have HX3 := hid (EIn.kept (hL3.keeps (fun _ => True)) (fun _ _ => trivial) _ _ HX2.out)
   cases hkp : kindP cs x with
   | error f =>
     rw [hkp] at hm3
     obtain rfl := hm3
     have HKP := hid hkp
     clear hL3 hkp
     go_wp2_with fail
     refine bodyPost_ret (v := .tuple #[.pointer (some ⟨B,0,none⟩),.int .i64 0,.int .i64 f.1,.int .i64 (f.2 : Int)]) (by simp [results,Tryz.results14,go_sem]) rfl ⟨HL3.out,.ok x,HR.out,?_⟩
     unfold qep
     simp only
     rw [if_pos HBC.out,HKP.out]
     exact ⟨_,rfl,kind_err HKP.out⟩
   | ok k =>
     rw [hkp] at hm3
     obtain rfl := hm3
     have HKP := hid hkp
     clear hL3 hkp
     go_wp2_with fail
     refine bodyPost_ret (v := .tuple #[.pointer (some ⟨B,0,none⟩),.int .i64 k,.int .i64 0,.int .i64 0]) (by simp [results,Tryz.results14,go_sem]) rfl ⟨HL3.out,.ok x,HR.out,?_⟩
     unfold qep
     simp only
     rw [if_pos HBC.out,HKP.out]
     exact ⟨B,rfl,EIn.mono (fun _ _ _ => trivial) _ _ HX3.out⟩
end Go.Proofs.YtgajofkeidjbgaaGreatDoor
namespace Go.Proofs.YtgajofkeidjbgaaGreatDoor
set_option linter.unusedSimpArgs false
set_option linter.unusedVariables false
open Go Go.RowKit Go.Deep
theorem list_take {α : Type} {l : List α} {n i : Nat} (hl : l.length = n) (h : i < n) : ∃ a,l[i]? = some a ∧ (l.drop i).take 1 = [a] :=
 ⟨l[i]'(by omega),List.getElem?_eq_getElem (by omega),by rw [List.drop_eq_getElem_cons (by omega)]; rfl⟩
theorem list_three {α : Type} {l : List α} (h : l.length = 3) {a b c : α} (h0 : l[0]? = some a) (h1 : l[1]? = some b) (h2 : l[2]? = some c) : l = [a,b,c] := by
 match l,h with
 | [x,y,z],_ => simp at h0 h1 h2; simp [h0,h1,h2]
section
variable {H : Type} {enc : TypeId × Value → H} {w : World} {base : Nat} {spare : Nat → Bool} {held : Bool}
theorem cell_kind : Tryz.prog.cellsOf 33 = 1 := by kernel_rfl
theorem cell_i64 : Tryz.prog.cellsOf 2 = 1 := by kernel_rfl
theorem cell_str : Tryz.prog.cellsOf 9 = 1 := by kernel_rfl
theorem val_cells {n : Nat} {cs : List Value} {d : DataW H} {pl : List MemPlace} (h : DataW.trod enc Tryz.prog w base spare held n 38 cs = some (d,pl)) (hf : Fits Tryz.prog 38 d) : ∃ x : Val,cs = x.cells ∧ ValOk x := by
 obtain ⟨hl,hfs⟩ := open_struct Tryz.underlying38 h hf
 have hl' : cs.length = 3 := hl.trans (by kernel_rfl)
 obtain ⟨n0,d0,p0,t0,f0⟩ := hfs 0 _ rfl
 obtain ⟨n1,d1,p1,t1,f1⟩ := hfs 1 _ rfl
 obtain ⟨n2,d2,p2,t2,f2⟩ := hfs 2 _ rfl
 obtain ⟨a0,e0,s0⟩ := list_take (i := 0) hl' (by omega)
 obtain ⟨a1,e1,s1⟩ := list_take (i := 1) hl' (by omega)
 obtain ⟨a2,e2,s2⟩ := list_take (i := 2) hl' (by omega)
 change DataW.trod enc Tryz.prog w base spare held n0 33 ((cs.drop 0).take (Tryz.prog.cellsOf 33)) = _ at t0
 rw [cell_kind,s0] at t0
 change DataW.trod enc Tryz.prog w base spare held n1 2 ((cs.drop 1).take (Tryz.prog.cellsOf 2)) = _ at t1
 rw [cell_i64,s1] at t1
 change DataW.trod enc Tryz.prog w base spare held n2 9 ((cs.drop 2).take (Tryz.prog.cellsOf 9)) = _ at t2
 rw [cell_str,s2] at t2
 obtain ⟨k,q0,_,w0⟩ := DataW.trod_int Tryz.underlying33 t0
 obtain ⟨i,q1,_,w1⟩ := DataW.trod_int Tryz.underlying2 t1
 obtain ⟨s,q2,_,w2⟩ := DataW.trod_string Tryz.underlying9 t2
 simp only [List.cons.injEq,and_true] at q0 q1 q2
 subst q0 q1 q2
 exact ⟨⟨k,i,s⟩,list_three hl' e0 e1 e2,w0,w1,w2⟩
theorem vals_of {n : Nat} {cs : List Value} {d : DataW H} {pl : List MemPlace} (h : DataW.trod enc Tryz.prog w base spare held n 39 cs = some (d,pl)) (hf : Fits Tryz.prog 39 d) :
  ∃ v l,cs = [v] ∧ qcx w v l ∧ (∀ x ∈ l,ValOk x) ∧ l.length * 32 ≤ reachBytes := by
 obtain ⟨v,l,h1,h2,h3,h4⟩ := open_list (At := ValAt) (Good := ValOk) (size := 3) Tryz.underlying39 (by kernel_rfl) (by decide) (fun n cs' d pl ht hf _ => by
  obtain ⟨x,rfl,hx⟩ := val_cells ht hf
  exact ⟨x,hx,fun b o hc => ⟨hc 0 _ rfl,hc 1 _ rfl,hc 2 _ rfl⟩⟩) h hf
 have hb : Tryz.prog.bytesOf 38 = 32 := by kernel_rfl
 rw [hb] at h4
 exact ⟨v,l,h1,h2,h3,h4⟩
theorem list_two {α : Type} {l : List α} (h : l.length = 2) {a b : α} (h0 : l[0]? = some a) (h1 : l[1]? = some b) : l = [a,b] := by
 match l,h with
 | [x,y],_ => simp at h0 h1; simp [h0,h1]
end
section
variable {H : Type} {enc : TypeId × Value → H} {w : World} {base : Nat} {spare : Nat → Bool} {held : Bool}
theorem str_bound {t : TypeId} {s : ByteArray} (h : Fits (H := H) Tryz.prog t (.lit (.string s.data.toList))) : s.data.toList.length ≤ 140737488355328 := Nat.le_trans (h s.data.toList.length (by unfold DataW.weights; exact List.mem_singleton.2 rfl)) (by unfold reachBytes; omega)
def ColGood (x : Col) : Prop := x.s.length ≤ 140737488355328
theorem col_cells {n : Nat} {cs : List Value} {d : DataW H} {pl : List MemPlace} (h : DataW.trod enc Tryz.prog w base spare held n 35 cs = some (d,pl)) (hf : Fits Tryz.prog 35 d) :
  ∃ x : Col,cs = [.string (qah x.s),.int .i64 x.k] ∧ ColGood x := by
 obtain ⟨hl,hfs⟩ := open_struct Tryz.underlying35 h hf
 have hl' : cs.length = 2 := hl.trans (by kernel_rfl)
 obtain ⟨n0,d0,p0,t0,f0⟩ := hfs 0 _ rfl
 obtain ⟨n1,d1,p1,t1,f1⟩ := hfs 1 _ rfl
 obtain ⟨a0,e0,s0⟩ := list_take (i := 0) hl' (by omega)
 obtain ⟨a1,e1,s1⟩ := list_take (i := 1) hl' (by omega)
 change DataW.trod enc Tryz.prog w base spare held n0 9 ((cs.drop 0).take (Tryz.prog.cellsOf 9)) = _ at t0
 rw [cell_str,s0] at t0
 change DataW.trod enc Tryz.prog w base spare held n1 33 ((cs.drop 1).take (Tryz.prog.cellsOf 33)) = _ at t1
 rw [cell_kind,s1] at t1
 obtain ⟨s,q0,hd,w0⟩ := DataW.trod_string Tryz.underlying9 t0
 obtain ⟨k,q1,_,w1⟩ := DataW.trod_int Tryz.underlying33 t1
 simp only [List.cons.injEq,and_true] at q0 q1
 subst q0 q1
 simp only [Prod.mk.injEq] at hd
 obtain ⟨rfl,-⟩ := hd
 refine ⟨⟨s.data.toList,k⟩,?_,str_bound f0⟩
 rw [strB_data]
 exact list_two hl' e0 e1
theorem cols_of {n : Nat} {cs : List Value} {d : DataW H} {pl : List MemPlace} (h : DataW.trod enc Tryz.prog w base spare held n 36 cs = some (d,pl)) (hf : Fits Tryz.prog 36 d) :
  ∃ v l,cs = [v] ∧ SliceOf All ColC 2 w v l ∧ (∀ x ∈ l,ColGood x) ∧ l.length * 24 ≤ reachBytes := by
 obtain ⟨v,l,h1,h2,h3,h4⟩ := open_list (At := ColC) (Good := ColGood) (size := 2) Tryz.underlying36 (by kernel_rfl) (by decide) (fun n cs' d pl ht hf _ => by
  obtain ⟨x,rfl,hx⟩ := col_cells ht hf
  exact ⟨x,hx,fun b o hc => ⟨hc 0 _ rfl,hc 1 _ rfl⟩⟩) h hf
 have hb : Tryz.prog.bytesOf 35 = 24 := by kernel_rfl
 rw [hb] at h4
 exact ⟨v,l,h1,h2,h3,h4⟩
theorem cols_arg {W : World} {v : Value} {l : List Col} (h : SliceOf All ColC 2 W v l) (hg : ∀ x ∈ l,ColGood x) (hb : l.length * 24 ≤ reachBytes) : ∃ ao c,v = .slice ao l.length c ∧ ColsArg W ao c l := by
 obtain ⟨a,c,hv,hl,hc,hn,he⟩ := h
 exact ⟨a,c,hv,he,⟨hl,by unfold reachBytes at hb; omega⟩,hg⟩
end
end Go.Proofs.YtgajofkeidjbgaaGreatDoor
