/-
  PROVED HERE: a part of the proof of ExprEvals: RefE, RefTree, RefP1, RefP2.
-/
import Derived.Test.YtgajofkeidjbgaaGreatDoorGTabExpr
import Derived.Test.YtgajofkeidjbgaaGreatDoorGExprKind
import Derived.Test.YtgajofkeidjbgaaGreatDoorShort
import Derived.Deep.RegionHeld
namespace Go.Proofs.YtgajofkeidjbgaaGreatDoor
set_option linter.unusedSimpArgs false
set_option linter.unusedVariables false
set_option maxHeartbeats 2000000
set_option maxRecDepth 100000
open Go.RowKit
abbrev valueN : List UInt8 := [118,97,108,117,101]
abbrev nameN : List UInt8 := [110,97,109,101]
def Tok.d (t : Tok) : Tok := ⟨if t.k = 0 then 101 else t.k,t.t,t.p⟩
structure Row3 where
 g : Nat
 o : Nat
 c : Nat
def RAt (w : World) (R : Nat) (K : Row3) (L : List Tok) (i d : Nat) (e : Int) (bad : Nat) : Prop :=
 w.heap[R]? = some (.cells #[.slice (some ⟨K.g,K.o,none⟩) L.length K.c,.int .i64 (i : Int),.int .i64 (d : Int),.int .i64 e,.int .i64 (bad : Int)] 68 (0,0)) ∧ K.g < R ∧ ∀ j (h : j < L.length),TokAt w K.g (K.o + j * 3) L[j].d
theorem RAt.kept {S : Nat → Prop} {w w' : World} {R : Nat} {K : Row3} {L : List Tok} {i d bad : Nat} {e : Int} (h : RAt w R K L i d e bad) (k : Keeps S w w') (hR : S R) (hs : S K.g) : RAt w' R K L i d e bad :=
 ⟨k.obj hR h.1,h.2.1,fun j hj => (h.2.2 j hj).kept hs k⟩
theorem RAt.later {w w' : World} {R : Nat} {K : Row3} {L : List Tok} {i d bad : Nat} {e : Int} (h : RAt w R K L i d e bad) (k : qag w w') : RAt w' R K L i d e bad := h.kept (k.keeps fun _ => True) trivial trivial
theorem RAt.set {w : World} {R : Nat} {K : Row3} {L : List Tok} {i d bad : Nat} {e : Int} (h : RAt w R K L i d e bad) :
  (∀ i' : Nat,RAt (w.setCell ⟨R,1,none⟩ (.int .i64 (i' : Int))) R K L i' d e bad) ∧ (∀ d' : Nat,RAt (w.setCell ⟨R,2,none⟩ (.int .i64 (d' : Int))) R K L i d' e bad) ∧ (∀ e' : Int,RAt (w.setCell ⟨R,3,none⟩ (.int .i64 e')) R K L i d e' bad) ∧
  (∀ b' : Nat,RAt (w.setCell ⟨R,4,none⟩ (.int .i64 (b' : Int))) R K L i d e b') ∧ ∀ (o : Nat) (u : Value),Keeps (fun b => b ≠ R) w (w.setCell ⟨R,o,none⟩ u) := by
 have hk : ∀ (o : Nat) (u : Value),Keeps (fun b => b ≠ R) w (w.setCell ⟨R,o,none⟩ u) := fun o u => (Keeps.refl _ w).setCell (p := ⟨R,o,none⟩) (.inl fun h => h rfl) _
 obtain ⟨h1,h2,h3⟩ := h
 have ht : ∀ (o : Nat) (u : Value),∀ j (h : j < L.length),TokAt (w.setCell ⟨R,o,none⟩ u) K.g (K.o + j * 3) L[j].d := fun o u j hj => (h3 j hj).kept (S := fun b => b ≠ R) (Nat.ne_of_lt h2) (hk o u)
 exact ⟨fun i' => ⟨qak (i := 1) h1 _,h2,ht _ _⟩,fun d' => ⟨qak (i := 2) h1 _,h2,ht _ _⟩,fun e' => ⟨qak (i := 3) h1 _,h2,ht _ _⟩,fun b' => ⟨qak (i := 4) h1 _,h2,ht _ _⟩,hk⟩
theorem RAt.cells {w : World} {R : Nat} {K : Row3} {L : List Tok} {i d bad : Nat} {e : Int} (h : RAt w R K L i d e bad) :
  w.cell? ⟨R,0,none⟩ = some (.slice (some ⟨K.g,K.o,none⟩) L.length K.c) ∧ w.cell? ⟨R,1,none⟩ = some (.int .i64 (i : Int)) ∧ w.cell? ⟨R,2,none⟩ = some (.int .i64 (d : Int)) ∧ w.cell? ⟨R,3,none⟩ = some (.int .i64 e) ∧ w.cell? ⟨R,4,none⟩ = some (.int .i64 (bad : Int)) ∧ (∀ o,w.frozen? ⟨R,o,none⟩ = false) ∧ R < w.heap.size :=
 ⟨qac (i := 0) h.1 rfl,qac (i := 1) h.1 rfl,qac (i := 2) h.1 rfl,qac (i := 3) h.1 rfl,qac (i := 4) h.1 rfl,fun o => qaq h.1,qch h.1⟩
abbrev KidsIn (S : Nat → Prop) (w : World) (a : Value) (us : List Value) : Prop := SliceOf S (fun w b o u => w.cell? ⟨b,o,none⟩ = some u) 1 w a us
def unN (neg : Bool) : List UInt8 := if neg = true then minusN else notW
mutual
def EIn (S : Nat → Prop) (w : World) : Value → Ex → Prop
 | v,.lit x => ∃ (B : Nat) (p a nm : Value),S B ∧ v = .pointer (some ⟨B,0,none⟩) ∧ w.heap[B]? = some (.cells #[.string (qah valueN),p,a,.int .i64 x.k,.int .i64 x.n,.string x.t,nm] 77 (0,0))
 | v,.name s p => ∃ (B : Nat) (a v1 v2 v3 : Value),S B ∧ v = .pointer (some ⟨B,0,none⟩) ∧ w.heap[B]? = some (.cells #[.string (qah nameN),.int .i64 (p : Int),a,v1,v2,v3,.string (qah s)] 77 (0,0))
 | v,.un neg p x => ∃ (B : Nat) (a u v1 v2 v3 nm : Value),S B ∧ v = .pointer (some ⟨B,0,none⟩) ∧ w.heap[B]? = some (.cells #[.string (qah (unN neg)),.int .i64 (p : Int),a,v1,v2,v3,nm] 77 (0,0)) ∧
   KidsIn S w a [u] ∧ EIn S w u x
 | v,.bin o p x y => ∃ (B : Nat) (a u1 u2 v1 v2 v3 nm : Value),S B ∧ v = .pointer (some ⟨B,0,none⟩) ∧ w.heap[B]? = some (.cells #[.string (qah o),.int .i64 (p : Int),a,v1,v2,v3,nm] 77 (0,0)) ∧
   KidsIn S w a [u1,u2] ∧ EIn S w u1 x ∧ EIn S w u2 y
 | v,.call f p l => ∃ (B : Nat) (a : Value) (us : List Value) (v1 v2 v3 : Value),S B ∧ v = .pointer (some ⟨B,0,none⟩) ∧ w.heap[B]? = some (.cells #[.string (qah qcu),.int .i64 (p : Int),a,v1,v2,v3,.string (qah f)] 77 (0,0)) ∧
   KidsIn S w a us ∧ EsIn S w us l
def EsIn (S : Nat → Prop) (w : World) : List Value → List Ex → Prop
 | [],[] => True
 | v :: vs,x :: l => EIn S w v x ∧ EsIn S w vs l
 | _,_ => False
end
theorem kids_kept {S S' : Nat → Prop} {w w' : World} {a : Value} {us : List Value} (h : KidsIn S w a us) (k : Keeps S' w w') (hs : ∀ b,S b → S' b) : KidsIn S w' a us := h.map fun _ _ _ hb hx => ⟨hb,k.cell (hs _ hb) hx⟩
mutual
theorem EIn.kept {S S' : Nat → Prop} {w w' : World} (k : Keeps S' w w') (hs : ∀ b,S b → S' b) : ∀ (v : Value) (x : Ex),EIn S w v x → EIn S w' v x
 | v,.lit x,h => by
   unfold EIn at h ⊢
   obtain ⟨B,p,a,nm,h1,h2,h3⟩ := h
   exact ⟨B,p,a,nm,h1,h2,k.obj (hs _ h1) h3⟩
 | v,.name s p,h => by
   unfold EIn at h ⊢
   obtain ⟨B,a,v1,v2,v3,h1,h2,h3⟩ := h
   exact ⟨B,a,v1,v2,v3,h1,h2,k.obj (hs _ h1) h3⟩
 | v,.un neg p x,h => by
   unfold EIn at h ⊢
   obtain ⟨B,a,u,v1,v2,v3,nm,h1,h2,h3,h4,h5⟩ := h
   exact ⟨B,a,u,v1,v2,v3,nm,h1,h2,k.obj (hs _ h1) h3,kids_kept h4 k hs,EIn.kept k hs u x h5⟩
 | v,.bin o p x y,h => by
   unfold EIn at h ⊢
   obtain ⟨B,a,u1,u2,v1,v2,v3,nm,h1,h2,h3,h4,h5,h6⟩ := h
   exact ⟨B,a,u1,u2,v1,v2,v3,nm,h1,h2,k.obj (hs _ h1) h3,kids_kept h4 k hs,EIn.kept k hs u1 x h5,EIn.kept k hs u2 y h6⟩
 | v,.call f p l,h => by
   unfold EIn at h ⊢
   obtain ⟨B,a,us,v1,v2,v3,h1,h2,h3,h4,h5⟩ := h
   exact ⟨B,a,us,v1,v2,v3,h1,h2,k.obj (hs _ h1) h3,kids_kept h4 k hs,EsIn.kept k hs us l h5⟩
theorem EsIn.kept {S S' : Nat → Prop} {w w' : World} (k : Keeps S' w w') (hs : ∀ b,S b → S' b) : ∀ (vs : List Value) (l : List Ex),EsIn S w vs l → EsIn S w' vs l
 | [],[],h => by unfold EsIn; trivial
 | v :: vs,x :: l,h => by
   unfold EsIn at h ⊢
   exact ⟨EIn.kept k hs v x h.1,EsIn.kept k hs vs l h.2⟩
 | [],_ :: _,h => by unfold EsIn at h; exact h.elim
 | _ :: _,[],h => by unfold EsIn at h; exact h.elim
end
def qen : Ex → List UInt8
 | .lit _ => valueN
 | .name _ _ => nameN
 | .un neg _ _ => unN neg
 | .bin o _ _ _ => o
 | .call _ _ _ => qcu
theorem EIn.what {S : Nat → Prop} {w : World} {B : Nat} {x : Ex} (h : EIn S w (.pointer (some ⟨B,0,none⟩)) x) : w.cell? ⟨B,0,none⟩ = some (.string (qah (qen x))) := by
 cases x <;> (unfold EIn at h)
 ·obtain ⟨B',p,a,nm,h1,h2,h3⟩ := h
  simp only [Value.pointer.injEq,Option.some.injEq,Addr.mk.injEq,and_true] at h2
  subst h2; exact qac (i := 0) h3 rfl
 ·obtain ⟨B',a,v1,v2,v3,h1,h2,h3⟩ := h
  simp only [Value.pointer.injEq,Option.some.injEq,Addr.mk.injEq,and_true] at h2
  subst h2; exact qac (i := 0) h3 rfl
 ·obtain ⟨B',a,u,v1,v2,v3,nm,h1,h2,h3,h4⟩ := h
  simp only [Value.pointer.injEq,Option.some.injEq,Addr.mk.injEq,and_true] at h2
  subst h2; exact qac (i := 0) h3 rfl
 ·obtain ⟨B',a,u1,u2,v1,v2,v3,nm,h1,h2,h3,h4⟩ := h
  simp only [Value.pointer.injEq,Option.some.injEq,Addr.mk.injEq,and_true] at h2
  subst h2; exact qac (i := 0) h3 rfl
 ·obtain ⟨B',a,us,v1,v2,v3,h1,h2,h3,h4⟩ := h
  simp only [Value.pointer.injEq,Option.some.injEq,Addr.mk.injEq,and_true] at h2
  subst h2; exact qac (i := 0) h3 rfl
mutual
theorem EIn.mono {S S' : Nat → Prop} {w : World} (hs : ∀ b,b < w.heap.size → S b → S' b) : ∀ (v : Value) (x : Ex),EIn S w v x → EIn S' w v x
 | v,.lit x,h => by
   unfold EIn at h ⊢
   obtain ⟨B,p,a,nm,h1,h2,h3⟩ := h
   exact ⟨B,p,a,nm,hs _ (qch h3) h1,h2,h3⟩
 | v,.name s p,h => by
   unfold EIn at h ⊢
   obtain ⟨B,a,v1,v2,v3,h1,h2,h3⟩ := h
   exact ⟨B,a,v1,v2,v3,hs _ (qch h3) h1,h2,h3⟩
 | v,.un neg p x,h => by
   unfold EIn at h ⊢
   obtain ⟨B,a,u,v1,v2,v3,nm,h1,h2,h3,h4,h5⟩ := h
   exact ⟨B,a,u,v1,v2,v3,nm,hs _ (qch h3) h1,h2,h3,h4.map fun _ _ _ hb hx => ⟨hs _ (qad hx) hb,hx⟩,EIn.mono hs u x h5⟩
 | v,.bin o p x y,h => by
   unfold EIn at h ⊢
   obtain ⟨B,a,u1,u2,v1,v2,v3,nm,h1,h2,h3,h4,h5,h6⟩ := h
   exact ⟨B,a,u1,u2,v1,v2,v3,nm,hs _ (qch h3) h1,h2,h3,h4.map fun _ _ _ hb hx => ⟨hs _ (qad hx) hb,hx⟩,EIn.mono hs u1 x h5,EIn.mono hs u2 y h6⟩
 | v,.call f p l,h => by
   unfold EIn at h ⊢
   obtain ⟨B,a,us,v1,v2,v3,h1,h2,h3,h4,h5⟩ := h
   exact ⟨B,a,us,v1,v2,v3,hs _ (qch h3) h1,h2,h3,h4.map fun _ _ _ hb hx => ⟨hs _ (qad hx) hb,hx⟩,EsIn.mono hs us l h5⟩
theorem EsIn.mono {S S' : Nat → Prop} {w : World} (hs : ∀ b,b < w.heap.size → S b → S' b) : ∀ (vs : List Value) (l : List Ex),EsIn S w vs l → EsIn S' w vs l
 | [],[],h => by unfold EsIn; trivial
 | v :: vs,x :: l,h => by
   unfold EsIn at h ⊢
   exact ⟨EIn.mono hs v x h.1,EsIn.mono hs vs l h.2⟩
 | [],_ :: _,h => by unfold EsIn at h; exact h.elim
 | _ :: _,[],h => by unfold EsIn at h; exact h.elim
end
def ROut (w : World) (R : Nat) (K : Row3) (L : List Tok) (i d : Nat) (T : Res → Prop) (e : Ending) (w' : World) : Prop :=
 Keeps (fun b => b ≠ R) w w' ∧ ∃ (r : Res) (B : Nat),T r ∧ e = .returned (.pointer (some ⟨B,0,none⟩)) ∧ match r with
  | .error f => f.1 ≠ 0 ∧ ∃ j,i ≤ j ∧ j < L.length ∧ RAt w' R K L j d f.1 f.2
  | .ok x => EIn (fun b => b ≠ R ∧ w.heap.size ≤ b) w' (.pointer (some ⟨B,0,none⟩)) x.1 ∧ ∃ j,i < j ∧ L.drop j = x.2 ∧ RAt w' R K L j d 0 0 ∧ EndL x.2
theorem qay {s : ByteArray} (l : List UInt8) (h : s = qah l) : (s.toList == l) = true := by rw [h,qan]; simp
theorem what_ne {s : ByteArray} {l m : List UInt8} (h : s = qah l) (hn : l ≠ m) : (s.toList == m) = false := by rw [h,qan]; simpa using hn
theorem qab {s : ByteArray} {l : List UInt8} (m : List UInt8) (h : s = qah l) (hn : l ≠ m) : (s.toList == m) = false := what_ne h hn
theorem ptr_inj {N N' : Nat} (h : Value.pointer (some ⟨N,0,none⟩) = .pointer (some ⟨N',0,none⟩)) : N = N' := by
 simp only [Value.pointer.injEq,Option.some.injEq,Addr.mk.injEq] at h
 exact h.1
theorem EIn.ptr {S : Nat → Prop} {w : World} {v : Value} {x : Ex} (h : EIn S w v x) : ∃ N,v = .pointer (some ⟨N,0,none⟩) := by
 cases x <;> (unfold EIn at h)
 ·obtain ⟨B,p,a,nm,-,h,-⟩ := h; exact ⟨B,h⟩
 ·obtain ⟨B,a,v1,v2,v3,-,h,-⟩ := h; exact ⟨B,h⟩
 ·obtain ⟨B,a,u,v1,v2,v3,nm,-,h,-⟩ := h; exact ⟨B,h⟩
 ·obtain ⟨B,a,u1,u2,v1,v2,v3,nm,-,h,-⟩ := h; exact ⟨B,h⟩
 ·obtain ⟨B,a,us,v1,v2,v3,-,h,-⟩ := h; exact ⟨B,h⟩
theorem kids_at {S : Nat → Prop} {w : World} {a : Value} {us : List Value} (h : KidsIn S w a us) (hu : us ≠ []) : ∃ b o c,a = .slice (some ⟨b,o,none⟩) us.length c ∧ ∀ i (hi : i < us.length),w.cell? ⟨b,o + i,none⟩ = some us[i] := by
 obtain ⟨ao,c,hv,-,-,-,he⟩ := h
 have h0 : 0 < us.length := List.length_pos_iff.2 hu
 obtain ⟨b,o,hao,-,-⟩ := he 0 h0
 subst hao
 refine ⟨b,o,c,hv,fun i hi => ?_⟩
 obtain ⟨b',o',e,-,hx⟩ := he i hi
 simp only [Option.some.injEq,Addr.mk.injEq,and_true] at e
 obtain ⟨rfl,rfl⟩ := e
 simpa using hx
theorem es_at {S : Nat → Prop} {w : World} : ∀ {vs : List Value} {l : List Ex},EsIn S w vs l → ∀ k (h : k < l.length) (h' : k < vs.length),EIn S w vs[k] l[k]
 | [],[],_,k,h,_ => absurd h (by simp)
 | v :: vs,x :: l,hn,k,h,h' => by
   unfold EsIn at hn
   cases k with
   | zero => exact hn.1
   | succ k => exact es_at hn.2 k (by simpa using h) (by simpa using h')
 | [],_ :: _,h,_,_,_ => by unfold EsIn at h; exact h.elim
 | _ :: _,[],h,_,_,_ => by unfold EsIn at h; exact h.elim
theorem ops_what : ∀ o ∈ opsW,o ≠ valueN ∧ o ≠ nameN ∧ o ≠ qcu ∧ o ≠ minusN ∧ o ≠ notW := by decide
theorem es_len {S : Nat → Prop} {w : World} : ∀ {vs : List Value} {l : List Ex},EsIn S w vs l → vs.length = l.length
 | [],[],_ => rfl
 | v :: vs,x :: l,h => by
   unfold EsIn at h
   simp [es_len h.2]
 | [],_ :: _,h => by unfold EsIn at h; exact h.elim
 | _ :: _,[],h => by unfold EsIn at h; exact h.elim
theorem byte_d (t : Tok) (n : Nat) (hn : n < 256) (h0 : UInt8.ofNat n ≠ 0) (h1 : UInt8.ofNat n ≠ 101) : ((t.d.k.toNat : Int) == (n : Int)) = decide (t.k = UInt8.ofNat n) := by
 rw [qdb _ n hn,decide_eq_decide]
 show (if t.k = 0 then 101 else t.k) = _ ↔ _
 by_cases hk : t.k = 0
 ·rw [if_pos hk,hk]
  exact ⟨fun h => absurd h.symm h1,fun h => absurd h.symm h0⟩
 ·rw [if_neg hk]
theorem tokvar_set {w w1 w2 : World} {T : Nat} {t : Tok} {a b c : Value} (hL : qag w w1) (h : w1.heap[T]? = some (.cells #[a,b,c] 71 (0,0))) (hT : w.heap.size ≤ T)
  (h2 : w2 = ((w1.setCell ⟨T,0,none⟩ (.int .u8 (t.k.toNat : Int))).setCell ⟨T,1,none⟩ (.string (qah t.t))).setCell ⟨T,2,none⟩ (.int .i64 (t.p : Int))) :
  qag w w2 ∧ w2.heap[T]? = some (.cells #[.int .u8 (t.k.toNat : Int),.string (qah t.t),.int .i64 (t.p : Int)] 71 (0,0)) := by
 subst h2
 exact ⟨((hL.new (p := ⟨T,0,none⟩) hT _).new (p := ⟨T,1,none⟩) hT _).new (p := ⟨T,2,none⟩) hT _,qak (i := 2) (qak (i := 1) (qak (i := 0) h _) _) _⟩
theorem rfail_any (R : Nat) (K : Row3) (L : List Tok) (i d bad : Nat) (e c : Int) (p : Nat) (w : World) (h : RAt w R K L i d e bad) (hc : c ≠ 0) : Calls Tryz.prog 23 #[.pointer (some ⟨R,0,none⟩),.int .i64 c,.int .i64 (p : Int)] w fun en w' =>
  en = .returned (.tuple #[]) ∧ Keeps (fun b => b ≠ R) w w' ∧ (if e = 0 then RAt w' R K L i d c p else w' = w) := by
 have HR := hid h
 obtain ⟨-,-,-,c3,c4,hz,hlt⟩ := h.cells
 have z3 := hz 3
 clear h hz
 by_cases he : e = 0
 ·have HE := hid he
  subst he
  have h1 := HR.out.set.2.2.1 c
  have q4 := (h1.cells).2.2.2.2.1
  have z4 := (h1.cells).2.2.2.2.2.1 4
  have q4l := (h1.cells).2.2.2.2.2.2
  have H1 := hid h1
  clear h1
  go_enter Tryz.func23,Tryz.ntmps23
  go_wp2_with fail
  refine bodyPost_end (results_none rfl _ _ _) rfl ⟨rfl,((HR.out.set).2.2.2.2 3 _).trans ((H1.out.set).2.2.2.2 4 _),?_⟩
  exact H1.out.set.2.2.2.1 p
 ·have he' : (e == 0) = false := by simpa using he
  have HE := hid he
  clear he
  go_enter Tryz.func23,Tryz.ntmps23
  go_wp2_with fail
  refine bodyPost_end (results_none rfl _ _ _) rfl ⟨rfl,Keeps.refl _ _,rfl⟩
theorem sign_any (R : Nat) (K : Row3) (L : List Tok) (i d bad : Nat) (e : Int) (x : List UInt8) (w : World) (h : RAt w R K L i d e bad) (hi : i < L.length) : Calls Tryz.prog 44 #[.pointer (some ⟨R,0,none⟩),.string (qah x)] w fun en w' =>
  en = .returned (.bool (decide (e = 0) && isW L[i] x)) ∧ qag w w' := by
 have HR := hid h
 obtain ⟨t0,t1,t2⟩ := h.2.2 i hi
 obtain ⟨c0,c1,-,c3,-,hz,hlt⟩ := h.cells
 obtain ⟨g,o,c⟩ := K
 simp only at c0 t0 t1 t2
 obtain ⟨t,ht⟩ : ∃ t,t = L[i] := ⟨_,rfl⟩
 rw [← ht] at t0 t1 t2
 have HT := hid ht
 have hii : (i : Int) < (L.length : Int) := by omega
 clear h hz ht
 go_enter Tryz.func44,Tryz.ntmps44
 go_upto_region 1 with (fail)
 refine wp_region_held_drew (S := fun w => w.cell? ⟨R,0,none⟩ = some (.slice (some ⟨g,o,none⟩) L.length c) ∧ w.cell? ⟨R,1,none⟩ = some (.int .i64 (i : Int)) ∧ w.cell? ⟨R,3,none⟩ = some (.int .i64 e) ∧ TokAt w g (o + i * 3) t.d)
  (by kernel_rfl) ⟨(qag.drew w).cell c0,(qag.drew w).cell c1,(qag.drew w).cell c3,(qag.drew w).cell t0,(qag.drew w).cell t1,(qag.drew w).cell t2⟩ (fun hS => ?_)
 refine tH 0 (.pointer (some ⟨R,0,none⟩)) rfl (by kernel_rfl) (fun _ _ _ h => h) ⟨by rfl,?_⟩ hS ?_
 ·intro w hS
  clear hS
  go_simp
 try simp only [Act.put,sib,List.set]
 refine tH 4 (.pointer (some ⟨R,0,none⟩)) rfl (by kernel_rfl) (fun _ _ _ h => h) ⟨by rfl,?_⟩ hS ?_
 ·intro w hS
  clear hS
  go_simp
 try simp only [Act.put,sib,List.set]
 refine tH 1 (.pointer (some ⟨R,0,none⟩)) rfl (by kernel_rfl) (fun _ _ _ h => h) ⟨by rfl,?_⟩ hS ?_
 ·rintro w ⟨h0,-⟩
  try (have := qad h0)
  go_simp
 try simp only [Act.put,sib,List.set]
 refine tH 5 (.pointer (some ⟨R,0,none⟩)) rfl (by kernel_rfl) (fun _ _ _ h => h) ⟨by rfl,?_⟩ hS ?_
 ·rintro w ⟨h0,-⟩
  try (have := qad h0)
  go_simp
 try simp only [Act.put,sib,List.set]
 refine tH 2 (.pointer (some ⟨R,0,none⟩)) rfl (by kernel_rfl) (fun _ _ _ h => h) ⟨by rfl,?_⟩ hS ?_
 ·rintro w ⟨h0,-⟩
  try (have := qad h0)
  go_simp
 try simp only [Act.put,sib,List.set]
 refine tH 6 (.pointer (some ⟨R,1,none⟩)) rfl (by kernel_rfl) (fun _ _ _ h => h) ⟨by rfl,?_⟩ hS ?_
 ·rintro w ⟨h0,-⟩
  try (have := qad h0)
  go_simp
 try simp only [Act.put,sib,List.set]
 refine tH 3 (.slice (some ⟨g,o,none⟩) L.length c) rfl (by kernel_rfl) (fun _ _ _ h => h) ⟨by rfl,?_⟩ hS ?_
 ·rintro w ⟨h0,-⟩
  try (have := qad h0)
  go_simp
 try simp only [Act.put,sib,List.set]
 refine tH 7 (.int .i64 (i : Int)) rfl (by kernel_rfl) (fun _ _ _ h => h) ⟨by rfl,?_⟩ hS ?_
 ·rintro w ⟨-,h0,-⟩
  try (have := qad h0)
  go_simp
 try simp only [Act.put,sib,List.set]
 refine tH 8 (.pointer (some ⟨g,o + i * 3,none⟩)) rfl (by kernel_rfl) (fun _ _ _ h => h) ⟨by rfl,?_⟩ hS ?_
 ·intro w hS
  clear hS
  go_simp
 try simp only [Act.put,sib,List.set]
 refine tH 9 (.agg #[.int .u8 (t.d.k.toNat : Int),.string (qah t.d.t),.int .i64 (t.d.p : Int)]) rfl (by kernel_rfl) (fun _ _ _ h => h) ⟨by rfl,?_⟩ hS ?_
 ·rintro w ⟨-,-,-,h0,h1,h2⟩
  try (have := qad h0)
  go_simp
 try simp only [Act.put,sib,List.set]
 refine wpAnyH_ready (rs := [10]) (by kernel_rfl) (by simp) (AllReadyH.cons rfl (fun K hK => ?_) AllReadyH.nil)
 go_simp
 obtain ⟨w1,hw1⟩ : ∃ w1,w1 = (w.alloc (.cells #[.int .u8 0,.string ⟨#[]⟩,.int .i64 0] 71)).drew := ⟨_,rfl⟩
 have hL1 : qag w w1 := by rw [hw1]; exact qag.trans _ _ _ (qag.alloc _ _) (qag.drew _)
 have hN1 : w1.heap[w.heap.size]? = some (.cells #[.int .u8 0,.string ⟨#[]⟩,.int .i64 0] 71 (0,0)) := by rw [hw1]; exact qap _ _
 obtain ⟨T,hT⟩ : ∃ T,T = w.heap.size := ⟨_,rfl⟩
 have hTw : w.heap.size ≤ T := by omega
 rw [← hw1,← hT]
 rw [← hT] at hN1
 have k0 : w1.cell? ⟨T,0,none⟩ = some (.int .u8 0) := qac (i := 0) hN1 rfl
 have k1 : w1.cell? ⟨T,1,none⟩ = some (.string ⟨#[]⟩) := qac (i := 1) hN1 rfl
 have k2 : w1.cell? ⟨T,2,none⟩ = some (.int .i64 0) := qac (i := 2) hN1 rfl
 have z0 := qaq (i := 0) hN1
 have z1 := qaq (i := 1) hN1
 have z2 := qaq (i := 2) hN1
 have kl := qad k0
 have hS1 : w1.cell? ⟨R,0,none⟩ = some (.slice (some ⟨g,o,none⟩) L.length c) ∧ w1.cell? ⟨R,1,none⟩ = some (.int .i64 (i : Int)) ∧ w1.cell? ⟨R,3,none⟩ = some (.int .i64 e) ∧ TokAt w1 g (o + i * 3) t.d := ⟨hL1.cell c0,hL1.cell c1,hL1.cell c3,hL1.cell t0,hL1.cell t1,hL1.cell t2⟩
 clear hw1 hT hS
 refine hK.out _ _ hS1 (fun hS => ?_)
 clear hK K
 try simp only [Act.put,sib,List.set]
 clear hS1
 refine wpAnyH_ready (rs := [11]) (by kernel_rfl) (by simp) (AllReadyH.cons rfl (fun K hK => ?_) AllReadyH.nil)
 go_simp
 obtain ⟨w2,hw2⟩ : ∃ w2,w2 = ((w1.setCell ⟨T,0,none⟩ (.int .u8 (t.d.k.toNat : Int))).setCell ⟨T,1,none⟩ (.string (qah t.d.t))).setCell ⟨T,2,none⟩ (.int .i64 (t.d.p : Int)) := ⟨_,rfl⟩
 obtain ⟨hL2,hT2⟩ := tokvar_set hL1 hN1 hTw hw2
 rw [← hw2]
 have hS2 : w2.cell? ⟨R,0,none⟩ = some (.slice (some ⟨g,o,none⟩) L.length c) ∧ w2.cell? ⟨R,1,none⟩ = some (.int .i64 (i : Int)) ∧ w2.cell? ⟨R,3,none⟩ = some (.int .i64 e) ∧ TokAt w2 g (o + i * 3) t.d := ⟨hL2.cell c0,hL2.cell c1,hL2.cell c3,hL2.cell t0,hL2.cell t1,hL2.cell t2⟩
 clear hw2 k0 k1 k2 z0 z1 z2 kl hL1 hN1 hS hTw
 refine hK.out _ _ hS2 (fun hS => ?_)
 clear hK K
 try simp only [Act.put,sib,List.set]
 refine wpAnyH_done (by kernel_rfl) ?_ _
 have e3 := hS.2.2.1
 have m0 : w2.cell? ⟨T,0,none⟩ = some (.int .u8 (t.d.k.toNat : Int)) := qac (i := 0) hT2 rfl
 have m1 : w2.cell? ⟨T,1,none⟩ = some (.string (qah t.t)) := qac (i := 1) hT2 rfl
 have ml := qad m0
 have rl := qad e3
 have HL2 := hid hL2
 obtain ⟨b0,h0⟩ : ∃ b,(e == 0) = b := ⟨_,rfl⟩
 obtain ⟨b1,h1⟩ : ∃ b,decide (t.t = x) = b := ⟨_,rfl⟩
 obtain ⟨b2,h2⟩ : ∃ b,decide (t.k = 111) = b := ⟨_,rfl⟩
 obtain ⟨b3,h3⟩ : ∃ b,decide (t.k = 110) = b := ⟨_,rfl⟩
 have e1 : ((qah t.t).toList == (qah x).toList) = b1 := (strs_eq _ _).trans h1
 have e2 : ((t.d.k.toNat : Int) == 111) = b2 := (byte_d t 111 (by omega) (by decide) (by decide)).trans h2
 have e4 : ((t.d.k.toNat : Int) == 110) = b3 := (byte_d t 110 (by omega) (by decide) (by decide)).trans h3
 have HV : Hid ((decide (e = 0) && isW L[i] x) = (b0 && (b1 && (b2 || b3)))) := hid (by
  rw [← HT.out,← h0,← h1,← h2,← h3]
  unfold isW
  rw [Bool.eq_iff_iff]
  simp)
 clear hL2 hT2 c0 c1 c3 t0 t1 t2 hS hlt h1 h2 h3 hS2
 cases b0 with
 | false =>
   go_wp2_with fail
   exact bodyPost_ret (results_tmp rfl _ _ _) rfl ⟨by rw [HV.out]; rfl,HL2.out⟩
 | true =>
   cases b1 with
   | false =>
     go_wp2_with fail
     exact bodyPost_ret (results_tmp rfl _ _ _) rfl ⟨by rw [HV.out]; rfl,HL2.out⟩
   | true =>
     cases b2 with
     | true =>
       go_wp2_with fail
       exact bodyPost_ret (results_tmp rfl _ _ _) rfl ⟨by rw [HV.out]; rfl,HL2.out⟩
     | false =>
       go_wp2_with fail
       refine bodyPost_ret (results_tmp rfl _ _ _) rfl ⟨?_,HL2.out⟩
       rw [HV.out]
       cases b3 <;> rfl
theorem ite_or' {α : Type} (p q : Prop) [Decidable p] [Decidable q] (x y : α) : (if p ∨ q then x else y) = if p then x else if q then x else y := by
 by_cases hp : p <;> by_cases hq : q <;> simp [hp,hq]
theorem qdg (s : List UInt8) (w : World) : Calls Tryz.prog 26 #[.string (qah s)] w fun e w' => e = .returned (.int .i64 (powS s : Int)) ∧ w' = w := by
 obtain ⟨b0,h0⟩ : ∃ b,decide (s = [111,114]) = b := ⟨_,rfl⟩
 have e0 : ((qah s).toList == [111,114]) = b0 := by rw [qan,← h0,Bool.eq_iff_iff]; simp
 obtain ⟨b1,h1⟩ : ∃ b,decide (s = [97,110,100]) = b := ⟨_,rfl⟩
 have e1 : ((qah s).toList == [97,110,100]) = b1 := by rw [qan,← h1,Bool.eq_iff_iff]; simp
 obtain ⟨b2,h2⟩ : ∃ b,decide (s = [61]) = b := ⟨_,rfl⟩
 have e2 : ((qah s).toList == [61]) = b2 := by rw [qan,← h2,Bool.eq_iff_iff]; simp
 obtain ⟨b3,h3⟩ : ∃ b,decide (s = [60,62]) = b := ⟨_,rfl⟩
 have e3 : ((qah s).toList == [60,62]) = b3 := by rw [qan,← h3,Bool.eq_iff_iff]; simp
 obtain ⟨b4,h4⟩ : ∃ b,decide (s = [60]) = b := ⟨_,rfl⟩
 have e4 : ((qah s).toList == [60]) = b4 := by rw [qan,← h4,Bool.eq_iff_iff]; simp
 obtain ⟨b5,h5⟩ : ∃ b,decide (s = [60,61]) = b := ⟨_,rfl⟩
 have e5 : ((qah s).toList == [60,61]) = b5 := by rw [qan,← h5,Bool.eq_iff_iff]; simp
 obtain ⟨b6,h6⟩ : ∃ b,decide (s = [62]) = b := ⟨_,rfl⟩
 have e6 : ((qah s).toList == [62]) = b6 := by rw [qan,← h6,Bool.eq_iff_iff]; simp
 obtain ⟨b7,h7⟩ : ∃ b,decide (s = [62,61]) = b := ⟨_,rfl⟩
 have e7 : ((qah s).toList == [62,61]) = b7 := by rw [qan,← h7,Bool.eq_iff_iff]; simp
 obtain ⟨b8,h8⟩ : ∃ b,decide (s = [43]) = b := ⟨_,rfl⟩
 have e8 : ((qah s).toList == [43]) = b8 := by rw [qan,← h8,Bool.eq_iff_iff]; simp
 obtain ⟨b9,h9⟩ : ∃ b,decide (s = [45]) = b := ⟨_,rfl⟩
 have e9 : ((qah s).toList == [45]) = b9 := by rw [qan,← h9,Bool.eq_iff_iff]; simp
 obtain ⟨b10,h10⟩ : ∃ b,decide (s = [43,43]) = b := ⟨_,rfl⟩
 have e10 : ((qah s).toList == [43,43]) = b10 := by rw [qan,← h10,Bool.eq_iff_iff]; simp
 obtain ⟨b11,h11⟩ : ∃ b,decide (s = [42]) = b := ⟨_,rfl⟩
 have e11 : ((qah s).toList == [42]) = b11 := by rw [qan,← h11,Bool.eq_iff_iff]; simp
 obtain ⟨b12,h12⟩ : ∃ b,decide (s = [47]) = b := ⟨_,rfl⟩
 have e12 : ((qah s).toList == [47]) = b12 := by rw [qan,← h12,Bool.eq_iff_iff]; simp
 obtain ⟨b13,h13⟩ : ∃ b,decide (s = [37]) = b := ⟨_,rfl⟩
 have e13 : ((qah s).toList == [37]) = b13 := by rw [qan,← h13,Bool.eq_iff_iff]; simp
 have HV : Hid (powS s = if b0 = true then 1 else if b1 = true then 2 else if b2 = true then 4 else if b3 = true then 4 else if b4 = true then 4 else if b5 = true then 4 else if b6 = true then 4 else if b7 = true then 4 else if b8 = true then 5 else if b9 = true then 5 else if b10 = true then 5 else if b11 = true then 6 else if b12 = true then 6 else if b13 = true then 6 else (0 : Nat)) := hid (by
  rw [← h0,← h1,← h2,← h3,← h4,← h5,← h6,← h7,← h8,← h9,← h10,← h11,← h12,← h13]
  unfold powS
  simp only [qaw,List.mem_cons,List.not_mem_nil,or_false,decide_eq_true_eq,ite_or'])
 clear h0 h1 h2 h3 h4 h5 h6 h7 h8 h9 h10 h11 h12 h13
 go_enter Tryz.func26,Tryz.ntmps26
 cases b0 with
 | true =>
   go_wp2_with fail
   exact bodyPost_ret (results_tmp rfl _ _ _) rfl ⟨by rw [HV.out]; rfl,rfl⟩
 | false =>
   cases b1 with
   | true =>
     go_wp2_with fail
     exact bodyPost_ret (results_tmp rfl _ _ _) rfl ⟨by rw [HV.out]; rfl,rfl⟩
   | false =>
     cases b2 with
     | true =>
       go_wp2_with fail
       exact bodyPost_ret (results_tmp rfl _ _ _) rfl ⟨by rw [HV.out]; rfl,rfl⟩
     | false =>
       cases b3 with
       | true =>
         go_wp2_with fail
         exact bodyPost_ret (results_tmp rfl _ _ _) rfl ⟨by rw [HV.out]; rfl,rfl⟩
       | false =>
         cases b4 with
         | true =>
           go_wp2_with fail
           exact bodyPost_ret (results_tmp rfl _ _ _) rfl ⟨by rw [HV.out]; rfl,rfl⟩
         | false =>
           cases b5 with
           | true =>
             go_wp2_with fail
             exact bodyPost_ret (results_tmp rfl _ _ _) rfl ⟨by rw [HV.out]; rfl,rfl⟩
           | false =>
             cases b6 with
             | true =>
               go_wp2_with fail
               exact bodyPost_ret (results_tmp rfl _ _ _) rfl ⟨by rw [HV.out]; rfl,rfl⟩
             | false =>
               cases b7 with
               | true =>
                 go_wp2_with fail
                 exact bodyPost_ret (results_tmp rfl _ _ _) rfl ⟨by rw [HV.out]; rfl,rfl⟩
               | false =>
                 cases b8 with
                 | true =>
                   go_wp2_with fail
                   exact bodyPost_ret (results_tmp rfl _ _ _) rfl ⟨by rw [HV.out]; rfl,rfl⟩
                 | false =>
                   cases b9 with
                   | true =>
                     go_wp2_with fail
                     exact bodyPost_ret (results_tmp rfl _ _ _) rfl ⟨by rw [HV.out]; rfl,rfl⟩
                   | false =>
                     cases b10 with
                     | true =>
                       go_wp2_with fail
                       exact bodyPost_ret (results_tmp rfl _ _ _) rfl ⟨by rw [HV.out]; rfl,rfl⟩
                     | false =>
                       cases b11 with
                       | true =>
                         go_wp2_with fail
                         exact bodyPost_ret (results_tmp rfl _ _ _) rfl ⟨by rw [HV.out]; rfl,rfl⟩
                       | false =>
                         cases b12 with
                         | true =>
                           go_wp2_with fail
                           exact bodyPost_ret (results_tmp rfl _ _ _) rfl ⟨by rw [HV.out]; rfl,rfl⟩
                         | false =>
                           cases b13 with
                           | true =>
                             go_wp2_with fail
                             exact bodyPost_ret (results_tmp rfl _ _ _) rfl ⟨by rw [HV.out]; rfl,rfl⟩
                           | false =>
                             go_wp2_with fail
                             exact bodyPost_ret (results_tmp rfl _ _ _) rfl ⟨by rw [HV.out]; rfl,rfl⟩
theorem word_any (s : List UInt8) (w : World) : Calls Tryz.prog 78 #[.string (qah s)] w fun e w' => e = .returned (.bool (decide (s ∈ qes))) ∧ w' = w := by
 obtain ⟨b0,h0⟩ : ∃ b,decide (s = [97,110,100]) = b := ⟨_,rfl⟩
 have e0 : ((qah s).toList == [97,110,100]) = b0 := by rw [qan,← h0,Bool.eq_iff_iff]; simp
 obtain ⟨b1,h1⟩ : ∃ b,decide (s = [111,114]) = b := ⟨_,rfl⟩
 have e1 : ((qah s).toList == [111,114]) = b1 := by rw [qan,← h1,Bool.eq_iff_iff]; simp
 obtain ⟨b2,h2⟩ : ∃ b,decide (s = [110,111,116]) = b := ⟨_,rfl⟩
 have e2 : ((qah s).toList == [110,111,116]) = b2 := by rw [qan,← h2,Bool.eq_iff_iff]; simp
 obtain ⟨b3,h3⟩ : ∃ b,decide (s = [116,114,117,101]) = b := ⟨_,rfl⟩
 have e3 : ((qah s).toList == [116,114,117,101]) = b3 := by rw [qan,← h3,Bool.eq_iff_iff]; simp
 obtain ⟨b4,h4⟩ : ∃ b,decide (s = [102,97,108,115,101]) = b := ⟨_,rfl⟩
 have e4 : ((qah s).toList == [102,97,108,115,101]) = b4 := by rw [qan,← h4,Bool.eq_iff_iff]; simp
 obtain ⟨b5,h5⟩ : ∃ b,decide (s = [97,115]) = b := ⟨_,rfl⟩
 have e5 : ((qah s).toList == [97,115]) = b5 := by rw [qan,← h5,Bool.eq_iff_iff]; simp
 have HV : Hid (decide (s ∈ qes) = (b0 || b1 || b2 || b3 || b4 || b5)) := hid (by
  rw [← h0,← h1,← h2,← h3,← h4,← h5]
  unfold qes
  rw [Bool.eq_iff_iff]
  simp [or_assoc])
 clear h0 h1 h2 h3 h4 h5
 go_enter Tryz.func78,Tryz.ntmps78
 cases b0 with
 | true =>
   go_wp2_with fail
   exact bodyPost_ret (results_tmp rfl _ _ _) rfl ⟨by rw [HV.out]; rfl,rfl⟩
 | false =>
   cases b1 with
   | true =>
     go_wp2_with fail
     exact bodyPost_ret (results_tmp rfl _ _ _) rfl ⟨by rw [HV.out]; rfl,rfl⟩
   | false =>
     cases b2 with
     | true =>
       go_wp2_with fail
       exact bodyPost_ret (results_tmp rfl _ _ _) rfl ⟨by rw [HV.out]; rfl,rfl⟩
     | false =>
       cases b3 with
       | true =>
         go_wp2_with fail
         exact bodyPost_ret (results_tmp rfl _ _ _) rfl ⟨by rw [HV.out]; rfl,rfl⟩
       | false =>
         cases b4 with
         | true =>
           go_wp2_with fail
           exact bodyPost_ret (results_tmp rfl _ _ _) rfl ⟨by rw [HV.out]; rfl,rfl⟩
         | false =>
           cases b5 with
           | true =>
             go_wp2_with fail
             exact bodyPost_ret (results_tmp rfl _ _ _) rfl ⟨by rw [HV.out]; rfl,rfl⟩
           | false =>
             go_wp2_with fail
             exact bodyPost_ret (results_tmp rfl _ _ _) rfl ⟨by rw [HV.out]; rfl,rfl⟩
end Go.Proofs.YtgajofkeidjbgaaGreatDoor
