/-
  PROVED HERE: a part of the proof of ExprEvals: Door, TabAll, ExprPlain.
-/
import Derived.Test.YtgajofkeidjbgaaGreatDoorGUnquote
import Derived.ChangeSame
import Derived.ChangeVars
import Derived.JoinedOf
import Derived.RowKit
import Derived.LaidLaws
import Derived.LaidHandle
import Derived.Stop.Joined
import Derived.Test.YtgajofkeidjbgaaGreatDoorGReadsPlain
namespace Go.Proofs.YtgajofkeidjbgaaGreatDoor
set_option linter.unusedSimpArgs false
set_option linter.unusedVariables false
open Go.ChangeShapes Go.WideShapes Go.RowKit
theorem etDoor : Tryz.prog.globalNamed "errors.errorType" = some 0 := by kernel_rfl
theorem rtDoor : (Tryz.prog.cutTypes.find? (·.1 == "internal/reflectlite.rtype")).map (·.2) = some 146 := by kernel_rfl
theorem oneDoor : ((List.range 286).filter fun t => Tryz.prog.rowNamed t [101,114,114,111,114]) = [23] := by kernel_rfl
theorem sizeDoor : Tryz.prog.types.size = 286 := by kernel_rfl
abbrev laidList {H : Type} : List (String × DataW H) := [("errors.errorType", Rows.laid_errors_errorType)]
theorem laid_of {W : World} (h : laidMetH Tryz.prog laidList W) : Laid W := by
 have h' : laidMet Tryz.prog [] W ∧ handlesMet Tryz.prog laidList W := h
 obtain ⟨name,u,ty,e1,e2,e3,e4,e5⟩ := h'.2 _ (List.mem_singleton.2 rfl)
 have en : name = [101,114,114,111,114] := (Option.some.inj e1).symm
 subst en
 obtain rfl := Option.some.inj (rtDoor.symm.trans e2)
 have hm : ty ∈ (List.range 286).filter fun t => Tryz.prog.rowNamed t [101,114,114,111,114] := List.mem_filter.2 ⟨List.mem_range.2 (by rw [← sizeDoor]; exact e3),e4⟩
 rw [oneDoor] at hm
 obtain rfl := List.mem_singleton.1 hm
 have hh : typeHandle Tryz.prog 23 = .pointer (some ⟨10,23,none⟩) := by kernel_rfl
 rw [hh] at e5
 have := World.var?_cell etDoor e5 0
 unfold Laid
 simpa using this
noncomputable def laidWorld (os : Os) : World :=
 let w0 := World.holding Tryz.prog os ⟨#[],#[],[]⟩
 { w0 with heap := w0.heap.modify 0 fun
   | .cells _ t frozen => .cells #[.iface 146 (.agg #[.pointer (some ⟨10,23,none⟩)])] t frozen
   | o => o }
noncomputable def allWorld (os : Os) : World := (laidWorld os).layVars Tryz.prog errList
end Go.Proofs.YtgajofkeidjbgaaGreatDoor
namespace Go.Proofs.YtgajofkeidjbgaaGreatDoor
set_option linter.unusedSimpArgs false
set_option linter.unusedVariables false
open Go Go.RowKit
structure Tok where
 k : UInt8
 t : List UInt8
 p : Nat
inductive Ex where
 | lit (v : Val)
 | name (s : List UInt8) (p : Nat)
 | un (neg : Bool) (p : Nat) (x : Ex)
 | bin (o : List UInt8) (p : Nat) (x y : Ex)
 | call (f : List UInt8) (p : Nat) (l : List Ex)
abbrev Fault := Int × Nat
abbrev PR (α : Type) := Option (Except Fault α)
def PR.err {α : Type} (c : Int) (p : Nat) : PR α := some (.error (c,p))
def PR.ok {α : Type} (a : α) : PR α := some (.ok a)
def PR.thn {α β : Type} (x : PR α) (f : α → PR β) : PR β := match x with
 | none => none
 | some (.error e) => some (.error e)
 | some (.ok a) => f a
def hdT (l : List Tok) : Tok := l.headD ⟨0,[],0⟩
def isW (t : Tok) (s : List UInt8) : Bool := t.t == s && (t.k == 111 || t.k == 110)
abbrev notW : List UInt8 := [110,111,116]
abbrev qbf : List UInt8 := [45]
abbrev qbq : List UInt8 := [40]
abbrev qbl : List UInt8 := [41]
abbrev qdz : List UInt8 := [44]
abbrev qed : List UInt8 := [116,114,117,101]
abbrev qdd : List UInt8 := [102,97,108,115,101]
def qes : List (List UInt8) := [[97,110,100],[111,114],notW,qed,qdd,[97,115]]
def qaw : Nat → List (List UInt8)
 | 0 => [[111,114]]
 | 1 => [[97,110,100]]
 | 2 => [[61],[60,62],[60],[60,61],[62],[62,61]]
 | 3 => [[43],[45],[43,43]]
 | 4 => [[42],[47],[37]]
 | _ => []
def powS (s : List UInt8) : Nat :=
 if s ∈ qaw 0 then 1 else if s ∈ qaw 1 then 2 else if s ∈ qaw 2 then 4 else if s ∈ qaw 3 then 5 else if s ∈ qaw 4 then 6 else 0
def powT (t : Tok) : Nat := if t.k = 111 ∨ t.k = 110 then powS t.t else 0
def powL : Nat → Nat
 | 0 => 1
 | 1 => 2
 | 2 => 4
 | 3 => 5
 | 4 => 6
 | _ => 9
def qdf : Nat → Nat
 | 0 => 0
 | 1 => 2
 | 2 => 3
 | 3 => 5
 | 4 => 6
 | _ => 7
inductive Job where
 | bin (L : Nat)
 | loop (L : Nat) (x : Ex)
 | climb (q : Nat)
 | cloop (q most : Nat) (fresh : Bool) (x : Ex)
 | un
 | args (f : List UInt8) (p : Nat) (acc : List Ex)
def topJ : Bool → Job
 | true => .bin 0
 | false => .climb 0
def Halt (q most : Nat) (fresh : Bool) (p : Nat) : Prop := p = 0 ∨ p < q ∨ most < p ∨ (fresh = true ∧ 2 < p)
instance (q most : Nat) (fresh : Bool) (p : Nat) : Decidable (Halt q most fresh p) := by unfold Halt; infer_instance
def qai (R : Bool) : Nat → Job → Nat → List Tok → PR (Ex × List Tok)
 | 0,_,_,_ => none
 | n + 1,.bin L,d,l =>
   if 5 ≤ L then qai R n .un d l
   else if L = 2 ∧ isW (hdT l) notW = true then
    if 12 < d + 1 then .err 4 (hdT l).p else (qai R n (.bin 2) (d + 1) l.tail).thn fun x => .ok (.un false (hdT l).p x.1,x.2)
   else (qai R n (.bin (L + 1)) d l).thn fun x => qai R n (.loop L x.1) d x.2
 | n + 1,.loop L x,d,l =>
   if (qaw L).any (isW (hdT l)) = true then
    (qai R n (.bin (L + 1)) d l.tail).thn fun y => if L = 2 then .ok (.bin (hdT l).t (hdT l).p x y.1,y.2) else qai R n (.loop L (.bin (hdT l).t (hdT l).p x y.1)) d y.2
   else .ok (x,l)
 | n + 1,.climb q,d,l =>
   if isW (hdT l) notW = true ∧ q ≤ 3 then
    if 12 < d + 1 then .err 4 (hdT l).p else (qai R n (.climb 3) (d + 1) l.tail).thn fun x => qai R n (.cloop q 9 true (.un false (hdT l).p x.1)) d x.2
   else (qai R n .un d l).thn fun x => qai R n (.cloop q 9 false x.1) d x.2
 | n + 1,.cloop q most fresh x,d,l =>
   if Halt q most fresh (powT (hdT l)) then .ok (x,l)
   else (qai R n (.climb (powT (hdT l) + 1)) d l.tail).thn fun y => qai R n (.cloop q (if powT (hdT l) = 4 then 3 else powT (hdT l)) false (.bin (hdT l).t (hdT l).p x y.1)) d y.2
 | n + 1,.un,d,l =>
   if isW (hdT l) qbf = true then
    if 12 < d + 1 then .err 4 (hdT l).p else (qai R n .un (d + 1) l.tail).thn fun x => .ok (.un true (hdT l).p x.1,x.2)
   else if isW (hdT l) qbq = true then
    if 12 < d + 1 then .err 4 (hdT l).p else (qai R n (topJ R) (d + 1) l.tail).thn fun x => if isW (hdT x.2) qbl = true then .ok (x.1,x.2.tail) else .err 1 (hdT x.2).p
   else if (hdT l).k = 48 ∨ (hdT l).k = 39 then
    match qci (hdT l).t with
    | some v => .ok (.lit v,l.tail)
    | none => .err 1 (hdT l).p
   else if (hdT l).t = qed ∨ (hdT l).t = qdd then .ok (.lit ⟨2,if (hdT l).t = qed then 1 else 0,⟨#[]⟩⟩,l.tail)
   else if (hdT l).k = 110 ∧ (hdT l).t ∉ qes then
    if 12 < (hdT l).t.length then .err 4 (hdT l).p
    else if isW (hdT l.tail) qbq = true then
     if 12 < d + 1 then .err 4 (hdT l.tail).p else qai R n (.args (hdT l).t (hdT l).p []) (d + 1) l.tail.tail
    else .ok (.name (hdT l).t (hdT l).p,l.tail)
   else .err 1 (hdT l).p
 | n + 1,.args f p acc,d,l =>
   if isW (hdT l) qbl = true then .ok (.call f p acc,l.tail)
   else if acc ≠ [] ∧ ¬ isW (hdT l) qdz = true then .err 1 (hdT l).p
   else (qai R n (topJ R) d (if acc = [] then l else l.tail)).thn fun x => qai R n (.args f p (acc ++ [x.1])) d x.2
def LeP {α : Type} (x y : PR α) : Prop := ∀ r,x = some r → y = some r
theorem LeP.refl {α : Type} (x : PR α) : LeP x x := fun _ h => h
theorem LeP.thn {α β : Type} {x y : PR α} {f g : α → PR β} (h : LeP x y) (hf : ∀ a,LeP (f a) (g a)) : LeP (x.thn f) (y.thn g) := by
 intro r hr
 unfold PR.thn at hr ⊢
 cases x with
 | none => cases hr
 | some v =>
   rw [h _ rfl]
   cases v with
   | error e => exact hr
   | ok a => exact hf a r hr
theorem LeP.ite {α : Type} {c : Prop} [Decidable c] {x y u v : PR α} (h : LeP x y) (h' : LeP u v) : LeP (if c then x else u) (if c then y else v) := by
 split
 ·exact h
 ·exact h'
theorem parseX_succ (R : Bool) : ∀ (n : Nat) (j : Job) (d : Nat) (l : List Tok),LeP (qai R n j d l) (qai R (n + 1) j d l)
 | 0,_,_,_ => fun _ h => by unfold qai at h; cases h
 | n + 1,j,d,l => by
   have ih := parseX_succ R n
   cases j with
   | bin L =>
     unfold qai
     exact .ite (ih _ _ _) (.ite (.ite (.refl _) (.thn (ih _ _ _) fun _ => .refl _)) (.thn (ih _ _ _) fun _ => ih _ _ _))
   | loop L x =>
     unfold qai
     exact .ite (.thn (ih _ _ _) fun _ => .ite (.refl _) (ih _ _ _)) (.refl _)
   | climb q =>
     unfold qai
     exact .ite (.ite (.refl _) (.thn (ih _ _ _) fun _ => ih _ _ _)) (.thn (ih _ _ _) fun _ => ih _ _ _)
   | cloop q m f x =>
     unfold qai
     exact .ite (.refl _) (.thn (ih _ _ _) fun _ => ih _ _ _)
   | un =>
     unfold qai
     exact .ite (.ite (.refl _) (.thn (ih _ _ _) fun _ => .refl _)) (.ite (.ite (.refl _) (.thn (ih _ _ _) fun _ => .refl _)) (.ite (.refl _) (.ite (.refl _) (.ite (.ite (.refl _) (.ite (.ite (.refl _) (ih _ _ _)) (.refl _))) (.refl _)))))
   | args f p acc =>
     unfold qai
     exact .ite (.refl _) (.ite (.refl _) (.thn (ih _ _ _) fun _ => ih _ _ _))
theorem parseX_more {R : Bool} {n m : Nat} (h : n ≤ m) (j : Job) (d : Nat) (l : List Tok) : LeP (qai R n j d l) (qai R m j d l) := by
 induction h with
 | refl => exact .refl _
 | step _ ih => exact fun r hr => parseX_succ R _ j d l r (ih r hr)
abbrev Res := Except Fault (Ex × List Tok)
def Par (R : Bool) (j : Job) (d : Nat) (l : List Tok) (r : Res) : Prop := ∃ n,qai R n j d l = some r
theorem Par.one {R : Bool} {j : Job} {d : Nat} {l : List Tok} {r s : Res} (h : Par R j d l r) (h' : Par R j d l s) : r = s := by
 obtain ⟨n,h⟩ := h
 obtain ⟨m,h'⟩ := h'
 have h1 := parseX_more (Nat.le_max_left n m) j d l r h
 have h2 := parseX_more (Nat.le_max_right n m) j d l s h'
 rw [h1] at h2
 exact Option.some.inj h2
theorem Par.both {R : Bool} {j j' : Job} {d d' : Nat} {l l' : List Tok} {r r' : Res} (h : Par R j d l r) (h' : Par R j' d' l' r') : ∃ n,qai R n j d l = some r ∧ qai R n j' d' l' = some r' := by
 obtain ⟨n,h⟩ := h
 obtain ⟨m,h'⟩ := h'
 exact ⟨max n m,parseX_more (Nat.le_max_left n m) j d l r h,parseX_more (Nat.le_max_right n m) j' d' l' r' h'⟩
theorem Par.halt {q m : Nat} {f : Bool} {x : Ex} {d : Nat} {l : List Tok} (h : Halt q m f (powT (hdT l))) : Par false (.cloop q m f x) d l (.ok (x,l)) := ⟨1,by unfold qai; rw [if_pos h]; rfl⟩
theorem Par.go {q m : Nat} {f : Bool} {x y : Ex} {d : Nat} {l r : List Tok} {s : Res} (h : ¬ Halt q m f (powT (hdT l))) (h1 : Par false (.climb (powT (hdT l) + 1)) d l.tail (.ok (y,r)))
  (h2 : Par false (.cloop q (if powT (hdT l) = 4 then 3 else powT (hdT l)) false (.bin (hdT l).t (hdT l).p x y)) d r s) : Par false (.cloop q m f x) d l s := by
 obtain ⟨n,e1,e2⟩ := h1.both h2
 exact ⟨n + 1,by unfold qai; rw [if_neg h,e1]; exact e2⟩
theorem Par.bad {q m : Nat} {f : Bool} {x : Ex} {d : Nat} {l : List Tok} {e : Fault} (h : ¬ Halt q m f (powT (hdT l))) (h1 : Par false (.climb (powT (hdT l) + 1)) d l.tail (.error e)) : Par false (.cloop q m f x) d l (.error e) := by
 obtain ⟨n,e1⟩ := h1
 exact ⟨n + 1,by unfold qai; rw [if_neg h,e1]; rfl⟩
def Splits (q q' pl : Nat) (J : Job) (d : Nat) (l : List Tok) : Res → Prop
 | .error e => Par false J d l (.error e)
 | .ok (x,r) => ∃ m f,Halt q' m f (powT (hdT r)) ∧ pl ≤ m ∧ ¬ (f = true ∧ 2 < pl) ∧ ∀ s,Par false (.cloop q m f x) d r s → Par false J d l s
theorem cloop_splits {q q' pl : Nat} (hq : q ≤ q') (hpl : pl < q') : ∀ (n m : Nat) (f : Bool) (x : Ex) (d : Nat) (l : List Tok) (s : Res),pl ≤ m → ¬ (f = true ∧ 2 < pl) → qai false n (.cloop q' m f x) d l = some s → Splits q q' pl (.cloop q m f x) d l s
 | 0,_,_,_,_,_,_,_,_,h => by unfold qai at h; cases h
 | n + 1,m,f,x,d,l,s,h1,h2,h => by
   unfold qai at h
   by_cases hh : Halt q' m f (powT (hdT l))
   ·rw [if_pos hh] at h
    obtain rfl := Option.some.inj h
    exact ⟨m,f,hh,h1,h2,fun s hs => hs⟩
   ·rw [if_neg hh] at h
    have hn : ¬ Halt q m f (powT (hdT l)) := by
     unfold Halt at hh ⊢
     simp only [not_or] at hh ⊢
     exact ⟨hh.1,by omega,hh.2.2.1,hh.2.2.2⟩
    have hp : q' ≤ powT (hdT l) := by unfold Halt at hh; omega
    cases hc : qai false n (.climb (powT (hdT l) + 1)) d l.tail with
    | none => rw [hc] at h; cases h
    | some v =>
      rw [hc] at h
      cases v with
      | error e =>
        obtain rfl := Option.some.inj h
        exact Par.bad hn ⟨n,hc⟩
      | ok y =>
        obtain ⟨y,r⟩ := y
        have ih := cloop_splits hq hpl n (if powT (hdT l) = 4 then 3 else powT (hdT l)) false (.bin (hdT l).t (hdT l).p x y) d r s (by split <;> omega) (by simp) h
        cases s with
        | error e => exact Par.go hn ⟨n,hc⟩ ih
        | ok z =>
          obtain ⟨m',f',i1,i2,i3,i4⟩ := ih
          exact ⟨m',f',i1,i2,i3,fun s hs => Par.go hn ⟨n,hc⟩ (i4 s hs)⟩
theorem climb_splits {q q' pl : Nat} (hq : q ≤ q') (hpl : pl < q') (hp9 : pl ≤ 9) {n d : Nat} {l : List Tok} {s : Res} (hn : isW (hdT l) notW = true → (q' ≤ 3 ∨ 3 < q)) (h : qai false n (.climb q') d l = some s) : Splits q q' pl (.climb q) d l s := by
 cases n with
 | zero => unfold qai at h; cases h
 | succ n =>
   unfold qai at h
   by_cases hw : isW (hdT l) notW = true ∧ q' ≤ 3
   ·rw [if_pos hw] at h
    by_cases hd : 12 < d + 1
    ·rw [if_pos hd] at h
     obtain rfl := Option.some.inj h
     exact ⟨1,by unfold qai; rw [if_pos ⟨hw.1,by omega⟩,if_pos hd]; rfl⟩
    ·rw [if_neg hd] at h
     cases hc : qai false n (.climb 3) (d + 1) l.tail with
     | none => rw [hc] at h; cases h
     | some v =>
       rw [hc] at h
       cases v with
       | error e =>
         obtain rfl := Option.some.inj h
         exact ⟨n + 1,by unfold qai; rw [if_pos ⟨hw.1,by omega⟩,if_neg hd,hc]; rfl⟩
       | ok y =>
         have hsp := cloop_splits hq hpl n 9 true (.un false (hdT l).p y.1) d y.2 s hp9 (fun hx => by have := hx.2; omega) h
         have up : ∀ s,Par false (.cloop q 9 true (.un false (hdT l).p y.1)) d y.2 s → Par false (.climb q) d l s := by
          intro s hs
          obtain ⟨k,e1,e2⟩ := Par.both ⟨n,hc⟩ hs
          exact ⟨k + 1,by unfold qai; rw [if_pos ⟨hw.1,by omega⟩,if_neg hd,e1]; exact e2⟩
         cases s with
         | error e => exact up _ hsp
         | ok z =>
           obtain ⟨m',f',i1,i2,i3,i4⟩ := hsp
           exact ⟨m',f',i1,i2,i3,fun s hs => up _ (i4 s hs)⟩
   ·rw [if_neg hw] at h
    have hw' : ¬ (isW (hdT l) notW = true ∧ q ≤ 3) := fun hx => by
     rcases hn hx.1 with h' | h'
     ·exact hw ⟨hx.1,h'⟩
     ·omega
    cases hc : qai false n .un d l with
    | none => rw [hc] at h; cases h
    | some v =>
      rw [hc] at h
      cases v with
      | error e =>
        obtain rfl := Option.some.inj h
        exact ⟨n + 1,by unfold qai; rw [if_neg hw',hc]; rfl⟩
      | ok y =>
        have hsp := cloop_splits hq hpl n 9 false y.1 d y.2 s hp9 (by simp) h
        have up : ∀ s,Par false (.cloop q 9 false y.1) d y.2 s → Par false (.climb q) d l s := by
         intro s hs
         obtain ⟨k,e1,e2⟩ := Par.both ⟨n,hc⟩ hs
         exact ⟨k + 1,by unfold qai; rw [if_neg hw',e1]; exact e2⟩
        cases s with
        | error e => exact up _ hsp
        | ok z =>
          obtain ⟨m',f',i1,i2,i3,i4⟩ := hsp
          exact ⟨m',f',i1,i2,i3,fun s hs => up _ (i4 s hs)⟩
theorem powS_vals (s : List UInt8) : powS s = 0 ∨ powS s = 1 ∨ powS s = 2 ∨ powS s = 4 ∨ powS s = 5 ∨ powS s = 6 := by
 unfold powS
 repeat' split
 all_goals simp
theorem powT_vals (t : Tok) : powT t = 0 ∨ powT t = 1 ∨ powT t = 2 ∨ powT t = 4 ∨ powT t = 5 ∨ powT t = 6 := by
 unfold powT
 split
 ·exact powS_vals _
 ·exact .inl rfl
theorem any_isW (t : Tok) (l : List (List UInt8)) : l.any (isW t) = (decide (t.t ∈ l) && (t.k == 111 || t.k == 110)) := by
 induction l with
 | nil => simp
 | cons a l ih =>
   rw [List.any_cons,ih]
   unfold isW
   by_cases h : t.t = a
   ·simp [h]
   ·have : (t.t == a) = false := by simp [h]
    rw [this]; simp [h]
theorem lvl_pow (t : Tok) {L : Nat} (hL : L < 5) : (qaw L).any (isW t) = true ↔ powT t = powL L := by
 rw [any_isW]
 unfold powT
 have hk : (t.k == 111 || t.k == 110) = decide (t.k = 111 ∨ t.k = 110) := by
  by_cases h1 : t.k = 111 <;> by_cases h2 : t.k = 110 <;> simp [h1,h2]
 rw [hk]
 by_cases h : t.k = 111 ∨ t.k = 110
 ·rw [if_pos h]
  simp only [h,decide_true,Bool.and_true,decide_eq_true_eq]
  generalize t.t = s
  unfold powS
  have hd : ∀ i j,i < 5 → j < 5 → i ≠ j → s ∈ qaw i → s ∉ qaw j := by
   intro i j hi hj hij h1 h2
   have : ∀ i j : Fin 5,i ≠ j → ∀ x ∈ qaw i,x ∉ qaw j := by decide
   exact this ⟨i,hi⟩ ⟨j,hj⟩ (fun e => hij (congrArg Fin.val e)) s h1 h2
  constructor
  ·intro hm
   match L,hL with
   | 0,_ => rw [if_pos hm]; rfl
   | 1,_ => rw [if_neg (hd 1 0 (by omega) (by omega) (by omega) hm),if_pos hm]; rfl
   | 2,_ => rw [if_neg (hd 2 0 (by omega) (by omega) (by omega) hm),if_neg (hd 2 1 (by omega) (by omega) (by omega) hm),if_pos hm]; rfl
   | 3,_ => rw [if_neg (hd 3 0 (by omega) (by omega) (by omega) hm),if_neg (hd 3 1 (by omega) (by omega) (by omega) hm),if_neg (hd 3 2 (by omega) (by omega) (by omega) hm),if_pos hm]; rfl
   | 4,_ => rw [if_neg (hd 4 0 (by omega) (by omega) (by omega) hm),if_neg (hd 4 1 (by omega) (by omega) (by omega) hm),if_neg (hd 4 2 (by omega) (by omega) (by omega) hm),if_neg (hd 4 3 (by omega) (by omega) (by omega) hm),if_pos hm]; rfl
  ·intro hp
   refine Decidable.byContradiction fun hc => ?_
   revert hp
   match L,hL,hc with
   | 0,_,hc => rw [if_neg hc]; simp only [powL]; (repeat' split) <;> (intro h; omega)
   | 1,_,hc => rw [if_neg hc]; simp only [powL]; (repeat' split) <;> (intro h; omega)
   | 2,_,hc => rw [if_neg hc]; simp only [powL]; (repeat' split) <;> (intro h; omega)
   | 3,_,hc => rw [if_neg hc]; simp only [powL]; (repeat' split) <;> (intro h; omega)
   | 4,_,hc => rw [if_neg hc]; simp only [powL]; (repeat' split) <;> (intro h; omega)
 ·rw [if_neg h]
  simp only [h,decide_false,Bool.and_false]
  have : powL L ≠ 0 := by
   match L,hL with
   | 0,_ => decide
   | 1,_ => decide
   | 2,_ => decide
   | 3,_ => decide
   | 4,_ => decide
  simp; omega
theorem least_succ {L : Nat} (hL : L < 5) : qdf (L + 1) = powL L + 1 := by
 match L,hL with
 | 0,_ => rfl
 | 1,_ => rfl
 | 2,_ => rfl
 | 3,_ => rfl
 | 4,_ => rfl
theorem least_le {L : Nat} (hL : L < 5) : qdf L ≤ powL L ∧ (qdf L = powL L ∨ qdf L + 1 = powL L) ∧ powL L ≤ 6 ∧ 0 < powL L ∧ (qdf L + 1 = powL L → qdf L = 0 ∨ qdf L = 3) := by
 match L,hL with
 | 0,_ => decide
 | 1,_ => decide
 | 2,_ => decide
 | 3,_ => decide
 | 4,_ => decide
theorem par_same : ∀ n : Nat,
  (∀ d l s,qai true n .un d l = some s → Par false .un d l s) ∧
  (∀ f p acc d l s,qai true n (.args f p acc) d l = some s → Par false (.args f p acc) d l s) ∧
  (∀ L d l s,L ≤ 5 → qai true n (.bin L) d l = some s → Par false (.climb (qdf L)) d l s) ∧
  (∀ L x d l s m f,L < 5 → (powL L < powT (hdT l) → m < powT (hdT l) ∨ (f = true ∧ 2 < powT (hdT l))) → powL L ≤ m → ¬ (f = true ∧ 2 < powL L) → qai true n (.loop L x) d l = some s → Par false (.cloop (qdf L) m f x) d l s)
 | 0 => by
   refine ⟨?_,?_,?_,?_⟩
   ·intro d l s h; unfold qai at h; cases h
   ·intro f p acc d l s h; unfold qai at h; cases h
   ·intro L d l s _ h; unfold qai at h; cases h
   ·intro L x d l s m f _ _ _ _ h; unfold qai at h; cases h
 | n + 1 => by
   obtain ⟨iu,ia,ib,il⟩ := par_same n
   refine ⟨?_,?_,?_,?_⟩
   ·intro d l s h
    unfold qai at h
    split at h
    ·rename_i h1
     split at h
     ·rename_i h2; exact ⟨1,by unfold qai; rw [if_pos h1,if_pos h2]; exact h⟩
     ·rename_i h2
      cases hc : qai true n .un (d + 1) l.tail with
      | none => rw [hc] at h; cases h
      | some v =>
        rw [hc] at h
        obtain ⟨k,hk⟩ := iu _ _ _ hc
        exact ⟨k + 1,by unfold qai; rw [if_pos h1,if_neg h2,hk]; exact h⟩
    ·rename_i h1
     split at h
     ·rename_i h2
      split at h
      ·rename_i h3; exact ⟨1,by unfold qai; rw [if_neg h1,if_pos h2,if_pos h3]; exact h⟩
      ·rename_i h3
       cases hc : qai true n (topJ true) (d + 1) l.tail with
       | none => rw [hc] at h; cases h
       | some v =>
         rw [hc] at h
         obtain ⟨k,hk⟩ := ib 0 _ _ _ (by omega) hc
         exact ⟨k + 1,by unfold qai; rw [if_neg h1,if_pos h2,if_neg h3,show topJ false = .climb (qdf 0) from rfl,hk]; exact h⟩
     ·rename_i h2
      split at h
      ·rename_i h3
       exact ⟨1,by unfold qai; rw [if_neg h1,if_neg h2,if_pos h3]; exact h⟩
      ·rename_i h3
       split at h
       ·rename_i h4; exact ⟨1,by unfold qai; rw [if_neg h1,if_neg h2,if_neg h3,if_pos h4]; exact h⟩
       ·rename_i h4
        split at h
        ·rename_i h5
         split at h
         ·rename_i h6; exact ⟨1,by unfold qai; rw [if_neg h1,if_neg h2,if_neg h3,if_neg h4,if_pos h5,if_pos h6]; exact h⟩
         ·rename_i h6
          split at h
          ·rename_i h7
           split at h
           ·rename_i h8; exact ⟨1,by unfold qai; rw [if_neg h1,if_neg h2,if_neg h3,if_neg h4,if_pos h5,if_neg h6,if_pos h7,if_pos h8]; exact h⟩
           ·rename_i h8
            obtain ⟨k,hk⟩ := ia _ _ _ _ _ _ h
            exact ⟨k + 1,by unfold qai; rw [if_neg h1,if_neg h2,if_neg h3,if_neg h4,if_pos h5,if_neg h6,if_pos h7,if_neg h8]; exact hk⟩
          ·rename_i h7; exact ⟨1,by unfold qai; rw [if_neg h1,if_neg h2,if_neg h3,if_neg h4,if_pos h5,if_neg h6,if_neg h7]; exact h⟩
        ·rename_i h5; exact ⟨1,by unfold qai; rw [if_neg h1,if_neg h2,if_neg h3,if_neg h4,if_neg h5]; exact h⟩
   ·intro f p acc d l s h
    unfold qai at h
    split at h
    ·rename_i h1; exact ⟨1,by unfold qai; rw [if_pos h1]; exact h⟩
    ·rename_i h1
     split at h
     ·rename_i h2; exact ⟨1,by unfold qai; rw [if_neg h1,if_pos h2]; exact h⟩
     ·rename_i h2
      cases hc : qai true n (topJ true) d (if acc = [] then l else l.tail) with
      | none => rw [hc] at h; cases h
      | some v =>
        rw [hc] at h
        have hk := ib 0 _ _ _ (by omega) hc
        cases v with
        | error e =>
          obtain ⟨k,hk⟩ := hk
          exact ⟨k + 1,by unfold qai; rw [if_neg h1,if_neg h2,show topJ false = .climb (qdf 0) from rfl,hk]; exact h⟩
        | ok y =>
          obtain ⟨k,e1,e2⟩ := hk.both (ia _ _ _ _ _ _ h)
          exact ⟨k + 1,by unfold qai; rw [if_neg h1,if_neg h2,show topJ false = .climb (qdf 0) from rfl,e1]; exact e2⟩
   ·intro L d l s hL h
    unfold qai at h
    split at h
    ·rename_i h5
     obtain rfl : L = 5 := by omega
     have hw : ¬ (isW (hdT l) notW = true ∧ qdf 5 ≤ 3) := fun hx => absurd hx.2 (by decide)
     have hk := iu _ _ _ h
     cases s with
     | error e =>
       obtain ⟨k,hk⟩ := hk
       exact ⟨k + 1,by unfold qai; rw [if_neg hw,hk]; rfl⟩
     | ok y =>
       have hh : Halt (qdf 5) 9 false (powT (hdT y.2)) := by
        have h1 := powT_vals (hdT y.2)
        unfold Halt
        have : qdf 5 = 7 := rfl
        omega
       obtain ⟨k,e1,e2⟩ := hk.both (Par.halt (x := y.1) (d := d) hh)
       exact ⟨k + 1,by unfold qai; rw [if_neg hw,e1]; exact e2⟩
    ·rename_i h5
     split at h
     ·rename_i h2
      obtain ⟨rfl,hn⟩ := h2
      have hw : isW (hdT l) notW = true ∧ qdf 2 ≤ 3 := ⟨hn,by decide⟩
      split at h
      ·rename_i hd; exact ⟨1,by unfold qai; rw [if_pos hw,if_pos hd]; exact h⟩
      ·rename_i hd
       cases hc : qai true n (.bin 2) (d + 1) l.tail with
       | none => rw [hc] at h; cases h
       | some v =>
         rw [hc] at h
         have hk := ib 2 _ _ _ (by omega) hc
         cases v with
         | error e =>
           obtain ⟨k,hk⟩ := hk
           exact ⟨k + 1,by unfold qai; rw [if_pos hw,if_neg hd,show (3 : Nat) = qdf 2 from rfl,hk]; exact h⟩
         | ok y =>
           have hh : Halt (qdf 2) 9 true (powT (hdT y.2)) := by
            have h1 := powT_vals (hdT y.2)
            unfold Halt
            have : qdf 2 = 3 := rfl
            simp only [true_and]
            omega
           obtain ⟨k,e1,e2⟩ := hk.both (Par.halt (x := .un false (hdT l).p y.1) (d := d) hh)
           refine ⟨k + 1,?_⟩
           unfold qai
           rw [if_pos hw,if_neg hd,show Job.climb 3 = .climb (qdf 2) from rfl,e1]
           exact e2.trans h
     ·rename_i h2
      have hL5 : L < 5 := by omega
      have hls := least_succ hL5
      have hll := least_le hL5
      cases hc : qai true n (.bin (L + 1)) d l with
      | none => rw [hc] at h; cases h
      | some v =>
        rw [hc] at h
        obtain ⟨k,hk⟩ := ib (L + 1) _ _ _ (by omega) hc
        have hsp := climb_splits (q := qdf L) (q' := qdf (L + 1)) (pl := powL L) (by omega) (by omega) (by omega) (fun hx => by
         match L,hL5,h2 with
         | 0,_,_ => left; decide
         | 1,_,_ => left; decide
         | 2,_,h2 => exact absurd ⟨rfl,hx⟩ h2
         | 3,_,_ => right; decide
         | 4,_,_ => right; decide) hk
        cases v with
        | error e =>
          obtain rfl := Option.some.inj h
          exact hsp
        | ok y =>
          obtain ⟨m,f,i1,i2,i3,i4⟩ := hsp
          refine i4 s (il L y.1 d y.2 s m f hL5 (fun hx => ?_) i2 i3 h)
          unfold Halt at i1
          rcases i1 with i | i | i | i
          ·omega
          ·omega
          ·exact .inl i
          ·exact .inr i
   ·intro L x d l s m f hL H1 H2 H3 h
    have hls := least_succ hL
    have hll := least_le hL
    unfold qai at h
    split at h
    ·rename_i h1
     have hp := (lvl_pow (hdT l) hL).1 h1
     have hn : ¬ Halt (qdf L) m f (powT (hdT l)) := by
      unfold Halt
      rw [hp]
      simp only [not_or]
      exact ⟨by omega,by omega,by omega,H3⟩
     cases hc : qai true n (.bin (L + 1)) d l.tail with
     | none => rw [hc] at h; cases h
     | some v =>
       rw [hc] at h
       have hk := ib (L + 1) _ _ _ (by omega) hc
       rw [hls,← hp] at hk
       cases v with
       | error e =>
         obtain rfl := Option.some.inj h
         exact Par.bad hn hk
       | ok y =>
         refine Par.go hn hk ?_
         change (if L = 2 then PR.ok (Ex.bin (hdT l).t (hdT l).p x y.1,y.2) else qai true n (.loop L (.bin (hdT l).t (hdT l).p x y.1)) d y.2) = some s at h
         by_cases h2 : L = 2
         ·rw [if_pos h2] at h
          obtain rfl := Option.some.inj h
          subst h2
          refine Par.halt ?_
          have h1 := powT_vals (hdT y.2)
          rw [hp]
          unfold Halt
          have e1 : qdf 2 = 3 := rfl
          have e2 : powL 2 = 4 := rfl
          rw [e2,if_pos rfl]
          omega
         ·rw [if_neg h2] at h
          have h4 : powT (hdT l) ≠ 4 := by
           rw [hp]
           match L,hL,h2 with
           | 0,_,_ => decide
           | 1,_,_ => decide
           | 2,_,h2 => exact absurd rfl h2
           | 3,_,_ => decide
           | 4,_,_ => decide
          rw [if_neg h4]
          exact il L _ d y.2 s (powT (hdT l)) false hL (fun hx => .inl (by omega)) (by omega) (by simp) h
    ·rename_i h1
     obtain rfl := Option.some.inj h
     refine Par.halt ?_
     have hp : powT (hdT l) ≠ powL L := fun hx => h1 ((lvl_pow (hdT l) hL).2 hx)
     have hv := powT_vals (hdT l)
     unfold Halt
     by_cases hx : powL L < powT (hdT l)
     ·rcases H1 hx with h' | h'
      ·omega
      ·right; right; right; exact h'
     ·rcases hll.2.1 with h' | h'
      ·omega
      ·rcases hll.2.2.2.2 h' with h'' | h'' <;> omega
theorem par_agree {d : Nat} {l : List Tok} {r s : Res} (h : Par true (.bin 0) d l r) (h' : Par false (.climb 0) d l s) : r = s := by
 obtain ⟨n,h⟩ := h
 exact ((par_same n).2.2.1 0 d l r (by omega) h).one h'
end Go.Proofs.YtgajofkeidjbgaaGreatDoor
