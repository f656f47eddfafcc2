/-
  PROVED HERE: a part of the proof of ExprEvals: App, ShowLaws, U8, LexS, OrdPlain, Ret, Frame, Quote.
-/
import Derived.Test.YtgajofkeidjbgaaGreatDoorGData
import Derived.OwnWalk
import Derived.Laws.IdiomStrings
import Derived.Lib.ItoaNum
import Derived.Lib.AppendIntMem
import Derived.Test.YtgajofkeidjbgaaGreatDoorRows
import Derived.Test.YtgajofkeidjbgaaGreatDoorGLex
import Derived.Deep.QuietTactic
import Derived.BigQuiet
import Derived.WalkLawsBesides
import Derived.Control
import Derived.Deep.CutRange
import Derived.WalkKit
import Derived.Test.YtgajofkeidjbgaaGreatDoorShort
namespace Go.Proofs.YtgajofkeidjbgaaGreatDoor
set_option linter.unusedSimpArgs false
set_option linter.unusedVariables false
open Go Go.RowKit
structure ElemInfo (P : Program) (e : TypeId) (size bytes : Nat) : Prop where
 ex : ∃ i z,P.info? e = some i ∧ i.zero = some z ∧ i.size = size ∧ i.bytes = bytes ∧ z.cells.size = size ∧ 0 < size
theorem ElemInfo.of {P : Program} {e : TypeId} {z : Value} {size bytes : Nat} (h : (P.info? e).map (fun i => (i.zero,i.size,i.bytes)) = some (some z,size,bytes)) (hz : z.cells.size = size) (h0 : 0 < size) : ElemInfo P e size bytes := by
 obtain ⟨i,h1,h2,h3,h4⟩ := info_parts h
 exact ⟨i,z,h1,h2,h3,h4,hz,h0⟩
theorem qcp {w : World} {o : Obj} {b : Nat} (h : b = w.heap.size) : (w.alloc o).heap[b]? = some o := h ▸ qap w o
section
variable {P : Program} {w : World}
theorem qaz {ops : Array Oper} {rest : List Oper} {o : Oper} {a : Act} {Q : Exit → Act → World → Prop} (hgd : o.guard = none) (s x : Operand) (t : TypeId)
  (ho : o.op = .call { callee := .builtin .append,args := #[s,x],argTypes := #[t,t] })
  (e : TypeId) (size bytes : Nat) (ht : P.underlying t = some (.slice e)) (hI : ElemInfo P e size bytes)
  {base : Nat} {v : Value} {n : Nat} {xs : List Value} (hs : a.eval s = v) (hown : w.ownsRow base e size v n xs)
  {b m c : Nat} {news : List Value} {T : TypeId} {f : Nat × Nat} (hx : a.eval x = .slice (some ⟨b,0,none⟩) m c) (hsrc : w.heap[b]? = some (.cells news.toArray T f)) (hl : news.length = m * size) (h1 : ∀ u ∈ news,u.oneCell' = true)
  (hbytes : (n + m) * bytes ≤ 140737488355328) (h63 : n + m ≤ maxLen) (hbase : base ≤ w.heap.size)
  (h : ∀ v' w',Appended w base e size v (n + m) (xs ++ news) v' w' → wpList P ops Q rest (a.put o.dst v') w') : wpList P ops Q (o :: rest) a w := by
 obtain ⟨i,z,hi,hz,h3,h4,h5,h6⟩ := hI.ex
 refine wpList_append w hgd s x t ho base e i z size bytes ht hi hz h3 h4 h5 h6 v n xs hs hown ⟨b,0,none⟩ m c news hx hl ?_ h1 h63 hbytes hbase h
 intro j u hu
 rw [qeg rfl]
 exact qac hsrc (by simpa using hu)
theorem Appended.keeps {B s n : Nat} {e : TypeId} {xs : List Value} {v v' : Value} {w' : World} (hA : Appended w B e s v n xs v' w') : Keeps (fun b => some b ≠ v.ownBlock) w w' := Keeps.of_grown hA.grown
theorem Appended.low {B s n m : Nat} {e : TypeId} {xs ys : List Value} {v v' : Value} {w' : World} (hA : Appended w B e s v n xs v' w') (ho : w.ownsRow B e s v m ys) : Keeps (fun b => b < B) w w' :=
 hA.keeps.mono fun k _ hk he => by have := (ho.lt k he.symm).1; omega
theorem Appended.later {B s n m : Nat} {e : TypeId} {xs ys : List Value} {v v' : Value} {w0 w' : World} (hA : Appended w B e s v n xs v' w') (ho : w.ownsRow B e s v m ys) (hL : qag w0 w) (hB : w0.heap.size ≤ B) : qag w0 w' :=
 ((hL.keeps (fun b => b < B)).trans (hA.low ho)).mono (S' := fun _ => True) (fun k hk _ => by omega) |>.later
end
theorem Appended.obj {w w' : World} {B s n : Nat} {e : TypeId} {xs : List Value} {v v' : Value} (hA : Appended w B e s v n xs v' w') {b : Nat} {o : Obj} (h : w.heap[b]? = some o) (hb : some b ≠ v.ownBlock) : w'.heap[b]? = some o := hA.keeps.obj hb h
theorem own_ne {w : World} {B s n b : Nat} {e t : TypeId} {v : Value} {xs : List Value} {cs : Array Value} {f : Nat × Nat} (h : w.ownsRow B e s v n xs) (hb : w.heap[b]? = some (.cells cs t f)) (hne : e ≠ t) : v.ownBlock ≠ some b := by
 intro he
 rcases h.2 with ⟨rfl,_⟩ | ⟨g,cap,cur,rfl,_,hg,_⟩
 ·cases he
 ·obtain rfl : g = b := by simpa [Value.ownBlock] using he
  rw [hg] at hb
  injection hb with hb
  injection hb with _ hb
  exact hne hb
theorem own_set {w : World} {B s n : Nat} {e : TypeId} {v : Value} {xs : List Value} (h : w.ownsRow B e s v n xs) {p : Addr} (hp : v.ownBlock ≠ some p.block) (u : Value) : (w.setCell p u).ownsRow B e s v n xs := by
 refine ⟨h.1,h.2.imp id fun ⟨g,cap,cur,h1,h2,h3,h4⟩ => ⟨g,cap,cur,h1,h2,?_,h4⟩⟩
 rw [Below.heap_setCell _ _ _ _ (by rintro rfl; exact hp (by rw [h1]; rfl))]
 exact h3
structure Scrib (S : Nat → Nat → Prop) (w w' : World) : Prop where
 os : w'.os = w.os
 tape : w'.tape = w.tape
 output : w'.output = w.output
 size : w.heap.size ≤ w'.heap.size
 block : ∀ b,b < w.heap.size → (∀ o,¬ S b o) → w'.heap[b]? = w.heap[b]?
 cell : ∀ b o v,w.cell? ⟨b,o,none⟩ = some v → ∃ v',w'.cell? ⟨b,o,none⟩ = some v' ∧ (¬ S b o → v' = v)
 free : ∀ b o,b < w.heap.size → w.frozen? ⟨b,o,none⟩ = false → w'.frozen? ⟨b,o,none⟩ = false
theorem Scrib.refl (S : Nat → Nat → Prop) (w : World) : Scrib S w w := ⟨rfl,rfl,rfl,Nat.le_refl _,fun _ _ _ => rfl,fun _ _ v h => ⟨v,h,fun _ => rfl⟩,fun _ _ _ h => h⟩
theorem Scrib.trans {S : Nat → Nat → Prop} {a b c : World} (h : Scrib S a b) (k : Scrib S b c) : Scrib S a c :=
 ⟨k.os.trans h.os,k.tape.trans h.tape,k.output.trans h.output,Nat.le_trans h.size k.size,fun i hi hs => (k.block i (Nat.lt_of_lt_of_le hi h.size) hs).trans (h.block i hi hs),
  fun i o v hv => (let ⟨v1,h1,e1⟩ := h.cell i o v hv; let ⟨v2,h2,e2⟩ := k.cell i o v1 h1; ⟨v2,h2,fun hs => (e2 hs).trans (e1 hs)⟩),fun i o hi hf => k.free i o (Nat.lt_of_lt_of_le hi h.size) (h.free i o hi hf)⟩
theorem Scrib.mono {S S' : Nat → Nat → Prop} {w w' : World} (h : Scrib S w w') (hs : ∀ b o,S b o → S' b o) : Scrib S' w w' :=
 ⟨h.os,h.tape,h.output,h.size,fun i hi hn => h.block i hi fun o ho => hn o (hs _ _ ho),fun b o v hv => (let ⟨v',h1,h2⟩ := h.cell b o v hv; ⟨v',h1,fun hn => h2 fun ho => hn (hs _ _ ho)⟩),h.free⟩
theorem Scrib.keeps {S : Nat → Nat → Prop} {w w' : World} (h : Scrib S w w') : Keeps (fun b => ∀ o,¬ S b o) w w' := ⟨h.os,h.tape,h.output,h.size,fun k hk hs => h.block k hk hs⟩
theorem Scrib.same {S : Nat → Nat → Prop} {w w' : World} (h : Scrib S w w') {b o : Nat} {v : Value} (hv : w.cell? ⟨b,o,none⟩ = some v) (hs : ¬ S b o) : w'.cell? ⟨b,o,none⟩ = some v := by
 obtain ⟨v',h1,h2⟩ := h.cell b o v hv
 rw [h1,h2 hs]
theorem Scrib.there {S : Nat → Nat → Prop} {w w' : World} (h : Scrib S w w') {b o : Nat} {v : Value} (hv : w.cell? ⟨b,o,none⟩ = some v) : ∃ v',w'.cell? ⟨b,o,none⟩ = some v' := let ⟨v',h1,_⟩ := h.cell b o v hv; ⟨v',h1⟩
theorem cell_set_other {w : World} {p q : Addr} {x v : Value} (h : w.cell? q = some v) (hpq : p.block ≠ q.block ∨ (q.spot = none ∧ p.spot = none ∧ p.off ≠ q.off)) : (w.setCell p x).cell? q = some v := by
 obtain ⟨v',hv'⟩ := cell?_setCell_some (w := w) (p := p) (x := x) (q := q) (v := v) h
 rw [hv']
 obtain ⟨b,i,s⟩ := p
 obtain ⟨b',i',s'⟩ := q
 rcases hpq with hb | ⟨hs,hs',hi⟩
 ·have hh := Below.heap_setCell w ⟨b,i,s⟩ x b' (fun e => hb e.symm)
  have := World.cell?_of_block (w := w) (w' := w.setCell ⟨b,i,s⟩ x) (a := ⟨b',i',s'⟩) hh
  rw [this,h] at hv'
  exact hv'.symm
 ·simp only at hs hs' hi
  subst hs hs'
  by_cases hb : b = b'
  ·subst hb
   unfold World.cell? at h hv'
   cases hw : w.heap[b]? with
   | none => simp [hw] at h
   | some o =>
     cases o with
     | cells c t f =>
       have h2 := qak (i := i) hw x
       simp only [hw] at h
       simp only [h2] at hv'
       simp_all
     | _ => simp_all
  ·have hh := Below.heap_setCell w ⟨b,i,none⟩ x b' (fun e => hb e.symm)
   have := World.cell?_of_block (w := w) (w' := w.setCell ⟨b,i,none⟩ x) (a := ⟨b',i',none⟩) hh
   rw [this,h] at hv'
   exact hv'.symm
theorem Scrib.set {S : Nat → Nat → Prop} {a w : World} (h : Scrib S a w) {b o : Nat} (hs : S b o) (v : Value) : Scrib S a (w.setCell ⟨b,o,none⟩ v) := by
 refine h.trans ⟨rfl,rfl,rfl,by simp [World.setCell],fun k hk hn => Below.heap_setCell w _ v k (by rintro rfl; exact hn _ hs),fun b' o' u hu => ?_,fun b' o' hb hf => ?_⟩
 ·obtain ⟨v',hv'⟩ := cell?_setCell_some (w := w) (p := ⟨b,o,none⟩) (x := v) (q := ⟨b',o',none⟩) (v := u) hu
  refine ⟨v',hv',fun hn => ?_⟩
  have := cell_set_other (p := ⟨b,o,none⟩) (x := v) hu (by
   by_cases hb : b = b'
   ·exact .inr ⟨rfl,rfl,fun he => hn (by subst hb; simp only at he; subst he; exact hs)⟩
   ·exact .inl hb)
  rw [this] at hv'
  exact (Option.some.inj hv').symm
 ·rw [World.frozen?_setCell]; exact hf
section
variable {P : Program} {w : World}
theorem wpList_bytes_of {ops : Array Oper} {rest : List Oper} {o : Oper} {a : Act} {Q : Exit → Act → World → Prop} (hgd : o.guard = none) (x : Operand) (src dst e : TypeId)
  (ho : o.op = .convert src dst x) (hs : P.underlying src = some .string) (hd : P.underlying dst = some (.slice e)) (he : P.underlying e = some (.int .u8)) (s : ByteArray) (hx : a.eval x = .string s)
  (h : ∀ c w',qag w w' → w'.heap.size = w.heap.size + 1 → (∀ k (hk : k < s.data.toList.length),w'.cell? ⟨w.heap.size,k,none⟩ = some (.int .u8 ((s.data.toList[k]).toNat : Int))) → wpList P ops Q rest (a.put o.dst (.slice (some ⟨w.heap.size,0,none⟩) s.size c)) w') :
  wpList P ops Q (o :: rest) a w := by
 refine wpList_plain hgd fun K hK => ?_
 have hr := run_bytes_of_string (P := P) w src dst e s hs hd he
 unfold Oper.wp execOp
 simp only [ho,hx,Sem.run_bind,Sem.run_pure,Result.andThen_ok,hr]
 refine hK _ _ (h _ _ ((qag.drew w).alloc' _) (by simp [World.alloc]) fun k hk => ?_)
 have hsz : w.drew.heap.size = w.heap.size := rfl
 rw [← hsz]
 refine qac (qap w.drew _) ?_
 unfold bytesRow
 have hk' : k < s.data.size := by simpa using hk
 rw [Array.getElem?_append_left (by simpa using hk')]
 simp
 exact ⟨s.data[k],by simp [hk'],rfl⟩
end
def hexD (n : Nat) : UInt8 := UInt8.ofNat (if n < 10 then 48 + n else 87 + n)
def oddB (c : UInt8) : Bool := decide (c.toNat < 32) || (decide (126 < c.toNat) || (decide (c.toNat = 39) || decide (c.toNat = 92)))
def qcc (c : UInt8) : List UInt8 := if oddB c = true then [92,hexD (c.toNat / 16),hexD (c.toNat % 16)] else [c]
def qdo (l : List UInt8) : List UInt8 := 39 :: (l.flatMap qcc ++ [39])
theorem quoteC_len (c : UInt8) : (qcc c).length ≤ 3 := by unfold qcc; split <;> simp
theorem flat_len : ∀ l : List UInt8,(l.flatMap qcc).length ≤ 3 * l.length
 | [] => by simp
 | c :: l => by
   have := flat_len l
   have := quoteC_len c
   simp only [List.flatMap_cons,List.length_append,List.length_cons]
   omega
theorem flat_snoc {l : List UInt8} {k : Nat} (h : k < l.length) : (l.take (k + 1)).flatMap qcc = (l.take k).flatMap qcc ++ qcc l[k] := by
 rw [List.take_succ_eq_append_getElem h,List.flatMap_append,List.flatMap_cons,List.flatMap_nil,List.append_nil]
def StrTo (w : World) (l : List UInt8) (e : Ending) (w' : World) : Prop := e = .returned (.string (qah l)) ∧ qag w w'
theorem ret_str {a b : List UInt8} (h : a = b) : Ending.returned (.string (qah a)) = .returned (.string (qah b)) := by rw [h]
theorem grow_later (w : World) (k : Nat) (os : Array Obj) : qag w (Go.Sort.grow (w.drewN k) os) := Lib.below_grow _ w (Nat.le_refl _) k os
end Go.Proofs.YtgajofkeidjbgaaGreatDoor
namespace Go.Proofs.YtgajofkeidjbgaaGreatDoor
set_option linter.unusedSimpArgs false
set_option linter.unusedVariables false
open Go.RowKit
theorem infoU8 : (Tryz.prog.info? 5).map (fun i => (i.zero,i.size,i.bytes)) = some (some (.int .u8 0),1,1) := by kernel_rfl
end Go.Proofs.YtgajofkeidjbgaaGreatDoor
namespace Go.Proofs.YtgajofkeidjbgaaGreatDoor
set_option linter.unusedSimpArgs false
set_option linter.unusedVariables false
open Go Go.RowKit
structure LexS (P : Program) (md : Region.Mode) (ops : Array Oper) (Rel : World → World → Prop) (W : World) (T : Kinds) (Q : Act → World → Prop) (L : List (Nat × Oper)) (done : List (Nat × Value)) (a : Act) : Prop where
 out : Lex P md ops Rel W T Q L done a
section
variable {P : Program} {md : Region.Mode} {ops : Array Oper} {Rel : World → World → Prop} {W : World} {T : Kinds} {Q : Act → World → Prop}
theorem LexS.one' {k : Nat} {o : Oper} {rest : List (Nat × Oper)} {done : List (Nat × Value)} {a : Act} (hT : T k = none) (hw : Region.wanted o (yielded ops a.tmps) = true)
  (h : ∃ c,(∀ w,Rel W w → (∀ p ∈ done,waits md o p.1 = true → Told T p w) → (execOp a.eval o).run P w = .ok (.value c) w) ∧ LexS P md ops Rel W T Q rest done (a.put o.dst c)) :
  LexS P md ops Rel W T Q ((k,o) :: rest) done a := let ⟨c,h1,h2⟩ := h; ⟨Lex.one hT hw c h1 h2.out⟩
theorem LexS.any {k : Nat} {o : Oper} {rest : List (Nat × Oper)} {done : List (Nat × Value)} {a : Act} {τ : Value → World → Prop} (hT : T k = some τ) (hw : Region.wanted o (yielded ops a.tmps) = true)
  (h1 : ∀ w,Rel W w → (∀ p ∈ done,waits md o p.1 = true → Told T p w) → Runs P Rel o a w τ)
  (h2 : ∀ v,(∃ w,Rel W w ∧ ∀ p ∈ (k,v) :: done,Told T p w) → LexS P md ops Rel W T Q rest ((k,v) :: done) (a.put o.dst v)) :
  LexS P md ops Rel W T Q ((k,o) :: rest) done a := ⟨Lex.any hT hw h1 fun v hv => (h2 v hv).out⟩
theorem LexS.anyEq {k : Nat} {o : Oper} {rest : List (Nat × Oper)} {done : List (Nat × Value)} {a : Act} {c : Value} (hT : T k = some (fun v _ => v = c)) (hw : Region.wanted o (yielded ops a.tmps) = true)
  (h1 : ∀ w,Rel W w → (∀ p ∈ done,waits md o p.1 = true → Told T p w) → Runs P Rel o a w (fun v _ => v = c))
  (h2 : LexS P md ops Rel W T Q rest ((k,c) :: done) (a.put o.dst c)) : LexS P md ops Rel W T Q ((k,o) :: rest) done a := ⟨Lex.anyEq hT hw h1 h2.out⟩
theorem LexS.skip {k : Nat} {o : Oper} {rest : List (Nat × Oper)} {done : List (Nat × Value)} {a : Act} (hw : Region.wanted o (yielded ops a.tmps) = false)
  (h2 : LexS P md ops Rel W T Q rest done (a.put o.dst undef)) : LexS P md ops Rel W T Q ((k,o) :: rest) done a := ⟨Lex.skip hw h2.out⟩
theorem LexS.nil {done : List (Nat × Value)} {a : Act} (h : ∀ w,Rel W w → (∀ p ∈ done,Told T p w) → Q a w) : LexS P md ops Rel W T Q [] done a := ⟨h⟩
end
def cmpI (a b : Int) : Int := if a < b then -1 else if b < a then 1 else 0
def orL (l : List Int) : Int := (l.find? (fun x => x != 0)).getD 0
def signI (less same : Bool) : Int := if same then 0 else if less then -1 else 1
def str (t : ByteArray) : List UInt8 := t.toList
def valEq (k n : Int) (t : ByteArray) (k' n' : Int) (t' : ByteArray) : Bool := k == k' && (n == n' && str t == str t')
def eqV (x y : Val) : Bool := valEq x.k x.n x.t y.k y.n y.t
def qba (x y : Val) : Int := orL [cmpI x.k y.k,cmpI x.n y.n,Lib.compareBytes x.t.data.toList y.t.data.toList]
def beforeV (x y : Val) : Bool := if x.k = y.k then (if x.n = y.n then Op.bytesLess (str x.t) (str y.t) else decide (x.n < y.n)) else decide (x.k < y.k)
theorem str_data (t : ByteArray) : t.data.toList = str t := by
 unfold str
 exact (ByteArray.toList_eq t).symm
theorem compareBytes_eq : ∀ (a b : List UInt8),Lib.compareBytes a b = signI (Op.bytesLess a b) (a == b)
 | [],[] => by simp [Lib.compareBytes,signI]
 | [],_ :: _ => by simp [Lib.compareBytes,signI,Op.bytesLess]
 | _ :: _,[] => by simp [Lib.compareBytes,signI,Op.bytesLess]
 | x :: a,y :: b => by
   have ih := compareBytes_eq a b
   unfold Lib.compareBytes
   by_cases h : x < y
   ·have hne : ¬ x = y := fun e => by subst e; exact absurd h (UInt8.lt_irrefl _)
    simp [h,signI,Op.bytesLess,hne]
   ·by_cases h' : y < x
    ·have hne : ¬ x = y := fun e => by subst e; exact absurd h' (UInt8.lt_irrefl _)
     simp [h,h',signI,Op.bytesLess,hne]
    ·have he : x = y := UInt8.le_antisymm (UInt8.not_lt.1 h') (UInt8.not_lt.1 h)
     subst he
     simp [h,ih,signI,Op.bytesLess]
theorem cmpI_eq (a b : Int) : cmpI a b = signI (decide (a < b)) (a == b) := by
 unfold cmpI signI
 by_cases h : a < b
 ·have : ¬ a = b := by omega
  simp [h,this]
 ·by_cases h' : b < a
  ·have : ¬ a = b := by omega
   simp [h,h',this]
  ·have : a = b := by omega
   subst this; simp
theorem orL3 (a b c : Int) : orL [a,b,c] = if a = 0 then (if b = 0 then c else b) else a := by
 unfold orL
 by_cases ha : a = 0
 ·by_cases hb : b = 0
  ·by_cases hc : c = 0 <;> simp [ha,hb,hc]
  ·simp [ha,hb]
 ·simp [ha]
theorem signI_zero {l s : Bool} : signI l s = 0 ↔ s = true := by cases l <;> cases s <;> simp [signI]
theorem compareV_eq (x y : Val) : qba x y = signI (beforeV x y) (eqV x y) := by
 unfold qba beforeV eqV valEq
 rw [orL3,cmpI_eq,cmpI_eq,compareBytes_eq,str_data,str_data]
 by_cases hk : x.k = y.k
 ·by_cases hn : x.n = y.n
  ·simp [hk,hn,signI_zero]
  ·have hb : (x.n == y.n) = false := by simpa using hn
   simp [hk,hn,hb,signI]; intro h; split at h <;> simp at h
 ·have hb : (x.k == y.k) = false := by simpa using hk
  simp [hk,hb,signI]; intro h; split at h <;> simp at h
theorem bytes_tri : ∀ (a b : List UInt8),(a == b) = (!Op.bytesLess a b && !Op.bytesLess b a)
 | [],[] => rfl
 | [],_ :: _ => rfl
 | _ :: _,[] => rfl
 | x :: a,y :: b => by
   have ih := bytes_tri a b
   simp only [Op.bytesLess]
   by_cases h : x < y
   ·have hne : ¬ x = y := fun e => by subst e; exact absurd h (UInt8.lt_irrefl _)
    simp [h,hne]
   ·by_cases h' : y < x
    ·have hne : ¬ x = y := fun e => by subst e; exact absurd h' (UInt8.lt_irrefl _)
     simp [h,h',hne]
    ·have he : x = y := UInt8.le_antisymm (UInt8.not_lt.1 h') (UInt8.not_lt.1 h)
     subst he
     simp [h,ih]
end Go.Proofs.YtgajofkeidjbgaaGreatDoor
namespace Go.Proofs.YtgajofkeidjbgaaGreatDoor
set_option linter.unusedSimpArgs false
set_option linter.unusedVariables false
open Go.RowKit
theorem ret_int {k : IntKind} {a b : Int} (h : a = b) : Ending.returned (.int k a) = .returned (.int k b) := by rw [h]
theorem qbu {a b : Bool} (h : a = b) : Ending.returned (.bool a) = .returned (.bool b) := by rw [h]
end Go.Proofs.YtgajofkeidjbgaaGreatDoor
namespace Go.Proofs.YtgajofkeidjbgaaGreatDoor
set_option linter.unusedSimpArgs false
set_option linter.unusedVariables false
open Go Go.RowKit
def qao (us : Nat → Value) : List Bool → Nat → List Value → List Value
 | [],_,f => f
 | _ :: _,_,[] => []
 | true :: m,n,_ :: f => us n :: qao us m (n + 1) f
 | false :: m,n,x :: f => x :: qao us m (n + 1) f
def qas (l : List Value) (i : Nat) : Value := l.getD i undef
def frameL : List Bool → List Value → List Value → List Value
 | [],f,_ => f
 | _ :: _,[],_ => []
 | _ :: _,_ :: _,[] => [undef]
 | true :: m,_ :: f,y :: l => y :: frameL m f l
 | false :: m,x :: f,_ :: l => x :: frameL m f l
theorem qec : ∀ (m : List Bool) (pre f l : List Value),frameL m f l = l → qao (qas (pre ++ l)) m pre.length f = l
 | [],_,_,_,h => h
 | _ :: _,_,[],_,h => h
 | _ :: _,_,_ :: _,[],h => by cases h
 | true :: m,pre,x :: f,y :: l,h => by
   simp only [frameL,List.cons.injEq,true_and] at h
   have ih := qec m (pre ++ [y]) f l h
   simp only [List.append_assoc,List.singleton_append,List.length_append,List.length_cons,List.length_nil,Nat.zero_add] at ih
   simp only [qao,ih]
   simp [qas]
 | false :: m,pre,x :: f,y :: l,h => by
   simp only [frameL,List.cons.injEq] at h
   obtain ⟨rfl,h⟩ := h
   have ih := qec m (pre ++ [x]) f l h
   simp only [List.append_assoc,List.singleton_append,List.length_append,List.length_cons,List.length_nil,Nat.zero_add] at ih
   simp only [qao,ih]
theorem frameL_self : ∀ (m : List Bool) (f : List Value),frameL m f f = f
 | [],_ => rfl
 | _ :: _,[] => rfl
 | true :: m,x :: f => by simp only [frameL,frameL_self m f]
 | false :: m,x :: f => by simp only [frameL,frameL_self m f]
theorem frameOf_self (m : List Bool) (f : List Value) : qao (qas f) m 0 f = f := qec m [] f f (frameL_self m f)
section
variable {P : Program} {Q : Exit → Act → World → Prop}
def Round (m : List Bool) (f : List Value) (R : (Nat → Value) → World → Prop) (mu : (Nat → Value) → World → Nat) (us : Nat → Value) (wr : World) (a : Act) (w : World) : Prop :=
 ∃ l,a = ⟨l.toArray,[]⟩ ∧ qao (qas l) m 0 f = l ∧ R (qas l) w ∧ mu (qas l) w < mu us wr
theorem wp_loop_frame {c : Code} {f : List Value} {w : World} (m : List Bool) (R : (Nat → Value) → World → Prop) (mu : (Nat → Value) → World → Nat) (h0 : R (qas f) w)
  (round : ∀ us wr,R us wr → c.wp P (Exit.then (Round m f R mu us wr) Q) ⟨(qao us m 0 f).toArray,[]⟩ wr) : (Code.loop c).wp P Q ⟨f.toArray,[]⟩ w := by
 refine wp_loop (fun a w => ∃ l,a = ⟨l.toArray,[]⟩ ∧ qao (qas l) m 0 f = l ∧ R (qas l) w) (fun a w => mu (qas a.tmps.toList) w) ⟨f,rfl,frameOf_self m f,h0⟩ ?_
 rintro a w ⟨l,rfl,hl,hR⟩
 have := round (qas l) w hR
 rw [hl] at this
 refine wp_mono this ?_
 intro e a' w' hq
 cases e with
 | normal =>
   obtain ⟨l',rfl,h1,h2,h3⟩ := hq
   exact ⟨⟨l',rfl,h1,h2⟩,h3⟩
 | exit id => exact hq
 | goto l => exact hq
 | ret => exact hq
 | panic ch => exact hq
 | outgrown => exact hq
def Meet (m : List Bool) (f : List Value) (R : (Nat → Value) → World → Prop) (a : Act) (w : World) : Prop :=
 ∃ l,a = ⟨l.toArray,[]⟩ ∧ qao (qas l) m 0 f = l ∧ R (qas l) w
theorem wp_cut_frame {s : Code} {K : Act → World → Prop} {f : List Value} {w : World} (m : List Bool) (R : (Nat → Value) → World → Prop)
  (first : s.wp P (Exit.then (Meet m f R) Q) ⟨f.toArray,[]⟩ w) (rest : ∀ us wr,R us wr → K ⟨(qao us m 0 f).toArray,[]⟩ wr) : s.wp P (Exit.then K Q) ⟨f.toArray,[]⟩ w := by
 refine wp_mono first ?_
 intro e a' w' hq
 cases e with
 | normal =>
   obtain ⟨l,rfl,h1,h2⟩ := hq
   have := rest (qas l) w' h2
   rwa [h1] at this
 | exit id => exact hq
 | goto l => exact hq
 | ret => exact hq
 | panic ch => exact hq
 | outgrown => exact hq
theorem Meet.mk {m : List Bool} {f l : List Value} {R : (Nat → Value) → World → Prop} {w : World} (hf : frameL m f l = l) (h : R (qas l) w) : Meet m f R ⟨l.toArray,[]⟩ w := ⟨l,rfl,qec m [] f l hf,h⟩
theorem Round.mk {m : List Bool} {f l : List Value} {R : (Nat → Value) → World → Prop} {mu : (Nat → Value) → World → Nat} {us : Nat → Value} {wr w : World} (hf : frameL m f l = l) (h : R (qas l) w)
  (hm : mu (qas l) w < mu us wr) : Round m f R mu us wr ⟨l.toArray,[]⟩ w := ⟨l,rfl,qec m [] f l hf,h,hm⟩
theorem Meet.mk' {m : List Bool} {f l : List Value} {R R0 : (Nat → Value) → World → Prop} {w : World} (hR : R = R0) (hf : frameL m f l = l) (h : R0 (qas l) w) : Meet m f R ⟨l.toArray,[]⟩ w := hR ▸ Meet.mk hf h
theorem Round.mk' {m : List Bool} {f l : List Value} {R R0 : (Nat → Value) → World → Prop} {mu mu0 : (Nat → Value) → World → Nat} {us : Nat → Value} {wr w : World} (hR : R = R0) (hmu : mu = mu0) (hf : frameL m f l = l) (h : R0 (qas l) w)
  (hm : mu0 (qas l) w < mu0 us wr) : Round m f R mu us wr ⟨l.toArray,[]⟩ w := by subst hR hmu; exact Round.mk hf h hm
theorem qal {c : Code} {f : List Value} {w : World} (m : List Bool) (R R0 : (Nat → Value) → World → Prop) (mu : (Nat → Value) → World → Nat) (hR : R = R0) (h0 : R0 (qas f) w)
  (round : ∀ us wr,R0 us wr → c.wp P (Exit.then (Round m f R mu us wr) Q) ⟨(qao us m 0 f).toArray,[]⟩ wr) : (Code.loop c).wp P Q ⟨f.toArray,[]⟩ w := by subst hR; exact wp_loop_frame m R mu h0 round
theorem qau {s : Code} {K : Act → World → Prop} {f : List Value} {w : World} (m : List Bool) (R R0 : (Nat → Value) → World → Prop) (hR : R = R0)
  (first : s.wp P (Exit.then (Meet m f R) Q) ⟨f.toArray,[]⟩ w) (rest : ∀ us wr,R0 us wr → K ⟨(qao us m 0 f).toArray,[]⟩ wr) : s.wp P (Exit.then K Q) ⟨f.toArray,[]⟩ w := by subst hR; exact wp_cut_frame m R first rest
end
end Go.Proofs.YtgajofkeidjbgaaGreatDoor
namespace Go.Proofs.YtgajofkeidjbgaaGreatDoor
set_option linter.unusedSimpArgs false
set_option linter.unusedVariables false
set_option maxHeartbeats 2000000
set_option maxRecDepth 100000
open Go.RowKit
theorem infoB : ElemInfo Tryz.prog 5 1 1 := ElemInfo.of infoU8 rfl (by decide)
theorem oddB_true {c : UInt8} (h : oddB c = true) : qcc c = [92,hexD (c.toNat / 16),hexD (c.toNat % 16)] := by unfold qcc; rw [if_pos h]
theorem oddB_false {c : UInt8} (h : oddB c = false) : qcc c = [c] := by unfold qcc; rw [h]; rfl
def hexS : ByteArray := ⟨#[48,49,50,51,52,53,54,55,56,57,97,98,99,100,101,102]⟩
theorem hexS_at : ∀ k : Fin 16,hexS.data[k.1]? = some (hexD k.1) := by decide
theorem run_hex (w : World) (p : Nat) (hp : p < 16) : (Go.Instr.index 9 (.string ⟨#[48,49,50,51,52,53,54,55,56,57,97,98,99,100,101,102]⟩) (.int .u8 (p : Int))).run Tryz.prog w = .ok (.int .u8 ((hexD p).toNat : Int)) w := by
 rw [run_index_string _ _ _ _ _ Tryz.underlying9]
 have h1 : (0 : Int) ≤ p ∧ (p : Int) < ((⟨#[48,49,50,51,52,53,54,55,56,57,97,98,99,100,101,102]⟩ : ByteArray).size : Int) := ⟨by omega,by show (p : Int) < 16; omega⟩
 rw [dif_pos h1]
 have h2 := hexS_at ⟨p,hp⟩
 have h3 := (Array.getElem?_eq_some_iff.1 h2).2
 congr 3
 rw [← h3]
 rfl
theorem and15 : ∀ m : Fin 256,bits BinOp.and IntKind.u8 ((m.1 : Nat) : Int) 15 = ((m.1 % 16 : Nat) : Int) := by decide +kernel
attribute [local go_sem high] run_hex
theorem quote_any (s : ByteArray) (w : World) (hs : s.size ≤ 1099511627776) : Calls Tryz.prog 143 #[.string s] w (StrTo w (qdo s.data.toList)) := by
 obtain ⟨l,hl⟩ : ∃ l,l = s.data.toList := ⟨_,rfl⟩
 have hsl : l.length = s.size := by rw [hl]; rfl
 rw [← hl]
 have HLD := hid hl
 clear hl
 go_enter Tryz.func143,Tryz.ntmps143
 go_upto_region 2 with (fail)
 have hO0 := World.ownsRow_lit (base := w.heap.size) (e := 5) (size := 1) w #[.int .u8 39] 1 (Nat.le_refl _) (by unfold maxLen; omega) rfl
 have HP0 : Hid (Put 5 w w.heap.size (.slice none 0 0) [39] (.slice (some ⟨w.heap.size,0,none⟩) 1 1) (w.alloc (.cells #[.int .u8 39] 5))) := hid ⟨hO0,(qag.alloc w _).keeps _,.inr ⟨w.heap.size,rfl,Nat.le_refl _⟩⟩
 clear hO0
 generalize w.alloc (.cells #[.int .u8 39] 5) = w1 at *
 go_wp2_with (refine wpList_bytes_of rfl _ 9 55 5 rfl Tryz.underlying9 Tryz.underlying55 Tryz.underlying5 s rfl ?_)
 intro c w2 hL2 hz2 hcell
 obtain ⟨B,hB⟩ : ∃ B,B = w1.heap.size := ⟨_,rfl⟩
 rw [← hB] at hcell ⊢
 have hw1 : w.heap.size < w1.heap.size := by
  have h9 := (owns_block HP0.out.own w.heap.size rfl).2; omega
 have HC : Hid (∀ k (hk : k < l.length),w2.cell? ⟨B,k,none⟩ = some (.int .u8 ((l[k]).toNat : Int))) := hid (by have h := HLD.out; subst h; exact hcell)
 have HP2 := hid (HP0.out.behind hL2)
 have HB : Hid (w.heap.size < B) := hid (by omega)
 have hB0 := HB.out
 clear hcell hL2 hz2 hB hw1 HP0
 go_wp2_with fail
 obtain ⟨R1,hR1⟩ : ∃ RR_ : (Nat → Value) → World → Prop,RR_ = (fun us wx => ∃ (k : Nat) (v : Value),k ≤ l.length ∧ us 10 = .int .i64 k ∧ us 3 = v ∧ Put 5 w w.heap.size (.slice none 0 0) (39 :: (l.take k).flatMap qcc) v wx ∧ (∀ k (hk : k < l.length),wx.cell? ⟨B,k,none⟩ = some (.int .u8 ((l[k]).toNat : Int))) ∧ some B ≠ v.ownBlock) := ⟨_,rfl⟩
 obtain ⟨mu1,hmu1⟩ : ∃ mu : (Nat → Value) → World → Nat,mu = (fun us _ => l.length - (intOf (us 10)).toNat) := ⟨_,rfl⟩
 have HR1 := hid hR1; have Hmu1 := hid hmu1; clear hR1 hmu1
 refine qal [ff,ff,ff,true,ff,true,ff,ff,ff,ff,true,true,true,true,true,true,true,true,true,true,true,true,true,true,true,true,true,true,true,true,true,true,true,true,true,true,true,true,true,true,true,true] R1 _ mu1 HR1.out ?_ ?_
 ·exact ⟨0,.slice (some ⟨w.heap.size,0,none⟩) 1 1,by omega,rfl,rfl,HP2.out,HC.out,fun h => by simp only [Value.ownBlock,Option.some.injEq] at h; omega⟩
 clear HP2 HC
 intro us1 wx hrel
 obtain ⟨k,v,hk,h10,h3,hP,hC,hne⟩ := hrel
 simp only [qao,Nat.reduceAdd,h10,h3]
 have Hh10 := hid h10; clear h10
 have Hh3 := hid h3; clear h3
 have HP := hid hP
 have HC := hid hC
 have HNE := hid hne
 clear hP hC hne
 by_cases hlt : k < l.length
 ·have q0 := HC.out k hlt
  have HX : Hid ((l.take (k + 1)).flatMap qcc = (l.take k).flatMap qcc ++ qcc l[k]) := hid (flat_snoc hlt)
  have hfl := flat_len (l.take k)
  have htl : (l.take k).length ≤ l.length := by rw [List.length_take]; omega
  generalize l[k] = ch at *
  obtain ⟨m,hm⟩ : ∃ m,m = ch.toNat := ⟨_,rfl⟩
  have hm8 : m < 256 := by rw [hm]; exact ch.toNat_lt
  have HM := hid hm
  rw [← hm] at q0
  have hkk : (0 : Int) ≤ k := by omega
  clear hm
  go_upto_region 5 with (fail)
  obtain ⟨R2,hR2⟩ : ∃ RR_ : (Nat → Value) → World → Prop,RR_ = (fun us wy => us 27 = .bool (oddB ch) ∧ wy = wx) := ⟨_,rfl⟩
  have HR2 := hid hR2; clear hR2
  refine qau [ff,ff,ff,ff,ff,ff,ff,ff,ff,ff,ff,ff,ff,ff,true,true,true,true,true,true,true,true,true,true,true,true,true,true] R2 _ HR2.out ?_ ?_
  ·by_cases c1 : (m : Int) < 32
   ·go_wp2_with fail
    refine Meet.mk' HR2.out rfl ?_
    exact ⟨by simp [qas,oddB,← HM.out,show m < 32 by omega],rfl⟩
   by_cases c2 : (126 : Int) < m
   ·go_wp2_with fail
    refine Meet.mk' HR2.out rfl ?_
    exact ⟨by simp [qas,oddB,← HM.out,show ¬ m < 32 by omega,show 126 < m by omega],rfl⟩
   by_cases c3 : (m : Int) = 39
   ·go_wp2_with fail
    refine Meet.mk' HR2.out rfl ?_
    exact ⟨by simp [qas,oddB,← HM.out,show m = 39 by omega],rfl⟩
   by_cases c4 : (m : Int) = 92
   ·go_wp2_with fail
    refine Meet.mk' HR2.out rfl ?_
    exact ⟨by simp [qas,oddB,← HM.out,show m = 92 by omega],rfl⟩
   ·go_wp2_with fail
    refine Meet.mk' HR2.out rfl ?_
    exact ⟨by simp [qas,oddB,← HM.out,show ¬ m < 32 by omega,show ¬ 126 < m by omega,c3,c4,show ¬ m = 39 by omega,show ¬ m = 92 by omega],rfl⟩
  intro us2 wy hrel
  obtain ⟨h27,rfl⟩ := hrel
  simp only [qao,Nat.reduceAdd,h27]
  have Hh27 := hid h27; clear h27
  cases hod : oddB ch with
  | true =>
    obtain ⟨p,hp⟩ : ∃ p,p = m / 16 := ⟨_,rfl⟩
    obtain ⟨q,hq⟩ : ∃ q,q = m % 16 := ⟨_,rfl⟩
    have hpi : (m : Int) / 16 = p := by omega
    have hqi : bits BinOp.and IntKind.u8 (m : Int) 15 = (q : Int) := by rw [hq]; exact and15 ⟨m,hm8⟩
    have hp16 : p < 16 := by omega
    have hq16 : q < 16 := by omega
    have HQC : Hid (qcc ch = [92,hexD p,hexD q]) := hid (by rw [oddB_true hod,← HM.out,hp,hq])
    clear hp hq
    go_wp2_with fail
    refine qee (by kernel_rfl) (by kernel_rfl) [0] [7,8,9] (by kernel_rfl) (fun _ _ d _ _ h => by cases d <;> exact h) (qag) (qag.refl) (qag.trans) (fun _ => none) (fun _ _ _ _ _ h => by cases h) ?_
    simp only [body,tail,qam,Nat.reduceAdd,List.filter_cons,List.filter_nil,List.contains_cons,List.contains_nil,Nat.reduceBEq,Bool.or_false,Bool.or_true,Bool.false_or,Bool.true_or,Bool.not_true,Bool.not_false,Bool.and_true,Bool.and_false,Bool.true_and,Bool.false_and,if_true,if_false,reduceIte,Bool.false_eq_true,List.map_cons,List.map_nil]
    refine Pures.cons rfl ?_
    apply Exists.intro
    refine ⟨fun w => ?_,?_⟩
    ·go_simp
     first | done | rfl
    simp only [Act.put,sib,List.set]
    simp only [Pures]
    refine LexS.out ?_
    iterate 6
     first
     | (refine LexS.skip rfl ?_; simp only [Act.put,sib,List.set])
     | (refine LexS.one' rfl rfl ?_
        apply Exists.intro
        refine ⟨fun w hR hF => ?_,?_⟩
        ·have hP := hR
         repeat (first | replace hP := qag.of_drew hP | replace hP := qag.of_drewN hP | replace hP := qag.of_alloc hP)
         have hcs := hR.cells
         clear hR hF hP
         go_simp
         first | done | rfl
        simp only [Act.put,sib,List.set])
    refine LexS.nil ?_
    intro w4 hR4 hF9
    clear hF9
    repeat (first | replace hR4 := qag.of_drew hR4 | replace hR4 := qag.of_drewN hR4 | replace hR4 := qag.of_alloc hR4)
    have HP4 := hid (HP.out.behind hR4)
    have HC4 := hid fun k hk => hR4.cell (HC.out k hk)
    have hsz4 : w.heap.size ≤ w4.heap.size := HP4.out.keep.size
    have hbl : B < w4.heap.size := qad (HC4.out k hlt)
    clear hR4 hpi hqi q0
    change wpList _ _ _ _ _ _
    go_wp2_with (at_builtin; go_loud (refine qaz rfl _ _ 55 rfl 5 1 1 Tryz.underlying55 infoB rfl (qcd HP4.out.own (qag.alloc _ _)) (news := qbd [92,hexD p,hexD q]) rfl (qcp (by simp)) rfl (byteCells_one _) ?c1 ?c2 ?c3 ?_))
    case c1 => simp only [List.length_cons]; omega
    case c2 => simp only [List.length_cons]; unfold maxLen; omega
    case c3 => simp only [World.size_alloc]; omega
    intro v7 w7 hA7
    have hp7 : Put 5 _ w.heap.size v (39 :: (l.take (k + 1)).flatMap qcc) v7 w7 := Put.of_appended hA7 (by rw [HX.out,HQC.out]; simp) (by rw [HX.out,HQC.out]; simp [qbd])
    have HP7 := hid (HP4.out.trans (Put.ahead (qag.alloc _ _) hp7))
    have HC7 : Hid (∀ k (hk : k < l.length),w7.cell? ⟨B,k,none⟩ = some (.int .u8 ((l[k]).toNat : Int))) := hid fun k hk => hp7.keep.cell (p := ⟨B,k,none⟩) HNE.out ((qag.alloc _ _).cell (HC4.out k hk))
    have HN7 : Hid (some B ≠ v7.ownBlock) := hid (hp7.other (by simp only [World.size_alloc]; omega) HNE.out)
    clear hA7 hp7
    go_wp2_with fail
    refine Round.mk' HR1.out Hmu1.out rfl ?_ ?_
    ·exact ⟨k + 1,v7,by omega,by go_num,rfl,HP7.out,HC7.out,HN7.out⟩
    ·rw [Hh10.out]; simp [intOf,qas]; omega
  | false =>
    have HQC : Hid (qcc ch = [ch]) := hid (oddB_false hod)
    have hsz4 : w.heap.size ≤ wy.heap.size := HP.out.keep.size
    have hbl : B < wy.heap.size := qad (HC.out k hlt)
    clear q0
    go_wp2_with (at_builtin; go_loud (refine qaz rfl _ _ 55 rfl 5 1 1 Tryz.underlying55 infoB rfl (qcd HP.out.own (qag.alloc _ _)) (news := [.int .u8 (m : Int)]) rfl (qcp (by simp)) rfl ?c0 ?c1 ?c2 ?c3 ?_))
    case c0 => intro u hu; simp only [List.mem_cons,List.not_mem_nil,or_false] at hu; subst hu; rfl
    case c1 => simp only [List.length_cons]; omega
    case c2 => simp only [List.length_cons]; unfold maxLen; omega
    case c3 => simp only [World.size_alloc]; omega
    intro v7 w7 hA7
    have hp7 : Put 5 _ w.heap.size v (39 :: (l.take (k + 1)).flatMap qcc) v7 w7 := Put.of_appended hA7 (by rw [HX.out,HQC.out]; simp) (by rw [HX.out,HQC.out,HM.out]; simp [qbd])
    have HP7 := hid (HP.out.trans (Put.ahead (qag.alloc _ _) hp7))
    have HC7 : Hid (∀ k (hk : k < l.length),w7.cell? ⟨B,k,none⟩ = some (.int .u8 ((l[k]).toNat : Int))) := hid fun k hk => hp7.keep.cell (p := ⟨B,k,none⟩) HNE.out ((qag.alloc _ _).cell (HC.out k hk))
    have HN7 : Hid (some B ≠ v7.ownBlock) := hid (hp7.other (by simp only [World.size_alloc]; omega) HNE.out)
    clear hA7 hp7
    go_wp2_with fail
    refine Round.mk' HR1.out Hmu1.out rfl ?_ ?_
    ·exact ⟨k + 1,v7,by omega,by go_num,rfl,HP7.out,HC7.out,HN7.out⟩
    ·rw [Hh10.out]; simp [intOf,qas]; omega
 ·obtain rfl : k = l.length := by omega
  rw [List.take_length] at HP
  have hfl := flat_len l
  have hsz4 : w.heap.size ≤ wx.heap.size := HP.out.keep.size
  go_wp2_with (at_builtin; go_loud (refine qaz rfl _ _ 55 rfl 5 1 1 Tryz.underlying55 infoB rfl (qcd HP.out.own (qag.alloc _ _)) (news := qbd [39]) rfl (qcp (by simp)) rfl (byteCells_one _) ?c1 ?c2 ?c3 ?_))
  case c1 => simp only [List.length_cons]; omega
  case c2 => simp only [List.length_cons]; unfold maxLen; omega
  case c3 => simp only [World.size_alloc]; omega
  intro v7 w7 hA7
  have hp7 : Put 5 _ w.heap.size v (qdo l) v7 w7 := Put.of_appended hA7 (by simp [qdo]) (by simp [qdo,qbd])
  have hP7 := HP.out.trans (Put.ahead (qag.alloc _ _) hp7)
  have HL7 := hid (hP7.later rfl)
  have hstr := (owned_bytes hP7.own).string (src := 55) (dst := 9) Tryz.underlying55 Tryz.underlying5 Tryz.underlying9
  obtain ⟨a7,c7,rfl⟩ := ownsRow_slice hP7.own
  clear hA7 hp7 hP7
  go_wp2_with fail
  go_ret
  exact ⟨rfl,HL7.out⟩
end Go.Proofs.YtgajofkeidjbgaaGreatDoor
