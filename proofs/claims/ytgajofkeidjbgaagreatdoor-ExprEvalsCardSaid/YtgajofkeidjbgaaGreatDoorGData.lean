/-
  PROVED HERE: a part of the proof of ExprEvals: Data, Own, Open, CopyZero, Bytes, PutPlain, PutLaws.
-/
import Derived.Test.YtgajofkeidjbgaaGreatDoorGLex
import Derived.WalkKit
import Derived.ProofKit
import Derived.Deep.Slices
import Derived.Deep.Fields
import Derived.ChangeSame
import Derived.Lib.Bytealg
import Derived.Deep.Cut
import Derived.SizedLaws
import Derived.Laws.BytesArg
import Derived.Laws.Slices
import Derived.Shelf.Bytes.SlSmallAll
import Derived.Lib.SlicesS
import Derived.Laws.BitsLemmas
import Derived.Laws.Bits64
import Derived.Lib.AppendStr
namespace Go.Proofs.YtgajofkeidjbgaaGreatDoor
set_option linter.unusedSimpArgs false
set_option linter.unusedVariables false
open Go Go.RowKit Go.ChangeShapes Go.WideShapes Go.Deep
structure Val where
 k : Int
 n : Int
 t : ByteArray
abbrev Val.v (x : Val) : Value := .agg #[.int .i64 x.k,.int .i64 x.n,.string x.t]
structure Row where
 time : Int
 vals : List Val
def ValOk (x : Val) : Prop := (Lit.int .i64 x.k).wf = true ∧ (Lit.int .i64 x.n).wf = true ∧ x.t.size ≤ maxLen
theorem qeg {a : Addr} (h : a.spot = none) (k : Nat) : a.add k = ⟨a.block,a.off + k,none⟩ := by
 cases a; simp only at h; subst h
 unfold Addr.add
 split
 ·rename_i hk; simp_all
 ·rfl
structure Keeps (S : Nat → Prop) (w w' : World) : Prop where
 os : w'.os = w.os
 tape : w'.tape = w.tape
 output : w'.output = w.output
 size : w.heap.size ≤ w'.heap.size
 block : ∀ k,k < w.heap.size → S k → w'.heap[k]? = w.heap[k]?
theorem Keeps.refl (S : Nat → Prop) (w : World) : Keeps S w w := ⟨rfl,rfl,rfl,Nat.le_refl _,fun _ _ _ => rfl⟩
theorem Keeps.trans {S : Nat → Prop} {a b c : World} (h : Keeps S a b) (k : Keeps S b c) : Keeps S a c :=
 ⟨k.os.trans h.os,k.tape.trans h.tape,k.output.trans h.output,Nat.le_trans h.size k.size,fun i hi hs => (k.block i (Nat.lt_of_lt_of_le hi h.size) hs).trans (h.block i hi hs)⟩
theorem Keeps.mono {S S' : Nat → Prop} {w w' : World} (h : Keeps S w w') (hs : ∀ k,k < w.heap.size → S' k → S k) : Keeps S' w w' := ⟨h.os,h.tape,h.output,h.size,fun k hk hk' => h.block k hk (hs k hk hk')⟩
theorem qag.keeps {w w' : World} (h : qag w w') (S : Nat → Prop) : Keeps S w w' := ⟨h.os,h.tape,h.output,h.size,fun k hk _ => h.block k hk⟩
theorem Keeps.later {w w' : World} (h : Keeps (fun _ => True) w w') : qag w w' := ⟨h.os,h.tape,h.output,h.size,fun k hk => h.block k hk trivial⟩
theorem Keeps.cell {S : Nat → Prop} {w w' : World} (h : Keeps S w w') {p : Addr} {v : Value} (hs : S p.block) (hc : w.cell? p = some v) : w'.cell? p = some v := by
 rw [World.cell?_of_block (w := w) (h.block p.block (qad hc) hs)]; exact hc
theorem Keeps.obj {S : Nat → Prop} {w w' : World} (h : Keeps S w w') {b : Nat} {o : Obj} (hs : S b) (hc : w.heap[b]? = some o) : w'.heap[b]? = some o := by
 rw [h.block b (Array.getElem?_eq_some_iff.1 hc).1 hs]; exact hc
theorem Keeps.of_grown {w w' : World} {row : Option Nat} (h : w.grownBy w' row) : Keeps (fun b => some b ≠ row) w w' := ⟨h.os,h.tape,h.output,h.size,h.block⟩
theorem Keeps.setCell {S : Nat → Prop} {a w : World} (h : Keeps S a w) {p : Addr} (hp : ¬ S p.block ∨ a.heap.size ≤ p.block) (u : Value) : Keeps S a (w.setCell p u) :=
 ⟨h.os,h.tape,h.output,by simpa [World.setCell] using h.size,fun k hk hs => (Below.heap_setCell w p u k (by
  rintro rfl
  rcases hp with hp | hp
  ·exact hp hs
  ·omega)).trans (h.block k hk hs)⟩
theorem Keeps.alloc {S : Nat → Prop} {a w : World} (h : Keeps S a w) (o : Obj) : Keeps S a (w.alloc o) := h.trans ((qag.alloc w o).keeps S)
theorem Keeps.drew {S : Nat → Prop} {a w : World} (h : Keeps S a w) : Keeps S a w.drew := h.trans ((qag.drew w).keeps S)
theorem Keeps.more {S : Nat → Prop} {a w w' : World} (h : Keeps S a w) (k : qag w w') : Keeps S a w' := h.trans (k.keeps S)
def ValAt (w : World) (b o : Nat) (x : Val) : Prop := w.cell? ⟨b,o,none⟩ = some (.int .i64 x.k) ∧ w.cell? ⟨b,o + 1,none⟩ = some (.int .i64 x.n) ∧ w.cell? ⟨b,o + 2,none⟩ = some (.string x.t)
theorem ValAt.later {w w' : World} {b o : Nat} {x : Val} (h : ValAt w b o x) (k : qag w w') : ValAt w' b o x := ⟨k.cell h.1,k.cell h.2.1,k.cell h.2.2⟩
theorem ValAt.kept {S : Nat → Prop} {w w' : World} {b o : Nat} {x : Val} (h : ValAt w b o x) (hs : S b) (k : Keeps S w w') : ValAt w' b o x := ⟨k.cell hs h.1,k.cell hs h.2.1,k.cell hs h.2.2⟩
def Elems {α : Type} (S : Nat → Prop) (at_ : World → Nat → Nat → α → Prop) (size : Nat) (w : World) (a : Option Addr) (l : List α) : Prop :=
 ∀ i (h : i < l.length),∃ b o,a = some ⟨b,o,none⟩ ∧ S b ∧ at_ w b (o + i * size) l[i]
def SliceOf {α : Type} (S : Nat → Prop) (at_ : World → Nat → Nat → α → Prop) (size : Nat) (w : World) (v : Value) (l : List α) : Prop :=
 ∃ a c,v = .slice a l.length c ∧ l.length ≤ c ∧ c ≤ maxLen ∧ (a = none → c = 0) ∧ Elems S at_ size w a l
theorem SliceOf.map {α : Type} {S S' : Nat → Prop} {at_ at' : World → Nat → Nat → α → Prop} {size : Nat} {w w' : World} {v : Value} {l : List α} (h : SliceOf S at_ size w v l)
  (hat : ∀ b o x,S b → at_ w b o x → S' b ∧ at' w' b o x) : SliceOf S' at' size w' v l :=
 let ⟨a,c,hv,hl,hc,hn,he⟩ := h; ⟨a,c,hv,hl,hc,hn,fun i hi => let ⟨b,o,ha,hs,hx⟩ := he i hi; ⟨b,o,ha,hat _ _ _ hs hx⟩⟩
abbrev ValsIn (S : Nat → Prop) (w : World) (v : Value) (l : List Val) : Prop := SliceOf S ValAt 3 w v l
def All (_ : Nat) : Prop := True
abbrev qcx (w : World) (v : Value) (l : List Val) : Prop := ValsIn All w v l
theorem SliceOf.vals_kept {S S' : Nat → Prop} {w w' : World} {v : Value} {l : List Val} (h : ValsIn S w v l) (k : Keeps S' w w') (hs : ∀ b,S b → S' b) : ValsIn S w' v l := h.map fun _ _ _ hb hx => ⟨hb,hx.kept (hs _ hb) k⟩
theorem SliceOf.later {S : Nat → Prop} {w w' : World} {v : Value} {l : List Val} (h : ValsIn S w v l) (k : qag w w') : ValsIn S w' v l := h.map fun _ _ _ hb hx => ⟨hb,hx.later k⟩
def RowAt (S : Nat → Prop) (w : World) (b o : Nat) (r : Row) : Prop := w.cell? ⟨b,o,none⟩ = some (.int .i64 r.time) ∧ ∃ v,w.cell? ⟨b,o + 1,none⟩ = some v ∧ ValsIn S w v r.vals
theorem RowAt.later {S : Nat → Prop} {w w' : World} {b o : Nat} {r : Row} (h : RowAt S w b o r) (k : qag w w') : RowAt S w' b o r := let ⟨v,h1,h2⟩ := h.2; ⟨k.cell h.1,v,k.cell h1,h2.later k⟩
theorem RowAt.kept {S S' : Nat → Prop} {w w' : World} {b o : Nat} {r : Row} (h : RowAt S w b o r) (hb : S b) (k : Keeps S' w w') (hs : ∀ b,S b → S' b) : RowAt S w' b o r :=
 let ⟨v,h1,h2⟩ := h.2; ⟨k.cell (hs _ hb) h.1,v,k.cell (hs _ hb) h1,h2.vals_kept k hs⟩
def Val.cells (x : Val) : List Value := [.int .i64 x.k,.int .i64 x.n,.string x.t]
def qco (l : List Val) : List Value := l.flatMap Val.cells
theorem valCells_length (l : List Val) : (qco l).length = l.length * 3 := by
 induction l with
 | nil => rfl
 | cons x l ih => simp only [qco,List.flatMap_cons,List.length_append,List.length_cons] at ih ⊢; simp only [Val.cells,List.length_cons,List.length_nil]; omega
theorem valCells_get : ∀ (l : List Val) (i : Nat) (h : i < l.length),(qco l)[i * 3]? = some (.int .i64 l[i].k) ∧ (qco l)[i * 3 + 1]? = some (.int .i64 l[i].n) ∧ (qco l)[i * 3 + 2]? = some (.string l[i].t)
 | [],i,h => by cases h
 | x :: l,0,_ => by simp [qco,Val.cells]
 | x :: l,i + 1,h => by
   have ih := valCells_get l i (by simpa using h)
   have e : ∀ j,(qco (x :: l))[(i + 1) * 3 + j]? = (qco l)[i * 3 + j]? := fun j => by
    show (Val.cells x ++ qco l)[(i + 1) * 3 + j]? = _
    rw [List.getElem?_append_right (by simp [Val.cells]; omega)]
    congr 1
    simp [Val.cells]; omega
   have e0 := e 0
   simp only [Nat.add_zero] at e0
   rw [e0,e 1,e 2]
   simpa using ih
theorem owned_vals {w : World} {base : Nat} {e : TypeId} {v : Value} {n : Nat} {l : List Val} (h : w.ownsRow base e 3 v n (qco l)) : ValsIn (fun b => base ≤ b) w v l := by
 obtain ⟨hn,hv⟩ := h
 rw [valCells_length] at hn
 obtain rfl : l.length = n := by omega
 rcases hv with ⟨rfl,h0⟩ | ⟨g,cap,cur,rfl,hb,hg,hl,hm,hc,ht⟩
 ·have : l = [] := List.eq_nil_of_length_eq_zero h0
  subst this
  exact ⟨none,0,rfl,Nat.le_refl _,by unfold maxLen; omega,fun _ => rfl,fun i hi => by cases hi⟩
 ·refine ⟨_,cap,rfl,hl,hm,fun h => (by cases h),fun i hi => ⟨g,0,rfl,hb,?_⟩⟩
  have cell : ∀ j u,(qco l)[j]? = some u → w.cell? ⟨g,j,none⟩ = some u := fun j u hu => by
   refine qac hg ?_
   rw [← ht,List.getElem?_take] at hu
   split at hu
   ·simpa using hu
   ·cases hu
  obtain ⟨h1,h2,h3⟩ := valCells_get l i hi
  simp only [Nat.zero_add]
  exact ⟨cell _ _ h1,cell _ _ h2,cell _ _ h3⟩
section
variable {H : Type} {enc : TypeId × Value → H} {P : Program} {w : World} {base : Nat} {spare : Nat → Bool} {held : Bool}
theorem list_of {α : Type} (n : Nat) {p : Nat → α → Prop} (h : ∀ i,i < n → ∃ x,p i x) : ∃ l : List α,l.length = n ∧ ∀ i (hi : i < l.length),p i l[i] := by
 induction n with
 | zero => exact ⟨[],rfl,fun i hi => by cases hi⟩
 | succ n ih =>
   obtain ⟨l,hl,hp⟩ := ih fun i hi => h i (by omega)
   obtain ⟨x,hx⟩ := h n (by omega)
   refine ⟨l ++ [x],by simp [hl],fun i hi => ?_⟩
   by_cases hlt : i < l.length
   ·rw [List.getElem_append_left hlt]; exact hp i hlt
   ·have hi' : i = l.length := by simp at hi; omega
    subst hi'
    rw [List.getElem_append_right (Nat.le_refl _)]
    simpa [hl] using hx
end
end Go.Proofs.YtgajofkeidjbgaaGreatDoor
namespace Go.Proofs.YtgajofkeidjbgaaGreatDoor
set_option linter.unusedSimpArgs false
set_option linter.unusedVariables false
open Go Go.RowKit
section
variable {P : Program} (w : World)
theorem append_block {base : Nat} {t ty e : TypeId} {i : TypeInfo} {z : Value} {size bytes : Nat} (ht : P.underlying t = some (.slice e)) (hi : P.info? e = some i) (hz : i.zero = some z)
  (hsize : i.size = size) (hby : i.bytes = bytes) {v : Value} {n : Nat} {xs : List Value} (hown : w.ownsRow base e size v n xs)
  {a : Addr} {m c : Nat} {news : List Value} (hl : news.length = m * size) (hnews : ∀ j u,news[j]? = some u → w.cell? (a.add j) = some u) (h1 : ∀ u ∈ news,u.oneCell' = true)
  (h63 : n + m ≤ maxLen) (hbytes : (n + m) * bytes ≤ 140737488355328) {v' : Value} {w' : World} (hr : (Builtin.append_ #[t,t] ty #[v,.slice (some a) m c]).run P w = .ok v' w') :
  v'.ownBlock = v.ownBlock ∨ ∃ g,v'.ownBlock = some g ∧ w.heap.size ≤ g := by
 subst hsize
 subst hby
 have hsmall : n + m ≤ 9223372036854775807 := by simp only [maxLen] at h63; omega
 rcases hown.2 with ⟨rfl,rfl⟩ | ⟨g,cap,cur,rfl,hbg,hg,hnc,hcm,hcs,htake⟩
 ·by_cases hm : m = 0
  ·subst hm
   have hn : news = [] := List.eq_nil_of_length_eq_zero (by simpa using hl)
   subst hn
   have : (Builtin.append_ #[t,t] ty #[.slice none 0 0,.slice (some a) 0 c]).run P w = .ok (.slice none 0 0) w := by
    simp [Builtin.append_,run_underlying ht,sizeOf,typeInfo,hi,Builtin.lenOf,Builtin.firstCells,loadCells,loadCellsFrom]
   rw [this] at hr
   injection hr with hv _
   subst hv
   exact .inl rfl
  ·have hr' := run_append_nil (P := P) w t ty e i z ht hi hz a m c news hl hnews (by omega) (by omega) (by have hb := hbytes; simp only [Nat.zero_add] at hb; omega)
   rw [hr'] at hr
   injection hr with hv _
   subst hv
   exact .inr ⟨_,rfl,Nat.le_refl _⟩
 ·by_cases hroom : n + m ≤ cap
  ·have hfit : n * i.size + news.length ≤ cur.size := by rw [hl,hcs,← Nat.add_mul]; exact Nat.mul_le_mul_right _ hroom
   rw [run_append_room (P := P) w t ty e i ht hi g n cap cur hg a m c news hl hnews h1 hroom hfit] at hr
   injection hr with hv _
   subst hv
   exact .inl rfl
  ·have holds : ∀ j u,xs[j]? = some u → w.cell? ((⟨g,0,none⟩ : Addr).add j) = some u := hown.cells (g := g) rfl
   have hr' := run_append_grow (P := P) w t ty e i z ht hi hz ⟨g,0,none⟩ n cap xs hown.1 holds a m c news hl hnews (by omega) (by omega) (growslice_fits (by omega) hbytes)
   rw [hr'] at hr
   injection hr with hv _
   subst hv
   exact .inr ⟨_,rfl,Nat.le_refl _⟩
theorem Keeps.grown {S : Nat → Prop} {a w w' : World} {row : Option Nat} (h : Keeps S a w) (g : w.grownBy w' row) (hr : ∀ k,row = some k → a.heap.size ≤ k) : Keeps S a w' :=
 ⟨g.os.trans h.os,g.tape.trans h.tape,g.output.trans h.output,Nat.le_trans h.size g.size,fun k hk hs => (g.block k (Nat.lt_of_lt_of_le hk h.size) (fun e => by have := hr k e.symm; omega)).trans (h.block k hk hs)⟩
structure Appended (w : World) (base : Nat) (e : TypeId) (size : Nat) (v : Value) (n : Nat) (xs : List Value) (v' : Value) (w' : World) : Prop where
 own : w'.ownsRow base e size v' n xs
 grown : w.grownBy w' v.ownBlock
 block : v'.ownBlock = v.ownBlock ∨ ∃ g,v'.ownBlock = some g ∧ w.heap.size ≤ g
theorem wpList_append {ops : Array Oper} {rest : List Oper} {o : Oper} {a : Act} {Q : Exit → Act → World → Prop} (hgd : o.guard = none) (s x : Operand) (t : TypeId)
  (ho : o.op = .call { callee := .builtin .append,args := #[s,x],argTypes := #[t,t] })
  (base : Nat) (e : TypeId) (i : TypeInfo) (z : Value) (size bytes : Nat) (ht : P.underlying t = some (.slice e)) (hi : P.info? e = some i) (hz : i.zero = some z)
  (hsize : i.size = size) (hby : i.bytes = bytes) (hzs : z.cells.size = size) (hsz : 0 < size)
  (v : Value) (n : Nat) (xs : List Value) (hs : a.eval s = v) (hown : w.ownsRow base e size v n xs)
  (ad : Addr) (m c : Nat) (news : List Value) (hx : a.eval x = .slice (some ad) m c) (hl : news.length = m * size) (hnews : ∀ j u,news[j]? = some u → w.cell? (ad.add j) = some u) (h1 : ∀ u ∈ news,u.oneCell' = true)
  (h63 : n + m ≤ maxLen) (hbytes : (n + m) * bytes ≤ 140737488355328) (hbase : base ≤ w.heap.size)
  (h : ∀ v' w',Appended w base e size v (n + m) (xs ++ news) v' w' → wpList P ops Q rest (a.put o.dst v') w') : wpList P ops Q (o :: rest) a w := by
 refine wpList_plain hgd fun K hK => ?_
 obtain ⟨v',w',hr,h2,h3,_⟩ := run_append_own (P := P) w base t o.type e i z size bytes ht hi hz hsize hby hzs hsz v n xs hown ad m c news hl hnews h1 h63 hbytes hbase
 have hb := append_block w ht hi hz hsize hby hown hl hnews h1 h63 hbytes hr
 unfold Oper.wp execOp
 simp only [ho,resolve,invoke,builtin,Sem.run_bind,Sem.run_pure,Result.andThen_ok,List.map_toArray,List.map_cons,List.map_nil,hs,hx,hr]
 exact hK _ _ (h v' w' ⟨h2,h3,hb⟩)
end
theorem qak {w : World} {b i : Nat} {c : Array Value} {t : TypeId} {f : Nat × Nat} (h : w.heap[b]? = some (.cells c t f)) (v : Value) : (w.setCell ⟨b,i,none⟩ v).heap[b]? = some (.cells (c.setIfInBounds i v) t f) := by
 have hlt : b < w.heap.size := (Array.getElem?_eq_some_iff.1 h).1
 have hb : w.heap[b] = .cells c t f := (Array.getElem?_eq_some_iff.1 h).2
 show (w.heap.modify b _)[b]? = _
 rw [Array.getElem?_eq_getElem (by simpa using hlt),Array.getElem_modify_self,hb]
 rfl
theorem ownsRow_slice {w : World} {B : Nat} {e : TypeId} {s n : Nat} {v : Value} {xs : List Value} (h : w.ownsRow B e s v n xs) : ∃ a c,v = .slice a n c := by
 rcases h.2 with ⟨rfl,h0⟩ | ⟨g,cap,cur,rfl,_⟩
 ·exact ⟨none,0,by rw [h0]⟩
 ·exact ⟨_,_,rfl⟩
theorem qaq {w : World} {b i : Nat} {c : Array Value} {t : TypeId} (h : w.heap[b]? = some (.cells c t (0,0))) : w.frozen? ⟨b,i,none⟩ = false := by simp [World.frozen?,h]
end Go.Proofs.YtgajofkeidjbgaaGreatDoor
namespace Go.Proofs.YtgajofkeidjbgaaGreatDoor
set_option linter.unusedSimpArgs false
set_option linter.unusedVariables false
open Go Go.RowKit Go.Deep
section
variable {H : Type} {P : Program}
def Fits (P : Program) (t : TypeId) (d : DataW H) : Prop := ∀ n ∈ d.weights P t,n ≤ reachBytes
theorem weights_all {e : TypeId} : ∀ {l : List (DataW H)} {d : DataW H},d ∈ l → ∀ n ∈ d.weights P e,n ∈ DataW.weightsAll P e l
 | [],_,h,_,_ => by cases h
 | d0 :: l,d,h,n,hn => by
   simp only [DataW.weightsAll,List.mem_append]
   rcases List.mem_cons.1 h with rfl | h
   ·exact .inl hn
   ·exact .inr (weights_all h n hn)
theorem Fits.each {ts : List TypeId} {ds : List (DataW H)} (h : (DataW.weightsEach P ts ds).all (· ≤ reachBytes) = true) {j : Nat} {t : TypeId} {d : DataW H} (ht : ts[j]? = some t) (hd : ds[j]? = some d) : Fits P t d :=
 fun n hn => by simpa using List.all_eq_true.1 h n (DataW.weights_mem_each ht hd n hn)
theorem Fits.field {t : TypeId} {fs : Array Field} {parts : List (DataW H)} (h : Fits P t (.agg parts)) (ht : P.underlying t = some (.struct fs)) {j : Nat} {f : Field} {d : DataW H} (hf : fs[j]? = some f) (hd : parts[j]? = some d) : Fits P f.type d :=
 fun n hn => h n (by
  simp only [DataW.weights,ht]
  exact DataW.weights_mem_each (j := j) (by simp [hf]) hd n hn)
theorem Fits.len {t e : TypeId} {elems spare : List (DataW H)} (h : Fits P t (.slice elems spare)) (ht : P.underlying t = some (.slice e)) : (elems.length + spare.length) * P.bytesOf e ≤ reachBytes :=
 h _ (by simp [DataW.weights,ht])
theorem Fits.elem {t e : TypeId} {elems spare : List (DataW H)} (h : Fits P t (.slice elems spare)) (ht : P.underlying t = some (.slice e)) {d : DataW H} (hd : d ∈ elems) : Fits P e d :=
 fun n hn => h n (by simp only [DataW.weights,ht,List.mem_cons,List.mem_append]; exact .inr (.inl (weights_all hd n hn)))
variable {enc : TypeId × Value → H} {w : World} {base : Nat} {spare : Nat → Bool} {held : Bool}
theorem open_struct {t : TypeId} {fs : Array Field} {n : Nat} {cs : List Value} {d : DataW H} {pl : List MemPlace} (ht : P.underlying t = some (.struct fs)) (h : DataW.trod enc P w base spare held n t cs = some (d,pl)) (hf : Fits P t d) :
  cs.length = P.cellsOf t ∧ ∀ (i : Nat) (f : Field),fs[i]? = some f → ∃ n' d' pl',DataW.trod enc P w base spare held n' f.type ((cs.drop f.offset).take (P.cellsOf f.type)) = some (d',pl') ∧ Fits P f.type d' := by
 obtain ⟨xs,n',_,hx,hl,hxl,hfs⟩ := DataW.trod_struct ht h
 simp only [Prod.mk.injEq] at hx
 obtain ⟨rfl,-⟩ := hx
 refine ⟨hl,fun i f hi => ?_⟩
 have hlt : i < xs.length := by rw [hxl]; exact (Array.getElem?_eq_some_iff.1 hi).1
 have hg := hfs i f hi
 rw [List.getElem?_eq_getElem hlt] at hg
 exact ⟨n',xs[i].1,xs[i].2,hg,hf.field ht hi (by simp [hlt])⟩
theorem open_list {α : Type} {tS e : TypeId} {size fuel : Nat} {At : World → Nat → Nat → α → Prop} {Good : α → Prop} {cs : List Value} {d : DataW H} {pl : List MemPlace} (ht : P.underlying tS = some (.slice e)) (hC : P.cellsOf e = size) (hpos : 0 < size)
  (hE : ∀ n cs' d pl,DataW.trod enc P w base spare held n e cs' = some (d,pl) → Fits P e d → cs'.length = size → ∃ x,Good x ∧ ∀ b o,(∀ j u,cs'[j]? = some u → w.cell? ⟨b,o + j,none⟩ = some u) → At w b o x)
  (h : DataW.trod enc P w base spare held fuel tS cs = some (d,pl)) (hf : Fits P tS d) : ∃ v l,cs = [v] ∧ SliceOf All At size w v l ∧ (∀ x ∈ l,Good x) ∧ l.length * P.bytesOf e ≤ reachBytes := by
 rcases open_slice ht h with ⟨rfl,_⟩ | ⟨a,len,cap,m,n,D,Pl,rfl,_,hl,hm,hmm,hx,hi⟩
 ·exact ⟨_,[],rfl,⟨none,0,rfl,Nat.le_refl _,by unfold maxLen; omega,fun _ => rfl,fun i hi => (by cases hi)⟩,(fun x hx => (by cases hx)),by simp⟩
 ·have hlm : len ≤ m := by rw [hmm]; split <;> omega
  simp only [Prod.mk.injEq] at hx
  obtain ⟨rfl,-⟩ := hx
  have hw := hf.len ht
  simp only [List.length_map,List.length_range] at hw
  have key : ∀ i,i < len → ∃ x,(a.spot = none ∧ Good x) ∧ At w a.block (a.off + i * size) x := fun i hil => by
   obtain ⟨cs',hc,ht'⟩ := hi i (by omega)
   rw [hC] at hc
   obtain ⟨_,hcl,hat⟩ := World.cells?_some hc
   have hs : a.spot = none := by
    obtain ⟨cs0,hc0,_⟩ := hi 0 (by omega)
    rw [hC] at hc0
    obtain ⟨_,hcl0,hat0⟩ := World.cells?_some hc0
    have h0 := hat0 0 hpos
    rw [List.getElem?_eq_getElem (by omega)] at h0
    have := World.cell?_spot h0
    simpa [Addr.add] using this
   obtain ⟨x,hg,hA⟩ := hE n cs' _ _ ht' (hf.elem ht (List.mem_map.2 ⟨i,List.mem_range.2 hil,rfl⟩)) hcl
   refine ⟨x,⟨hs,hg⟩,hA _ _ fun j u hu => ?_⟩
   have hj : j < size := by have := (List.getElem?_eq_some_iff.1 hu).1; omega
   have hh := hat j hj
   rw [hu,qeg hs,qeg rfl] at hh
   exact hh
  obtain ⟨l,rfl,hp⟩ := list_of len key
  refine ⟨_,l,rfl,⟨some a,cap,rfl,hl,hm,fun h => (by cases h),fun i hi => ⟨a.block,a.off,(by obtain ⟨⟨hs,_⟩,_⟩ := hp i hi; cases a; simp only at hs; subst hs; rfl),trivial,(hp i hi).2⟩⟩,fun x hx => (by obtain ⟨i,hi,rfl⟩ := List.getElem_of_mem hx; exact (hp i hi).1.2),?_⟩
  exact Nat.le_trans (Nat.mul_le_mul_right _ (Nat.le_add_right _ _)) hw
end
end Go.Proofs.YtgajofkeidjbgaaGreatDoor
namespace Go.Proofs.YtgajofkeidjbgaaGreatDoor
set_option linter.unusedSimpArgs false
set_option linter.unusedVariables false
open Go Go.RowKit
section
variable {P : Program} {w : World}
end
end Go.Proofs.YtgajofkeidjbgaaGreatDoor
namespace Go.Proofs.YtgajofkeidjbgaaGreatDoor
set_option linter.unusedSimpArgs false
set_option linter.unusedVariables false
open Go Go.RowKit Go.Deep
def ByteAt (w : World) (b o : Nat) (x : UInt8) : Prop := w.cell? ⟨b,o,none⟩ = some (.int .u8 (x.toNat : Int))
theorem ByteAt.kept {S : Nat → Prop} {w w' : World} {b o : Nat} {x : UInt8} (h : ByteAt w b o x) (hs : S b) (k : Keeps S w w') : ByteAt w' b o x := k.cell (p := ⟨b,o,none⟩) hs h
abbrev BytesIn (S : Nat → Prop) (w : World) (v : Value) (l : List UInt8) : Prop := SliceOf S ByteAt 1 w v l
theorem SliceOf.all {α : Type} {S : Nat → Prop} {at_ : World → Nat → Nat → α → Prop} {size : Nat} {w : World} {v : Value} {l : List α} (h : SliceOf S at_ size w v l) : SliceOf All at_ size w v l := h.map fun _ _ _ _ hx => ⟨trivial,hx⟩
section
variable {P : Program} {S : Nat → Prop} {w : World} {v : Value} {l : List UInt8}
def qah (l : List UInt8) : ByteArray := ⟨l.toArray⟩
theorem qax (l : List UInt8) : (qah l).size = l.length := by simp [qah,ByteArray.size]
theorem strB_inj {l m : List UInt8} (h : qah l = qah m) : l = m := by
 have := congrArg (fun s : ByteArray => s.data.toList) h
 simpa [qah] using this
theorem strB_data (s : ByteArray) : qah s.data.toList = s := by cases s; rfl
theorem strB_nums (l : List UInt8) : strOfNums (l.map fun x => (x.toNat : Int)) = qah l := by
 unfold strOfNums qah
 simp only [List.map_map]
 congr 1
 congr 1
 conv => rhs; rw [← List.map_id l]
 exact List.map_congr_left fun x _ => by simp
theorem SliceOf.string {src e dst : TypeId} (h : BytesIn S w v l) (hs : P.underlying src = some (.slice e)) (he : P.underlying e = some (.int .u8)) (hd : P.underlying dst = some .string) :
  (convert src dst v).run P w = .ok (.string (qah l)) w := by
 obtain ⟨a,c,rfl,hl,hc,hn,hx⟩ := h
 by_cases h0 : l = []
 ·subst h0
  have := run_convert_bytes_zero (P := P) w src e hs he a c dst hd
  exact this
 ·have hpos : 0 < l.length := List.length_pos_iff.2 h0
  obtain ⟨b,o,rfl,_,_⟩ := hx 0 hpos
  have := run_convert_bytes_arg (P := P) w src e hs he b o l.length c (l.map fun x => (x.toNat : Int)) (by simp) (fun i hi => by
   obtain ⟨b',o',hb,_,hat⟩ := hx i hi
   simp only [Option.some.injEq,Addr.mk.injEq,and_true] at hb
   obtain ⟨rfl,rfl⟩ := hb
   have hat' : w.cell? ⟨b,o + i * 1,none⟩ = some (.int .u8 (l[i].toNat : Int)) := hat
   rw [Nat.mul_one] at hat'
   rw [hat']
   simp [List.getD,hi]) dst hd
  rw [this,strB_nums]
theorem str_eq {l m : List UInt8} (h : l = m) : ((qah l).toList == (qah m).toList) = true := by rw [h]; exact beq_self_eq_true _
theorem str_ne {l m : List UInt8} (h : l ≠ m) : ((qah l).toList == (qah m).toList) = false := (Lib.bytes_beq_false_iff _ _).2 fun e => h (strB_inj e)
def qbd (l : List UInt8) : List Value := l.map fun x => .int .u8 (x.toNat : Int)
theorem byteCells_length (l : List UInt8) : (qbd l).length = l.length := by simp [qbd]
theorem byteCells_one (l : List UInt8) : ∀ u ∈ qbd l,u.oneCell' = true := fun u hu => by
 obtain ⟨x,_,rfl⟩ := List.mem_map.1 hu; rfl
theorem owned_bytes {base : Nat} {e : TypeId} {n : Nat} (h : w.ownsRow base e 1 v n (qbd l)) : BytesIn (fun b => base ≤ b) w v l := by
 obtain ⟨hn,hv⟩ := h
 rw [byteCells_length,Nat.mul_one] at hn
 subst hn
 rcases hv with ⟨rfl,h0⟩ | ⟨g,cap,cur,rfl,hb,hg,hl,hm,hc,ht⟩
 ·have : l = [] := List.eq_nil_of_length_eq_zero h0
  subst this
  exact ⟨none,0,rfl,Nat.le_refl _,by unfold maxLen; omega,fun _ => rfl,fun i hi => by cases hi⟩
 ·refine ⟨_,cap,rfl,hl,hm,fun h => (by cases h),fun i hi => ⟨g,0,rfl,hb,?_⟩⟩
  refine qac hg ?_
  have : (qbd l)[i]? = some (.int .u8 (l[i].toNat : Int)) := by simp [qbd,hi]
  rw [← ht,List.getElem?_take] at this
  split at this
  ·simpa using this
  ·cases this
theorem SliceOf.news (h : BytesIn S w v l) {a : Option Addr} {n c : Nat} (hv : v = .slice a n c) {ad : Addr} (ha : a = some ad) : ∀ j u,(qbd l)[j]? = some u → w.cell? (ad.add j) = some u := by
 obtain ⟨a',c',hv',_,_,_,hx⟩ := h
 subst hv
 simp only [Value.slice.injEq] at hv'
 obtain ⟨rfl,-,-⟩ := hv'
 intro j u hu
 have hj : j < l.length := by have := (List.getElem?_eq_some_iff.1 hu).1; rwa [byteCells_length] at this
 obtain ⟨b,o,hb,_,hat⟩ := hx j hj
 have e : a = some ad := ha
 rw [hb] at e
 simp only [Option.some.injEq] at e
 subst e
 rw [qeg rfl]
 have hat' : w.cell? ⟨b,o + j * 1,none⟩ = some (.int .u8 (l[j].toNat : Int)) := hat
 rw [Nat.mul_one] at hat'
 rw [hat']
 simp [qbd,hj] at hu
 rw [hu]
end
section
variable {H : Type} {P : Program} {enc : TypeId × Value → H} {w : World} {base : Nat} {spare : Nat → Bool} {held : Bool}
end
end Go.Proofs.YtgajofkeidjbgaaGreatDoor
namespace Go.Proofs.YtgajofkeidjbgaaGreatDoor
set_option linter.unusedSimpArgs false
set_option linter.unusedVariables false
open Go Go.RowKit
theorem qcz (l m : List UInt8) : qah l ++ qah m = qah (l ++ m) := by
 apply ByteArray.ext
 apply Array.ext'
 simp [qah]
theorem owns_block {w : World} {B : Nat} {e : TypeId} {s n : Nat} {v : Value} {xs : List Value} (h : w.ownsRow B e s v n xs) : ∀ g,v.ownBlock = some g → B ≤ g ∧ g < w.heap.size := by
 intro g hg
 rcases h.2 with ⟨rfl,_⟩ | ⟨g',cap,cur,rfl,hb,hh,_⟩
 ·cases hg
 ·simp only [Value.ownBlock,Option.some.injEq] at hg
  subst hg
  exact ⟨hb,(Array.getElem?_eq_some_iff.1 hh).1⟩
theorem qcd {w w' : World} {B : Nat} {e : TypeId} {s n : Nat} {v : Value} {xs : List Value} (h : w.ownsRow B e s v n xs) (k : qag w w') : w'.ownsRow B e s v n xs :=
 ⟨h.1,h.2.imp id fun ⟨g,cp,cur,a1,a2,a3,a4⟩ => ⟨g,cp,cur,a1,a2,k.obj a3,a4⟩⟩
structure Put (e : TypeId) (w : World) (B : Nat) (v : Value) (l : List UInt8) (v' : Value) (w' : World) : Prop where
 own : w'.ownsRow B e 1 v' l.length (qbd l)
 keep : Keeps (fun b => some b ≠ v.ownBlock) w w'
 block : v'.ownBlock = v.ownBlock ∨ ∃ g,v'.ownBlock = some g ∧ w.heap.size ≤ g
theorem Put.refl {e : TypeId} {w : World} {B : Nat} {v : Value} {l : List UInt8} (h : w.ownsRow B e 1 v l.length (qbd l)) : Put e w B v l v w := ⟨h,Keeps.refl _ _,.inl rfl⟩
theorem Put.trans {e : TypeId} {w w1 w2 : World} {B : Nat} {v v1 v2 : Value} {l1 l2 : List UInt8} (h : Put e w B v l1 v1 w1) (k : Put e w1 B v1 l2 v2 w2) : Put e w B v l2 v2 w2 := by
 refine ⟨k.own,⟨k.keep.os.trans h.keep.os,k.keep.tape.trans h.keep.tape,k.keep.output.trans h.keep.output,Nat.le_trans h.keep.size k.keep.size,fun b hb hs => ?_⟩,?_⟩
 ·refine (k.keep.block b (Nat.lt_of_lt_of_le hb h.keep.size) fun he => ?_).trans (h.keep.block b hb hs)
  rcases h.block with h1 | ⟨g,h1,h2⟩
  ·exact hs (he.trans h1)
  ·rw [h1] at he
   injection he with he
   omega
 ·rcases k.block with k1 | ⟨g,k1,k2⟩
  ·rw [k1]; exact h.block
  ·exact .inr ⟨g,k1,Nat.le_trans h.keep.size k2⟩
theorem Put.ahead {e : TypeId} {w w0 w' : World} {B : Nat} {v v' : Value} {l : List UInt8} (k : qag w w0) (h : Put e w0 B v l v' w') : Put e w B v l v' w' :=
 ⟨h.own,⟨h.keep.os.trans k.os,h.keep.tape.trans k.tape,h.keep.output.trans k.output,Nat.le_trans k.size h.keep.size,fun b hb hs => (h.keep.block b (Nat.lt_of_lt_of_le hb k.size) hs).trans (k.block b hb)⟩,
  h.block.imp id fun ⟨g,a,b⟩ => ⟨g,a,Nat.le_trans k.size b⟩⟩
theorem Put.behind {e : TypeId} {w w1 w' : World} {B : Nat} {v v' : Value} {l : List UInt8} (h : Put e w B v l v' w1) (k : qag w1 w') : Put e w B v l v' w' :=
 ⟨qcd h.own k,h.keep.more k,h.block⟩
theorem Put.of_appended {e : TypeId} {w w' : World} {B n : Nat} {v v' : Value} {xs : List Value} {l : List UInt8} (h : Appended w B e 1 v n xs v' w') (hn : n = l.length) (hx : xs = qbd l) : Put e w B v l v' w' := by
 subst hn hx
 exact ⟨h.own,Keeps.of_grown h.grown,h.block⟩
theorem Put.later {e : TypeId} {w w' : World} {B : Nat} {v v' : Value} {l : List UInt8} (h : Put e w B v l v' w') (hv : v.ownBlock = none) : qag w w' :=
 Keeps.later (h.keep.mono fun b _ _ => by rw [hv]; simp)
theorem Put.base {e : TypeId} {w w' : World} {B : Nat} {v v' : Value} {l : List UInt8} (h : Put e w B v l v' w') (hv : v.ownBlock = none) : w'.ownsRow w.heap.size e 1 v' l.length (qbd l) := by
 refine ⟨h.own.1,h.own.2.imp id fun ⟨g,cp,cur,a1,a2,a3,a4⟩ => ⟨g,cp,cur,a1,?_,a3,a4⟩⟩
 rcases h.block with h1 | ⟨g',h1,h2⟩
 ·rw [hv,a1] at h1; cases h1
 ·rw [a1] at h1
  simp only [Value.ownBlock,Option.some.injEq] at h1
  omega
theorem Put.other {e : TypeId} {w w' : World} {B : Nat} {v v' : Value} {l : List UInt8} (h : Put e w B v l v' w') {b : Nat} (hb : b < w.heap.size) (hs : some b ≠ v.ownBlock) : some b ≠ v'.ownBlock := by
 rcases h.block with h1 | ⟨g,h1,h2⟩
 ·rw [h1]; exact hs
 ·rw [h1]; intro e; injection e with e; omega
section
variable {P : Program} {w : World}
end
end Go.Proofs.YtgajofkeidjbgaaGreatDoor
