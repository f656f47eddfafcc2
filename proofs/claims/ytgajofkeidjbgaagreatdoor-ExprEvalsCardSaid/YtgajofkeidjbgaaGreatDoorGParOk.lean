/-
  PROVED HERE: a part of the proof of ExprEvals: ParOk, ParPrim.
-/
import Derived.Test.YtgajofkeidjbgaaGreatDoorGExprKind
import Derived.Test.YtgajofkeidjbgaaGreatDoorGLexPlain
import Derived.Test.YtgajofkeidjbgaaGreatDoorShort
import Derived.Test.YtgajofkeidjbgaaGreatDoorGParCall
import Derived.Test.YtgajofkeidjbgaaGreatDoorGRefCall
import Derived.Test.YtgajofkeidjbgaaGreatDoorGRefP3
namespace Go.Proofs.YtgajofkeidjbgaaGreatDoor
set_option linter.unusedSimpArgs false
set_option linter.unusedVariables false
open Go Go.RowKit
theorem itoa_head {n : Int} {c : UInt8} {r : List UInt8} (h : Lib.itoa n = c :: r) : c = 45 ∨ (48 ≤ c.toNat ∧ c.toNat ≤ 57) := by
 unfold Lib.itoa at h
 split at h
 ·left; cases h; rfl
 ·right
  exact dec_digits n.toNat c (by rw [h]; simp)
theorem read_first {c : UInt8} {r : List UInt8} {v : Val} (h : qci (c :: r) = some v) : qbt v = true ∧ qdr v ∧ (qde c = true → v.k = 1) ∧ (c = 39 → v.k = 3) := by
 unfold qci at h
 split at h
 ·rename_i hs
  have hv : qdl (c :: r) = v := Option.some.inj h
  have ho := guess_ok (c :: r)
  rw [hv] at hs ho
  have hval := show_ne (x := v) (by rw [hs]; simp)
  refine ⟨hval,ho,?_⟩
  rcases valid_cases hval with rfl | ⟨hk,-⟩ | rfl | rfl | ⟨hx,-⟩
  ·have : qbs qaa = [110,117,108,108] := by decide +kernel
   rw [this] at hs; cases hs
   exact ⟨fun h => absurd h (by decide),fun h => absurd h (by decide)⟩
  ·rw [show_int hval hk] at hs
   refine ⟨fun _ => hk,fun hc => ?_⟩
   rcases itoa_head hs with h' | h'
   ·rw [hc] at h'; exact absurd h' (by decide)
   ·rw [hc] at h'; exact absurd h' (by decide)
  ·have : qbs ⟨2,0,ByteArray.empty⟩ = [102,97,108,115,101] := by decide +kernel
   rw [this] at hs; cases hs
   exact ⟨fun h => absurd h (by decide),fun h => absurd h (by decide)⟩
  ·have : qbs ⟨2,1,ByteArray.empty⟩ = [116,114,117,101] := by decide +kernel
   rw [this] at hs; cases hs
   exact ⟨fun h => absurd h (by decide),fun h => absurd h (by decide)⟩
  ·have hk : v.k = 3 := by rw [hx]; rfl
   rw [show_text hval hk] at hs
   unfold qdo at hs
   cases hs
   exact ⟨fun h => absurd h (by decide),fun _ => hk⟩
 ·cases h
theorem read_tok {t : Tok} (ht : TokOk t) (hk : t.k = 48 ∨ t.k = 39) {v : Val} (h : qci t.t = some v) : qbt v = true ∧ qdr v ∧ (v.k = 1 ∨ v.k = 2 ∨ v.k = 3) ∧ (t.k = 48 → v.k = 1) := by
 rcases ht with ⟨h1,_⟩ | ⟨h1,_⟩ | ⟨h1,c,r,h2,h3⟩ | ⟨h1,r,h2⟩ | ⟨h1,_⟩
 ·rcases hk with e | e <;> rw [h1] at e <;> exact absurd e (by decide)
 ·rcases hk with e | e <;> rw [h1] at e <;> exact absurd e (by decide)
 ·rw [h2] at h
  have := read_first h
  exact ⟨this.1,this.2.1,.inl (this.2.2.1 h3),fun _ => this.2.2.1 h3⟩
 ·rw [h2] at h
  have := read_first h
  exact ⟨this.1,this.2.1,.inr (.inr (this.2.2.2 rfl)),fun e => by rw [h1] at e; exact absurd e (by decide)⟩
 ·rcases hk with e | e <;> rw [h1] at e <;> exact absurd e (by decide)
theorem exs_add : ∀ {l : List Ex} {x : Ex},qel l → qef x → qel (l ++ [x])
 | [],_,_,hx => by show qel [_]; unfold qel; exact ⟨hx,by unfold qel; trivial⟩
 | y :: l,x,h,hx => by
   unfold qel at h
   show qel (y :: (l ++ [x]))
   unfold qel
   exact ⟨h.1,exs_add h.2 hx⟩
def JobOk : Job → Prop
 | .loop _ x => qef x
 | .cloop _ _ _ x => qef x
 | .args _ _ acc => qel acc
 | _ => True
theorem lvl_op {L : Nat} {t : Tok} (h : (qaw L).any (isW t) = true) : t.t ∈ opsW := by
 rw [any_isW] at h
 simp only [Bool.and_eq_true,decide_eq_true_eq] at h
 have h1 := h.1
 revert h1
 match L with
 | 0 => exact fun h => by simp only [qaw,List.mem_cons,List.not_mem_nil,or_false] at h; simp [opsW,h]
 | 1 => exact fun h => by simp only [qaw,List.mem_cons,List.not_mem_nil,or_false] at h; simp [opsW,h]
 | 2 => exact fun h => by simp only [qaw,List.mem_cons,List.not_mem_nil,or_false] at h; rcases h with h | h | h | h | h | h <;> simp [opsW,h]
 | 3 => exact fun h => by simp only [qaw,List.mem_cons,List.not_mem_nil,or_false] at h; rcases h with h | h | h <;> simp [opsW,h]
 | 4 => exact fun h => by simp only [qaw,List.mem_cons,List.not_mem_nil,or_false] at h; rcases h with h | h | h <;> simp [opsW,h]
 | _ + 5 => exact fun h => by simp [qaw] at h
theorem qcq {l : List Tok} {t : Tok} (h : t ∈ l.tail) : t ∈ l := List.mem_of_mem_tail h
theorem hd_ok {l : List Tok} (h : ∀ t ∈ l,TokOk t) : TokOk (hdT l) ∨ hdT l = ⟨0,[],0⟩ := by
 cases l with
 | nil => exact .inr rfl
 | cons t r => exact .inl (h t (by simp))
theorem parse_ok : ∀ (n : Nat) (j : Job) (d : Nat) (l : List Tok) (x : Ex) (r : List Tok),(∀ t ∈ l,TokOk t) → qai true n j d l = some (.ok (x,r)) → JobOk j → qef x ∧ ∀ t ∈ r,t ∈ l
 | 0,_,_,_,_,_,_,h,_ => by unfold qai at h; cases h
 | n + 1,j,d,l,x,r,hl,h,hj => by
   have ih := parse_ok n
   have htl : ∀ t ∈ l.tail,TokOk t := fun t ht => hl t (qcq ht)
   unfold qai at h
   cases j with
   | climb q =>
     simp only at h
     split at h
     ·split at h
      ·cases h
      ·cases hc : qai true n (.climb 3) (d + 1) l.tail with
       | none => rw [hc] at h; cases h
       | some v =>
         rw [hc] at h
         cases v with
         | error e => cases h
         | ok y =>
           obtain ⟨y,r1⟩ := y
           have i1 := ih _ _ _ _ _ htl hc trivial
           have i2 := ih _ _ _ _ _ (fun t ht => htl t (i1.2 t ht)) h (show qef (.un false (hdT l).p y) by unfold qef; exact i1.1)
           exact ⟨i2.1,fun t ht => qcq (i1.2 t (i2.2 t ht))⟩
     ·cases hc : qai true n .un d l with
      | none => rw [hc] at h; cases h
      | some v =>
        rw [hc] at h
        cases v with
        | error e => cases h
        | ok y =>
          obtain ⟨y,r1⟩ := y
          have i1 := ih _ _ _ _ _ hl hc trivial
          have i2 := ih _ _ _ _ _ (fun t ht => hl t (i1.2 t ht)) h (show qef y from i1.1)
          exact ⟨i2.1,fun t ht => i1.2 t (i2.2 t ht)⟩
   | cloop q m f y0 =>
     simp only at h
     split at h
     ·cases h; exact ⟨hj,fun t ht => ht⟩
     ·rename_i hh
      have hop : (hdT l).t ∈ opsW := by
       have hp : powT (hdT l) ≠ 0 := fun e => hh (.inl e)
       have hv := powT_vals (hdT l)
       have : ∃ L,L < 5 ∧ powT (hdT l) = powL L := by
        rcases hv with h | h | h | h | h | h
        ·exact absurd h hp
        ·exact ⟨0,by omega,h⟩
        ·exact ⟨1,by omega,h⟩
        ·exact ⟨2,by omega,h⟩
        ·exact ⟨3,by omega,h⟩
        ·exact ⟨4,by omega,h⟩
       obtain ⟨L,hL,e⟩ := this
       exact lvl_op ((lvl_pow _ hL).2 e)
      cases hc : qai true n (.climb (powT (hdT l) + 1)) d l.tail with
      | none => rw [hc] at h; cases h
      | some v =>
        rw [hc] at h
        cases v with
        | error e => cases h
        | ok y =>
          obtain ⟨y,r1⟩ := y
          have i1 := ih _ _ _ _ _ htl hc trivial
          have i2 := ih _ _ _ _ _ (fun t ht => htl t (i1.2 t ht)) h (show qef (.bin (hdT l).t (hdT l).p y0 y) by unfold qef; exact ⟨hop,hj,i1.1⟩)
          exact ⟨i2.1,fun t ht => qcq (i1.2 t (i2.2 t ht))⟩
   | bin L =>
     simp only at h
     split at h
     ·exact ih _ _ _ _ _ hl h trivial
     ·split at h
      ·split at h
       ·cases h
       ·cases hc : qai true n (.bin 2) (d + 1) l.tail with
        | none => rw [hc] at h; cases h
        | some v =>
          rw [hc] at h
          cases v with
          | error e => cases h
          | ok y =>
            obtain ⟨y,r1⟩ := y
            have i1 := ih _ _ _ _ _ htl hc trivial
            cases h
            exact ⟨by unfold qef; exact i1.1,fun t ht => qcq (i1.2 t ht)⟩
      ·cases hc : qai true n (.bin (L + 1)) d l with
       | none => rw [hc] at h; cases h
       | some v =>
         rw [hc] at h
         cases v with
         | error e => cases h
         | ok y =>
           obtain ⟨y,r1⟩ := y
           have i1 := ih _ _ _ _ _ hl hc trivial
           have i2 := ih _ _ _ _ _ (fun t ht => hl t (i1.2 t ht)) h (show qef y from i1.1)
           exact ⟨i2.1,fun t ht => i1.2 t (i2.2 t ht)⟩
   | loop L y0 =>
     simp only at h
     split at h
     ·rename_i hop
      cases hc : qai true n (.bin (L + 1)) d l.tail with
      | none => rw [hc] at h; cases h
      | some v =>
        rw [hc] at h
        cases v with
        | error e => cases h
        | ok y =>
          obtain ⟨y,r1⟩ := y
          have i1 := ih _ _ _ _ _ htl hc trivial
          have hx : qef (.bin (hdT l).t (hdT l).p y0 y) := by unfold qef; exact ⟨lvl_op hop,hj,i1.1⟩
          change (if L = 2 then PR.ok (Ex.bin (hdT l).t (hdT l).p y0 y,r1) else qai true n (.loop L (.bin (hdT l).t (hdT l).p y0 y)) d r1) = some (.ok (x,r)) at h
          split at h
          ·cases h
           exact ⟨hx,fun t ht => qcq (i1.2 t ht)⟩
          ·have i2 := ih _ _ _ _ _ (fun t ht => htl t (i1.2 t ht)) h (show JobOk (.loop L (.bin (hdT l).t (hdT l).p y0 y)) from hx)
           exact ⟨i2.1,fun t ht => qcq (i1.2 t (i2.2 t ht))⟩
     ·cases h; exact ⟨hj,fun t ht => ht⟩
   | args f p acc =>
     simp only at h
     split at h
     ·cases h
      exact ⟨by unfold qef; exact hj,fun t ht => qcq ht⟩
     ·split at h
      ·cases h
      ·cases hc : qai true n (topJ true) d (if acc = [] then l else l.tail) with
       | none => rw [hc] at h; cases h
       | some v =>
         rw [hc] at h
         cases v with
         | error e => cases h
         | ok y =>
           obtain ⟨y,r1⟩ := y
           have hsub : ∀ t ∈ (if acc = [] then l else l.tail),t ∈ l := fun t ht => by
            split at ht
            ·exact ht
            ·exact qcq ht
           have i1 := ih _ _ _ _ _ (fun t ht => hl t (hsub t ht)) hc trivial
           have i2 := ih _ _ _ _ _ (fun t ht => hl t (hsub t (i1.2 t ht))) h (show JobOk (.args f p (acc ++ [y])) from exs_add hj i1.1)
           exact ⟨i2.1,fun t ht => hsub t (i1.2 t (i2.2 t ht))⟩
   | un =>
     simp only at h
     split at h
     ·split at h
      ·cases h
      ·cases hc : qai true n .un (d + 1) l.tail with
       | none => rw [hc] at h; cases h
       | some v =>
         rw [hc] at h
         cases v with
         | error e => cases h
         | ok y =>
           obtain ⟨y,r1⟩ := y
           have i1 := ih _ _ _ _ _ htl hc trivial
           cases h
           exact ⟨by unfold qef; exact i1.1,fun t ht => qcq (i1.2 t ht)⟩
     ·split at h
      ·split at h
       ·cases h
       ·cases hc : qai true n (topJ true) (d + 1) l.tail with
        | none => rw [hc] at h; cases h
        | some v =>
          rw [hc] at h
          cases v with
          | error e => cases h
          | ok y =>
            obtain ⟨y,r1⟩ := y
            have i1 := ih _ _ _ _ _ htl hc trivial
            change (if isW (hdT r1) qbl = true then PR.ok (y,r1.tail) else PR.err 1 (hdT r1).p) = some (.ok (x,r)) at h
            split at h
            ·cases h
             exact ⟨i1.1,fun t ht => qcq (i1.2 t (qcq ht))⟩
            ·cases h
      ·split at h
       ·rename_i hk
        rcases hd_ok hl with ho | ho
        ·cases hr : qci (hdT l).t with
         | none => rw [hr] at h; cases h
         | some v =>
           rw [hr] at h
           cases h
           have := read_tok ho hk hr
           exact ⟨by unfold qef; exact ⟨this.1,this.2.1,this.2.2.1⟩,fun t ht => qcq ht⟩
        ·rw [ho] at hk
         rcases hk with e | e <;> exact absurd e (by decide)
       ·split at h
        ·cases h
         refine ⟨?_,fun t ht => qcq ht⟩
         unfold qef
         split
         ·exact ⟨by decide +kernel,by unfold qdr; simp,.inr (.inl rfl)⟩
         ·exact ⟨by decide +kernel,by unfold qdr; simp,.inr (.inl rfl)⟩
        ·split at h
         ·split at h
          ·cases h
          ·split at h
           ·split at h
            ·cases h
            ·have i1 := ih _ _ _ _ _ (fun t ht => htl t (qcq ht)) h (show JobOk (.args (hdT l).t (hdT l).p []) by show qel []; unfold qel; trivial)
             exact ⟨i1.1,fun t ht => qcq (qcq (i1.2 t ht))⟩
           ·cases h
            exact ⟨by unfold qef; trivial,fun t ht => qcq ht⟩
         ·cases h
end Go.Proofs.YtgajofkeidjbgaaGreatDoor
namespace Go.Proofs.YtgajofkeidjbgaaGreatDoor
set_option linter.unusedSimpArgs false
set_option linter.unusedVariables false
set_option maxHeartbeats 4000000
set_option maxRecDepth 100000
open Go.RowKit
attribute [local go_sem high] tok_f0 tok_f1 tok_f2
def EnvP (P : Nat) (w : World) : Prop := ∃ w0,qag w0 w ∧ w0.heap.size ≤ P ∧ qea w0 ∧ PowTab w0
theorem EnvP.kept {P : Nat} {w w1 : World} (h : EnvP P w) (k : Keeps (fun b => b ≠ P) w w1) : EnvP P w1 := by
 obtain ⟨w0,h1,h2,h3,h4⟩ := h
 refine ⟨w0,?_,h2,h3,h4⟩
 exact ((h1.keeps (fun b => b < w0.heap.size)).trans (k.mono fun b _ hb => by omega)).mono (fun b hb _ => hb) |>.later
theorem EnvP.env {P : Nat} {w : World} (h : EnvP P w) : qea w ∧ PowTab w := by
 obtain ⟨w0,h1,h2,h3,h4⟩ := h
 exact ⟨h3.later h1,h4.later h1⟩
theorem POut.longer {w : World} {P d : Nat} {l l' : List Tok} {R : Res → Prop} {e : Ending} {w' : World} (h : POut w P d l R e w') (hl : l.length ≤ l'.length) : POut w P d l' R e w' := by
 obtain ⟨k,r,hr,hm⟩ := h
 refine ⟨k,r,hr,?_⟩
 cases r with
 | error f => exact hm
 | ok x =>
   obtain ⟨v,h1,h2,h3,h4,h5⟩ := hm
   exact ⟨v,h1,h2,h3,h4,Nat.lt_of_lt_of_le h5 hl⟩
section
variable {P : Program} {w : World}
theorem oper_append_at {o : Oper} {a : Act} {K : Act → World → Prop} {Q : Exit → Act → World → Prop} (s x : Operand) (t : TypeId)
  (ho : o.op = .call { callee := .builtin .append,args := #[s,x],argTypes := #[t,t] })
  (e : TypeId) (size bytes : Nat) (ht : P.underlying t = some (.slice e)) (hI : ElemInfo P e size bytes)
  {base : Nat} {v : Value} {n : Nat} {xs : List Value} (hs : a.eval s = v) (hown : w.ownsRow base e size v n xs)
  {b : Addr} {m c : Nat} {news : List Value} (hx : a.eval x = .slice (some b) m c) (hnews : ∀ j u,news[j]? = some u → w.cell? (b.add j) = some u) (hl : news.length = m * size) (h1 : ∀ u ∈ news,u.oneCell' = true)
  (hbytes : (n + m) * bytes ≤ 140737488355328) (h63 : n + m ≤ maxLen) (hbase : base ≤ w.heap.size)
  (h : ∀ v' w',AppX w base e size v n m (xs ++ news) v' w' → K (a.put o.dst v') w') : Oper.wp P o a w K Q := by
 obtain ⟨i,z,hi,hz,h3,h4,h5,h6⟩ := hI.ex
 obtain ⟨v',w',hr,k2,k3,_⟩ := run_append_own (P := P) w base t o.type e i z size bytes ht hi hz h3 h4 h5 h6 v n xs hown b m c news hl hnews h1 h63 hbytes hbase
 have hb := append_x ht hi hz h3 h4 hown hl hnews h1 h63 hbytes hr k3
 unfold Oper.wp execOp
 simp only [ho,resolve,invoke,builtin,Sem.run_bind,Sem.run_pure,Result.andThen_ok,List.map_toArray,List.map_cons,List.map_nil,hs,hx,hr]
 exact h v' w' ⟨k2,hb⟩
end
theorem toksCell_ones (l : List Tok) : ∀ u ∈ qbb l,u.oneCell' = true := by
 intro u hu
 unfold qbb at hu
 obtain ⟨t,-,h⟩ := List.mem_flatMap.1 hu
 exact tok_ones t u h
theorem words_has (l : List UInt8) : Lib.containsS ((qes.map qah).take 6) (qah l) = decide (l ∈ qes) := by
 rw [Bool.eq_iff_iff,Lib.containsS_iff,decide_eq_true_eq,show (qes.map qah).take 6 = qes.map qah from rfl]
 constructor
 ·intro h
  obtain ⟨x,hx,he⟩ := List.mem_map.1 h
  have : x = l := by rw [← qan x,he,qan]
  rw [← this]; exact hx
 ·exact fun h => List.mem_map.2 ⟨l,h,rfl⟩
theorem toks_shape {P : Nat} {w : World} {v : Value} {l : List Tok} (h : ToksOf P w v l) (hl : l ≠ []) : ∃ g o c,v = .slice (some ⟨g,o,none⟩) l.length c := by
 obtain ⟨⟨a,c,hv,h1,h2,h3,he⟩,-⟩ := h
 obtain ⟨b,o,ha,-⟩ := he 0 (List.length_pos_iff.2 hl)
 exact ⟨b,o,c,by rw [hv,ha]⟩
theorem put_back {w w3 w4 w5 : World} {P d G : Nat} {t : Tok} {r : List Tok} {v v' : Value} (hPS : P < w.heap.size) (hG : w.heap.size ≤ G) (h3 : w3.heap[P]? = some (.cells #[v,.int .i64 (d : Int)] 99 (0,0)))
  (hL : qag w3 w4) (hA : AppX w4 w.heap.size 102 3 (.slice (some ⟨G,0,none⟩) 1 1) 1 r.length (t.cells ++ qbb r) v' w5) :
  w5.heap[P]? = some (.cells #[v,.int .i64 (d : Int)] 99 (0,0)) ∧ PAt (w5.setCell ⟨P,0,none⟩ v') P d (t :: r) := by
 have h5 := hA.keeps.obj (b := P) (fun e => by have : G = P := Option.some.inj e; omega) (hL.obj h3)
 have hv : v'.ownBlock ≠ some P := own_ne hA.own h5 (by decide)
 refine ⟨h5,v',qak (i := 0) h5 v',toks_of_own (B := w.heap.size) ?_ fun g hg e => hv (e ▸ hg)⟩
 have h := own_set (p := ⟨P,0,none⟩) hA.own hv v'
 have e : (t :: r).length = 1 + r.length := by simp; omega
 rw [e,show qbb (t :: r) = t.cells ++ qbb r by simp [qbb]]
 exact h
theorem own_built {w : World} {B G : Nat} {t : Tok} (hB : B ≤ G) (hG : w.heap[G]? = some (.cells #[.int .u8 (t.k.toNat : Int),.string (qah t.t),.int .i64 (t.p : Int)] 102 (0,0))) :
  w.ownsRow B 102 3 (.slice (some ⟨G,0,none⟩) 1 1) 1 t.cells :=
 ⟨rfl,.inr ⟨G,1,_,rfl,hB,hG,Nat.le_refl _,by unfold maxLen; omega,rfl,rfl⟩⟩
theorem lit_node {w w5 : World} {P B : Nat} {v : Val} (hB : B = w5.heap.size) (hk : Keeps (fun b => b ≠ P) w w5) (hP : P < w.heap.size) :
  qbh (fun b => b ≠ P ∧ w.heap.size ≤ b) (w5.alloc (.cells #[.int .i64 v.k,.int .i64 v.n,.string v.t] 163)) (.iface 161 (.pointer (some ⟨B,0,none⟩))) (.lit v) := by
 subst hB
 unfold qbh
 exact ⟨w5.heap.size,⟨by have := hk.size; omega,hk.size⟩,rfl,qap _ _⟩
theorem primary_any (P d : Nat) (t : Tok) (r : List Tok) (w : World) (h : PAt w P d (t :: r)) (hl : EndL (t :: r)) (hd : d ≤ 12) (hnm : ¬ isW t qbf = true) (hlen : r.length ≤ 1048576) (hE : EnvP P w)
  (IHB : ∀ d' l' w1,Keeps (fun b => b ≠ P) w w1 → l'.length ≤ r.length → d' ≤ 12 → PAt w1 P d' l' → EndL l' → Calls Tryz.prog 39 #[.pointer (some ⟨P,0,none⟩),.int .i64 0] w1 (POut w1 P d' l' (Par true (.bin 0) d' l'))) :
  Calls Tryz.prog 97 #[.pointer (some ⟨P,0,none⟩)] w (POut w P d (t :: r) (Par true .un d (t :: r))) := by
 have HIB := hid IHB; have HD := hid hd; have HLEN := hid hlen; have HNM := hid hnm; have HE := hid hE; have HEL := hid hl
 obtain ⟨t',r',htr,htok,hend⟩ := hl.cons
 obtain ⟨rfl,rfl⟩ := List.cons.inj htr
 have HTK := hid htok; have HEN := hid hend; have HP := hid h
 have hPs : P < w.heap.size := by obtain ⟨v,h1,-⟩ := h; exact (Array.getElem?_eq_some_iff.1 h1).1
 have HPS := hid hPs
 clear IHB hd hl htok hend h hPs hlen htr hnm hE
 go_enter Tryz.func97,Tryz.ntmps97
 go_wp2_with fail
 refine (words_any _).mono ?_
 rintro e w1 ⟨b,rfl,hstr,hL1⟩
 have HBP : Hid (b ≠ P) := hid (fun e => by
  obtain ⟨v,h1,-⟩ := HP.out
  have h2 := hL1.cell ((qag.alloc w (.cells #[.pointer (some ⟨P,0,none⟩)] 95)).cell (qac (i := 1) h1 rfl))
  have h3 := hstr 1 (by decide)
  have h4 := hstr 0 (by decide)
  subst e
  rw [show (0 + 1) = 1 from rfl,h2] at h3
  cases h3)
 have hX1 := hL1.cell (qac (i := 0) (qap w (.cells #[.pointer (some ⟨P,0,none⟩)] 95)) rfl)
 have HL1 := hid (qag.trans _ _ _ (qag.alloc w (.cells #[.pointer (some ⟨P,0,none⟩)] 95)) hL1)
 have HSTR := hid hstr
 clear hstr hL1
 go_wp2_with fail
 refine (take_any P d t r _ (HP.out.later HL1.out)).mono ?_
 rintro e w2 ⟨rfl,hk2,hp2⟩
 have HK2 := hid ((HL1.out.keeps (fun b => b ≠ P)).trans hk2)
 have hk2' := hk2
 have HP2 := hid hp2
 have hX2 : w2.cell? ⟨w.heap.size,0,none⟩ = some (.pointer (some ⟨P,0,none⟩)) := hk2.cell (p := ⟨w.heap.size,0,none⟩) (Nat.ne_of_gt HPS.out) hX1
 unfold Tok.v
 clear hk2 hp2 hX1
 go_upto_region 3 with (fail)
 obtain ⟨T,hT⟩ : ∃ T,T = w2.heap.size := ⟨_,rfl⟩
 obtain ⟨w3,hw3⟩ : ∃ w3,w3 = w2.alloc (.cells #[.int .u8 (t.k.toNat : Int),.string (qah t.t),.int .i64 (t.p : Int)] 102) := ⟨_,rfl⟩
 have hT3 : TokObj w3 T t.k t.t t.p := by rw [hw3,hT]; exact qap _ _
 have hL3 : qag w2 w3 := hw3 ▸ qag.alloc _ _
 have HTP : Hid (T ≠ P ∧ w.heap.size ≤ T) := hid ⟨by have := HPS.out; have := HK2.out.size; omega,by have := HK2.out.size; omega⟩
 rw [← hw3,← hT]
 have HP3 := hid (HP2.out.later hL3)
 have hX3 := hL3.cell hX2
 have HK3 := hid (HK2.out.trans (hL3.keeps _))
 have HS3 : Hid (∀ j,j < (qes.map qah).length → w3.cell? ⟨b,0 + j,none⟩ = some (.string ((qes.map qah).getD j ByteArray.empty))) := hid (fun j hj => by
  have hj' : j < qes.length := by simpa using hj
  have hb : b ≠ P := HBP.out
  have h := hL3.cell (hk2'.cell (p := ⟨b,0 + j,none⟩) hb (HSTR.out j hj'))
  rw [h,List.getD_eq_getElem?_getD,List.getElem?_map,List.getElem?_eq_getElem hj']
  rfl)
 have t0 : w3.cell? ⟨T,0,none⟩ = some (.int .u8 (t.k.toNat : Int)) := qac (i := 0) hT3 rfl
 have t1 : w3.cell? ⟨T,1,none⟩ = some (.string (qah t.t)) := qac (i := 1) hT3 rfl
 have t2 : w3.cell? ⟨T,2,none⟩ = some (.int .i64 (t.p : Int)) := qac (i := 2) hT3 rfl
 have hTl := qad t0
 have HT3 := hid hT3
 clear hw3 hT hL3 hX2 hT3 hk2'
 by_cases h48 : t.k = 48
 ·have e48 : ((t.k.toNat : Int) == 48) = true := (qdb t.k 48 (by omega)).trans (decide_eq_true h48)
  have H48 := hid h48
  clear h48
  go_wp2_with fail
  refine (vread_any t.t w3 (by have := HEL.out.short t (by simp); omega) (HE.out.kept HK3.out).env.1 (HE.out.kept HK3.out).env.2).mono ?_
  rintro e w4 ⟨hL4,he⟩
  have HL4 := hid hL4
  have t2' := hL4.cell t2
  have hTl4 := qad t2'
  have HK4 := hid (HK3.out.trans (hL4.keeps _))
  have HP4 := hid (HP3.out.later hL4)
  clear hL4 t0 t1 t2 hTl
  cases hr : qci t.t with
  | none =>
    rw [hr] at he
    replace he : e = .returned (.tuple #[.agg #[.int .i64 0,.int .i64 0,.string ⟨#[]⟩],.iface 29 (.int .i64 1)]) := he
    subst he
    have HR := hid hr
    clear hr
    go_wp2_with fail
    refine (qbn 1 t.p _).mono ?_
    rintro e w' ⟨hfl,rfl⟩
    unfold qbr at hfl
    subst hfl
    simp only [Exit.then,Exit.inBlock]
    exact ⟨rfl,HK4.out.trans ((qag.alloc _ _).keeps _),.error (1,t.p),par_lit_bad (.inl H48.out) HR.out,rfl⟩
  | some v =>
    rw [hr] at he
    replace he : e = .returned (.tuple #[.agg #[.int .i64 v.k,.int .i64 v.n,.string v.t],.nilIface]) := he
    subst he
    have HR := hid hr
    have hk1 : v.k = 1 := (read_tok HTK.out (.inl H48.out) hr).2.2.2 H48.out
    obtain ⟨vk,vn,vt⟩ := v
    simp only at hk1
    subst hk1
    clear hr
    go_wp2_with fail
    have hL5 := qag.alloc w4 (.cells #[.int .i64 1,.int .i64 vn,.string vt] 38)
    refine bodyPost_ret (results_tmp rfl _ _ _) rfl ⟨HK4.out.trans ((hL5.alloc' _).keeps _),.ok (.lit ⟨1,vn,vt⟩,r),par_lit (.inl H48.out) HR.out,.iface 161 (.pointer (some ⟨w4.heap.size + 1,0,none⟩)),rfl,lit_node (v := ⟨1,vn,vt⟩) (B := w4.heap.size + 1) (w5 := w4.alloc (.cells #[.int .i64 1,.int .i64 vn,.string vt] 38)) (by simp) (HK4.out.trans (hL5.keeps _)) HPS.out,HP4.out.later (hL5.alloc' _),HEN.out (by rw [H48.out]; decide),by simp⟩
 ·have e48 : ((t.k.toNat : Int) == 48) = false := (qdb t.k 48 (by omega)).trans (decide_eq_false h48)
  have N48 := hid h48
  clear h48
  by_cases h39 : t.k = 39
  ·have e39 : ((t.k.toNat : Int) == 39) = true := (qdb t.k 39 (by omega)).trans (decide_eq_true h39)
   have H39 := hid h39
   clear h39
   go_wp2_with fail
   refine (vread_any t.t w3 (by have := HEL.out.short t (by simp); omega) (HE.out.kept HK3.out).env.1 (HE.out.kept HK3.out).env.2).mono ?_
   rintro e w4 ⟨hL4,he⟩
   have HL4 := hid hL4
   have t2' := hL4.cell t2
   have hTl4 := qad t2'
   have HK4 := hid (HK3.out.trans (hL4.keeps _))
   have HP4 := hid (HP3.out.later hL4)
   clear hL4 t0 t1 t2 hTl
   cases hr : qci t.t with
   | none =>
     rw [hr] at he
     replace he : e = .returned (.tuple #[.agg #[.int .i64 0,.int .i64 0,.string ⟨#[]⟩],.iface 29 (.int .i64 1)]) := he
     subst he
     have HR := hid hr
     clear hr
     go_wp2_with fail
     refine (qbn 1 t.p _).mono ?_
     rintro e w' ⟨hfl,rfl⟩
     unfold qbr at hfl
     subst hfl
     simp only [Exit.then,Exit.inBlock]
     exact ⟨rfl,HK4.out.trans ((qag.alloc _ _).keeps _),.error (1,t.p),par_lit_bad (.inr H39.out) HR.out,rfl⟩
   | some v =>
     rw [hr] at he
     replace he : e = .returned (.tuple #[.agg #[.int .i64 v.k,.int .i64 v.n,.string v.t],.nilIface]) := he
     subst he
     have HR := hid hr
     obtain ⟨vk,vn,vt⟩ := v
     clear hr
     go_wp2_with fail
     have hL5 := qag.alloc w4 (.cells #[.int .i64 vk,.int .i64 vn,.string vt] 38)
     refine bodyPost_ret (results_tmp rfl _ _ _) rfl ⟨HK4.out.trans ((hL5.alloc' _).keeps _),.ok (.lit ⟨vk,vn,vt⟩,r),par_lit (.inr H39.out) HR.out,.iface 161 (.pointer (some ⟨w4.heap.size + 1,0,none⟩)),rfl,lit_node (v := ⟨vk,vn,vt⟩) (B := w4.heap.size + 1) (w5 := w4.alloc (.cells #[.int .i64 vk,.int .i64 vn,.string vt] 38)) (by simp) (HK4.out.trans (hL5.keeps _)) HPS.out,HP4.out.later (hL5.alloc' _),HEN.out (by rw [H39.out]; decide),by simp⟩
  ·have e39 : ((t.k.toNat : Int) == 39) = false := (qdb t.k 39 (by omega)).trans (decide_eq_false h39)
   have N39 : Hid (¬ (t.k = 48 ∨ t.k = 39)) := hid (fun h => h.elim N48.out h39)
   clear h39
   obtain ⟨bt,ht⟩ : ∃ b,decide (t.t = qed) = b := ⟨_,rfl⟩
   obtain ⟨bf,hf⟩ : ∃ b,decide (t.t = qdd) = b := ⟨_,rfl⟩
   have et : ((qah t.t).toList == [116,114,117,101]) = bt := by rw [qan,← ht,Bool.eq_iff_iff]; simp
   have ef : ((qah t.t).toList == [102,97,108,115,101]) = bf := by rw [qan,← hf,Bool.eq_iff_iff]; simp
   have HTT := hid ht; have HTF := hid hf
   clear ht hf
   by_cases hB : bt = true ∨ bf = true
   ·have HR : Hid (Par true .un d (t :: r) (.ok (.lit ⟨2,if bt = true then 1 else 0,ByteArray.empty⟩,r))) := hid (by
     have h := par_bool (d := d) (r := r) N39.out (hB.imp (fun h => of_decide_eq_true (HTT.out.trans h)) (fun h => of_decide_eq_true (HTF.out.trans h)))
     have e : (if t.t = qed then (1 : Int) else 0) = if bt = true then 1 else 0 := by
      rw [← HTT.out]
      simp
     rw [e] at h
     exact h)
    have HK0 : Hid (t.k ≠ 0) := hid (by
     intro h0
     rcases HTK.out with ⟨_,h2⟩ | ⟨h1,_⟩ | ⟨h1,_⟩ | ⟨h1,_⟩ | ⟨h1,_⟩
     ·rcases hB with h | h
      ·have := of_decide_eq_true (HTT.out.trans h); rw [h2] at this; cases this
      ·have := of_decide_eq_true (HTF.out.trans h); rw [h2] at this; cases this
     all_goals rw [h1] at h0; exact absurd h0 (by decide))
    cases bt with
    | true =>
      clear hB
      go_wp2_with fail
      refine (qbx true w3).mono ?_
      rintro e w4 ⟨he,hL4⟩
      replace he : e = .returned (.agg #[.int .i64 2,.int .i64 1,.string ⟨#[]⟩]) := he
      subst he
      have HL4 := hid hL4
      clear hL4
      go_wp2_with fail
      exact bodyPost_ret (results_tmp rfl _ _ _) rfl ⟨HK3.out.trans ((HL4.out.alloc' _).keeps _),.ok (.lit ⟨2,1,ByteArray.empty⟩,r),HR.out,.iface 161 (.pointer (some ⟨w4.heap.size,0,none⟩)),rfl,lit_node (v := ⟨2,1,ByteArray.empty⟩) rfl (HK3.out.trans (HL4.out.keeps _)) HPS.out,HP3.out.later (HL4.out.alloc' _),HEN.out HK0.out,by simp⟩
    | false =>
      obtain rfl : bf = true := hB.resolve_left (by simp)
      clear hB
      go_wp2_with fail
      refine (qbx false w3).mono ?_
      rintro e w4 ⟨he,hL4⟩
      replace he : e = .returned (.agg #[.int .i64 2,.int .i64 0,.string ⟨#[]⟩]) := he
      subst he
      have HL4 := hid hL4
      clear hL4
      go_wp2_with fail
      exact bodyPost_ret (results_tmp rfl _ _ _) rfl ⟨HK3.out.trans ((HL4.out.alloc' _).keeps _),.ok (.lit ⟨2,0,ByteArray.empty⟩,r),HR.out,.iface 161 (.pointer (some ⟨w4.heap.size,0,none⟩)),rfl,lit_node (v := ⟨2,0,ByteArray.empty⟩) rfl (HK3.out.trans (HL4.out.keeps _)) HPS.out,HP3.out.later (HL4.out.alloc' _),HEN.out HK0.out,by simp⟩
   ·obtain rfl : bt = false := by cases bt <;> simp_all
    obtain rfl : bf = false := by cases bf <;> simp_all
    have HNB : Hid (¬ (t.t = qed ∨ t.t = qdd)) := hid (fun h => h.elim (of_decide_eq_false HTT.out) (of_decide_eq_false HTF.out))
    clear hB
    by_cases h110 : t.k = 110
    ·have e110 : ((t.k.toNat : Int) == 110) = true := (qdb t.k 110 (by omega)).trans (decide_eq_true h110)
     have H110 := hid h110
     clear h110
     go_wp2_with fail
     refine (Tryz.slices_Contains_string b 0 6 6 (qes.map qah) (qah t.t) w3 (by decide) (by omega) HS3.out).mono ?_
     rintro e w' ⟨rfl,hw'⟩
     subst w'
     obtain ⟨bw,hbw⟩ : ∃ bw,Lib.containsS ((qes.map qah).take 6) (qah t.t) = bw := ⟨_,rfl⟩
     rw [hbw]
     have HBW : Hid (bw = decide (t.t ∈ qes)) := hid (by rw [← hbw]; exact words_has t.t)
     clear hbw
     cases bw with
     | true =>
       have e111 : ((t.k.toNat : Int) == 111) = false := (qdb t.k 111 (by omega)).trans (decide_eq_false (by rw [H110.out]; decide))
       go_wp2_with fail
       refine (qbn 1 t.p _).mono ?_
       rintro e w' ⟨hfl,rfl⟩
       unfold qbr at hfl
       subst hfl
       simp only [Exit.then,Exit.inBlock]
       refine ⟨rfl,HK3.out,.error (1,t.p),par_none ?_ ?_ N39.out HNB.out (fun h => h.2 (of_decide_eq_true HBW.out.symm)),rfl⟩
       ·rw [tok_sign HTK.out (by decide),H110.out]; simp
       ·rw [tok_sign HTK.out (by decide),H110.out]; simp
     | false =>
       have HNAME : Hid (IsName t) := hid ⟨H110.out,of_decide_eq_false HBW.out.symm⟩
       have hsz : (qah t.t).size = t.t.length := qax _
       by_cases hl : 12 < t.t.length
       ·have hl' : (12 : Int) < (qah t.t).size := by omega
        have HL := hid hl
        clear hl
        go_wp2_with fail
        refine (qbn 4 t.p _).mono ?_
        rintro e w' ⟨hfl,rfl⟩
        unfold qbr at hfl
        subst hfl
        simp only [Exit.then,Exit.inBlock]
        exact ⟨rfl,HK3.out,.error (4,t.p),par_long HNAME.out HTK.out HL.out,rfl⟩
       ·have hl' : ¬ (12 : Int) < (qah t.t).size := by omega
        have HL := hid hl
        clear hl hsz
        obtain ⟨t2',r2,rfl,htk2,hen2⟩ := (HEN.out (by rw [H110.out]; decide)).cons
        have HTK2 := hid htk2; have HEN2 := hid hen2
        have HER : Hid (EndL (t2' :: r2)) := hid (HEN.out (by rw [H110.out]; decide))
        clear htk2 hen2
        go_wp2_with fail
        refine (qeo P d t2' r2 _ HP3.out).mono ?_
        rintro e w4 ⟨rfl,hL4⟩
        have HL4 := hid hL4
        have HP4 := hid (HP3.out.later hL4)
        have hX4 := hL4.cell hX3
        have HT4 := hid (hL4.obj HT3.out)
        have s1 := hL4.cell t1
        have s2 := hL4.cell t2
        have hTl4 := qad s1
        have HK4 := hid (HK3.out.trans (hL4.keeps _))
        clear hL4 hX3 t0 t1 t2 hTl
        unfold Tok.v
        obtain ⟨bo,hbo⟩ : ∃ b,decide (t2'.t = qbq) = b := ⟨_,rfl⟩
        have eo : ((qah t2'.t).toList == [40]) = bo := by rw [qan,← hbo,Bool.eq_iff_iff]; simp
        have HBO : Hid (isW t2' qbq = bo) := hid ((tok_open HTK2.out).trans hbo)
        clear hbo
        cases bo with
        | true =>
          go_wp2_with fail
          refine ((nested_any 116 (enters_of Tryz.func116 (by kernel_rfl) rfl) #[.pointer (some ⟨w.heap.size,0,none⟩),.pointer (some ⟨T,0,none⟩)] P d t2' r2 (t :: t2' :: r2) (Par true (.args t.t t.p []) (d + 1) r2) w4 HP4.out HD.out (fun hd1 w5 hk5 hp5 =>
           prim1_any P w.heap.size T (d + 1) t (t :: t2' :: r2) _ w5 (hk5.cell (p := ⟨w.heap.size,0,none⟩) (Nat.ne_of_gt HPS.out) hX4) (hk5.obj HTP.out.1 HT4.out)
            ((call_any P (d + 1) t t2' r2 w5 hp5 HER.out HBO.out hd1 (by have := HLEN.out; simp only [List.length_cons] at this; omega) (fun l' w6 hk6 hl6 hp6 he6 => HIB.out (d + 1) l' w6 ((HK4.out.trans hk5).trans hk6) (by simp only [List.length_cons]; omega) hd1 hp6 he6)).mono fun e w' h => h.longer (by simp)))).mono fun e w' h => (h.mono fun s hs => par_callq HNAME.out HTK.out HL.out HBO.out hs).before HK4.out).mono ?_
          rintro e w' ⟨k,rs,hr,hm⟩
          cases rs with
          | error f =>
            simp only at hm
            unfold qbr at hm
            subst hm
            exact ⟨rfl,k,.error f,hr,rfl⟩
          | ok x =>
            obtain ⟨v,rfl,hm⟩ := hm
            have HK := hid k; have HR := hid hr; have HM := hid hm
            clear k hr hm
            go_wp2_with fail
            exact bodyPost_ret (results_tmp rfl _ _ _) rfl ⟨HK.out,.ok x,HR.out,v,rfl,HM.out⟩
        | false =>
          go_wp2_with fail
          have hL5 := qag.alloc w4 (.cells #[.string (qah t.t),.int .i64 (t.p : Int)] 167)
          refine bodyPost_ret (results_tmp rfl _ _ _) rfl ⟨HK4.out.trans (hL5.keeps _),.ok (.name t.t t.p,t2' :: r2),par_name HNAME.out HTK.out HL.out HBO.out,.iface 164 (.pointer (some ⟨w4.heap.size,0,none⟩)),rfl,?_,HP4.out.later hL5,HER.out,by simp⟩
          unfold qbh
          exact ⟨w4.heap.size,⟨by have := HPS.out; have := HK4.out.size; omega,HK4.out.size⟩,rfl,qap _ _⟩
    ·have e110 : ((t.k.toNat : Int) == 110) = false := (qdb t.k 110 (by omega)).trans (decide_eq_false h110)
     have N110 := hid h110
     clear h110
     obtain ⟨bo,hbo⟩ : ∃ b,decide (t.t = qbq) = b := ⟨_,rfl⟩
     obtain ⟨bk,hbk⟩ : ∃ b,decide (t.k = 111) = b := ⟨_,rfl⟩
     have eo : ((qah t.t).toList == [40]) = bo := by rw [qan,← hbo,Bool.eq_iff_iff]; simp
     have ek : ((t.k.toNat : Int) == 111) = bk := (qdb t.k 111 (by omega)).trans hbk
     have HW : Hid (isW t qbq = (bo && bk)) := hid (by rw [tok_sign HTK.out (by decide),hbo,hbk])
     have HBK := hid hbk
     clear hbo hbk
     by_cases hop : bo = true ∧ bk = true
     ·obtain ⟨rfl,rfl⟩ := hop
      have HER : Hid (EndL r) := hid (HEN.out (by rw [of_decide_eq_true HBK.out]; decide))
      go_upto_region 22 with (fail)
      have HOP : Hid (isW t qbq = true) := hid (by rw [HW.out]; rfl)
      obtain ⟨v,hP3,hto⟩ := HP3.out
      obtain ⟨g,o,c,rfl⟩ := toks_shape hto HER.out.2.1
      have HTO := hid hto
      have HP30 := hid hP3
      have p3 : w3.cell? ⟨P,0,none⟩ = some (.slice (some ⟨g,o,none⟩) r.length c) := qac (i := 0) hP3 rfl
      clear hto hP3 e48 N48 e39 et ef e110 N110 eo ek
      refine wp_region_k 10 (fun wz => wz.cell? ⟨w.heap.size,0,none⟩ = some (.pointer (some ⟨P,0,none⟩)) ∧ wz.cell? ⟨P,0,none⟩ = some (.slice (some ⟨g,o,none⟩) r.length c) ∧ wz.cell? ⟨T,0,none⟩ = some (.int .u8 (t.k.toNat : Int)) ∧ wz.cell? ⟨T,1,none⟩ = some (.string (qah t.t)) ∧ wz.cell? ⟨T,2,none⟩ = some (.int .i64 (t.p : Int))) (by kernel_rfl)
       ⟨(qag.drew w3).cell hX3,(qag.drew w3).cell p3,(qag.drew w3).cell t0,(qag.drew w3).cell t1,(qag.drew w3).cell t2⟩ (fun hS => ?_)
      clear hX3 p3 t0 t1 t2 hTl
      refine qcg (i := 0) (v := .pointer (some ⟨P,0,none⟩)) rfl (by kernel_rfl) (by kernel_rfl) (by kernel_rfl) (by kernel_rfl) (fun _ _ _ h => h) (Or.inl ⟨by rfl,?_⟩) hS ?_
      ·intro w hS
       obtain ⟨h0,-⟩ := hS
       go_simp
      refine qcg (i := 1) (v := .agg #[.int .u8 (t.k.toNat : Int),.string (qah t.t),.int .i64 (t.p : Int)]) rfl (by kernel_rfl) (by kernel_rfl) (by kernel_rfl) (by kernel_rfl) (fun _ _ _ h => h) (Or.inl ⟨by rfl,?_⟩) hS ?_
      ·intro w hS
       obtain ⟨-,-,h0,h1,h2⟩ := hS
       go_simp
      refine qcg (i := 3) (v := .pointer (some ⟨P,0,none⟩)) rfl (by kernel_rfl) (by kernel_rfl) (by kernel_rfl) (by kernel_rfl) (fun _ _ _ h => h) (Or.inl ⟨by rfl,?_⟩) hS ?_
      ·intro w hS
       obtain ⟨h0,-⟩ := hS
       go_simp
      try simp only [Act.put,sib,List.set]
      refine qcg (i := 4) (v := .pointer (some ⟨P,0,none⟩)) rfl (by kernel_rfl) (by kernel_rfl) (by kernel_rfl) (by kernel_rfl) (fun _ _ _ h => h) (Or.inl ⟨by rfl,?_⟩) hS ?_
      ·intro w hS
       obtain ⟨-,h0,-⟩ := hS
       have := qad h0
       go_simp
      try simp only [Act.put,sib,List.set]
      refine qcg (i := 5) (v := .pointer (some ⟨P,0,none⟩)) rfl (by kernel_rfl) (by kernel_rfl) (by kernel_rfl) (by kernel_rfl) (fun _ _ _ h => h) (Or.inl ⟨by rfl,?_⟩) hS ?_
      ·intro w hS
       obtain ⟨-,h0,-⟩ := hS
       have := qad h0
       go_simp
      try simp only [Act.put,sib,List.set]
      refine qcg (i := 6) (v := .slice (some ⟨g,o,none⟩) r.length c) rfl (by kernel_rfl) (by kernel_rfl) (by kernel_rfl) (by kernel_rfl) (fun _ _ _ h => h) (Or.inl ⟨by rfl,?_⟩) hS ?_
      ·intro w hS
       obtain ⟨-,h0,-⟩ := hS
       go_simp
      try simp only [Act.put,sib,List.set]
      refine qbz (rs := [2]) (by kernel_rfl) (by simp) (AllReadyK.cons rfl (fun K hK => ?_) AllReadyK.nil)
      go_simp
      obtain ⟨G,hG⟩ : ∃ G,G = w3.heap.size := ⟨_,rfl⟩
      obtain ⟨w4,hw4⟩ : ∃ w4,w4 = (w3.alloc (.cells #[.int .u8 (t.k.toNat : Int),.string (qah t.t),.int .i64 (t.p : Int)] 102)).drew := ⟨_,rfl⟩
      have hG4 : w4.heap[G]? = some (.cells #[.int .u8 (t.k.toNat : Int),.string (qah t.t),.int .i64 (t.p : Int)] 102 (0,0)) := by rw [hw4,hG]; exact qap _ _
      have hL4 : qag w3 w4 := by rw [hw4]; exact qag.trans _ _ _ (qag.alloc _ _) (qag.drew _)
      have hLD : qag w3.drew w4 := by
       rw [hw4]
       exact qag.trans _ _ _ (qag.alloc w3.drew (.cells #[.int .u8 (t.k.toNat : Int),.string (qah t.t),.int .i64 (t.p : Int)] 102)) (qag.refl _)
      have HGB : Hid (w.heap.size ≤ G ∧ G ≠ T) := hid ⟨by have := HK3.out.size; omega,by have := qch HT3.out; omega⟩
      have HXG : Hid (w.heap.size ≠ G) := hid (by have h1 : w.heap.size < w3.heap.size := qad hS.1; omega)
      rw [← hw4,← hG]
      clear hw4 hG
      have hS4 : w4.cell? ⟨w.heap.size,0,none⟩ = some (.pointer (some ⟨P,0,none⟩)) ∧ w4.cell? ⟨P,0,none⟩ = some (.slice (some ⟨g,o,none⟩) r.length c) ∧ w4.cell? ⟨T,0,none⟩ = some (.int .u8 (t.k.toNat : Int)) ∧ w4.cell? ⟨T,1,none⟩ = some (.string (qah t.t)) ∧ w4.cell? ⟨T,2,none⟩ = some (.int .i64 (t.p : Int)) :=
       ⟨hLD.cell hS.1,hLD.cell hS.2.1,hLD.cell hS.2.2.1,hLD.cell hS.2.2.2.1,hLD.cell hS.2.2.2.2⟩
      clear hS
      refine hK.out _ _ hS4 (fun hS => ?_)
      clear hK K hLD
      try simp only [Act.put,sib,List.set]
      refine qbz (rs := [7]) (by kernel_rfl) (by simp) (AllReadyK.cons rfl (fun K hK => ?_) AllReadyK.nil)
      rw [if_pos (by rfl)]
      have HL4 := hid hL4
      have hsrc := toks_cells (HTO.out.kept (hL4.keeps fun _ => True) fun _ _ _ _ _ => trivial)
      refine oper_append_at _ _ 96 rfl 102 3 32 (by kernel_rfl) tokElem (base := w.heap.size) (v := .slice (some ⟨G,0,none⟩) 1 1) (n := 1) (xs := t.cells) (b := ⟨g,o,none⟩) (m := r.length) (c := c) (news := qbb r) rfl (own_built HGB.out.1 hG4) rfl hsrc.2.2 (tokCells_len r) (toksCell_ones r) (by have := HLEN.out; omega) (by have := HLEN.out; unfold maxLen; omega) (Nat.le_trans HK3.out.size hL4.size) ?_
      intro v' w5 hA5
      obtain ⟨hP5,hP6⟩ := put_back HPS.out HGB.out.1 HP30.out hL4 hA5
      have hk5 : Keeps (fun b => b ≠ G) w4 w5 := hA5.keeps.mono fun b _ hb e => hb (Option.some.inj e).symm
      have hXG : w.heap.size ≠ G := HXG.out
      have hS5 : w5.cell? ⟨w.heap.size,0,none⟩ = some (.pointer (some ⟨P,0,none⟩)) ∧ w5.cell? ⟨P,0,none⟩ = some (.slice (some ⟨g,o,none⟩) r.length c) ∧ w5.cell? ⟨T,0,none⟩ = some (.int .u8 (t.k.toNat : Int)) ∧ w5.cell? ⟨T,1,none⟩ = some (.string (qah t.t)) ∧ w5.cell? ⟨T,2,none⟩ = some (.int .i64 (t.p : Int)) :=
       ⟨hk5.cell (p := ⟨w.heap.size,0,none⟩) hXG hS.1,qac (i := 0) hP5 rfl,hk5.cell (p := ⟨T,0,none⟩) (Ne.symm HGB.out.2) hS.2.2.1,hk5.cell (p := ⟨T,1,none⟩) (Ne.symm HGB.out.2) hS.2.2.2.1,hk5.cell (p := ⟨T,2,none⟩) (Ne.symm HGB.out.2) hS.2.2.2.2⟩
      obtain ⟨ao',cap',hv'⟩ := own_sl hA5.own
      have HP6 := hid hP6
      have HK6 : Hid (Keeps (fun b => b ≠ P) w (w5.setCell ⟨P,0,none⟩ v')) := hid (((HK3.out.trans (hL4.keeps _)).under (hk5.mono fun b _ hb e => by have := HGB.out.1; omega)).trans ((Keeps.refl _ w5).setCell (p := ⟨P,0,none⟩) (.inl fun h => h rfl) _))
      have hX6 := ((Keeps.refl (fun b => b ≠ P) w5).setCell (p := ⟨P,0,none⟩) (.inl fun h => h rfl) v').cell (p := ⟨w.heap.size,0,none⟩) (Nat.ne_of_gt HPS.out) hS5.1
      have p5 := hS5.2.1
      have z5 := qaq (i := 0) hP5
      have l5 := qad p5
      clear hA5 hP6 hk5 hXG hsrc hL4 hP5 hG4 hS hS4
      refine hK.out _ _ hS5 (fun hS => ?_)
      clear hK K hS
      try simp only [Act.put,sib,List.set]
      refine qbz (rs := [8]) (by kernel_rfl) (by simp) (AllReadyK.cons rfl (fun K hK => ?_) AllReadyK.nil)
      go_simp
      refine hK.out _ _ hS5 (fun hS => ?_)
      clear hK K hS
      try simp only [Act.put,sib,List.set]
      refine qbz (rs := [9]) (by kernel_rfl) (by simp) (AllReadyK.cons rfl (fun K hK => ?_) AllReadyK.nil)
      go_simp
      refine hK.out _ _ hS5 (fun hS => ?_)
      clear hK K hS hS5
      try simp only [Act.put,sib,List.set]
      refine qbz (rs := [10]) (by kernel_rfl) (by simp) (AllReadyK.late rfl (by kernel_rfl) (fun K hK => ?_) AllReadyK.nil)
      subst hv'
      go_simp
      refine hK.out _ _ ?_
      clear hK K p5 z5 l5
      refine wpAnyK_done (by kernel_rfl) ?_ _
      try simp only [Act.put,sib,List.set]
      go_wp2_with fail
      refine ((nested_any 118 (enters_of Tryz.func118 (by kernel_rfl) rfl) #[.pointer (some ⟨w.heap.size,0,none⟩)] P d t r (t :: r) (fun s => ∃ s',Par true (.bin 0) (d + 1) r s' ∧ s = closeR s') _ HP6.out HD.out (fun hd1 w7 hk7 hp7 =>
       prim2_any P w.heap.size (d + 1) t r w7 (hk7.cell (p := ⟨w.heap.size,0,none⟩) (Nat.ne_of_gt HPS.out) hX6) (Nat.ne_of_gt HPS.out) hp7 (fun w8 hk8 hp8 => HIB.out (d + 1) r w8 ((HK6.out.trans hk7).trans hk8) (Nat.le_refl _) hd1 hp8 HER.out))).mono fun e w' h => (h.mono fun s hs => par_brackets HOP.out hs).before HK6.out).mono ?_
      rintro e w' ⟨k,rs,hr,hm⟩
      cases rs with
      | error f =>
        simp only at hm
        unfold qbr at hm
        subst hm
        exact ⟨rfl,k,.error f,hr,rfl⟩
      | ok x =>
        obtain ⟨v,rfl,hm⟩ := hm
        have HK := hid k; have HR := hid hr; have HM := hid hm
        clear k hr hm
        go_wp2_with fail
        exact bodyPost_ret (results_tmp rfl _ _ _) rfl ⟨HK.out,.ok x,HR.out,v,rfl,HM.out⟩
     ·have HNO : Hid (isW t qbq = false) := hid (by rw [HW.out]; cases bo <;> cases bk <;> simp_all)
      have HEND : Hid (Par true .un d (t :: r) (.error (1,t.p))) := hid (par_none (by have := HNM.out; simpa using this) HNO.out N39.out HNB.out (fun h => N110.out h.1))
      cases bk with
      | false =>
        clear hop
        go_wp2_with fail
        refine (qbn 1 t.p _).mono ?_
        rintro e w' ⟨hfl,rfl⟩
        unfold qbr at hfl
        subst hfl
        simp only [Exit.then,Exit.inBlock]
        exact ⟨rfl,HK3.out,.error (1,t.p),HEND.out,rfl⟩
      | true =>
        obtain rfl : bo = false := by cases bo <;> simp_all
        clear hop
        go_wp2_with fail
        refine (qbn 1 t.p _).mono ?_
        rintro e w' ⟨hfl,rfl⟩
        unfold qbr at hfl
        subst hfl
        simp only [Exit.then,Exit.inBlock]
        exact ⟨rfl,HK3.out,.error (1,t.p),HEND.out,rfl⟩
end Go.Proofs.YtgajofkeidjbgaaGreatDoor
