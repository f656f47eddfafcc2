/-
  PROVED HERE: a part of the proof of ExprEvals: RefCall, BlockCut, ValueRead.
-/
import Derived.Test.YtgajofkeidjbgaaGreatDoorGRefP5
import Derived.Test.YtgajofkeidjbgaaGreatDoorGRefE
import Derived.Test.YtgajofkeidjbgaaGreatDoorGParCall
import Derived.Test.YtgajofkeidjbgaaGreatDoorGApp
import Derived.Test.YtgajofkeidjbgaaGreatDoorGUnquote
namespace Go.Proofs.YtgajofkeidjbgaaGreatDoor
set_option linter.unusedSimpArgs false
set_option linter.unusedVariables false
open Go.RowKit
theorem es_add {S : Nat → Prop} {w : World} {v : Value} {x : Ex} (hx : EIn S w v x) : ∀ {vs : List Value} {l : List Ex},EsIn S w vs l → EsIn S w (vs ++ [v]) (l ++ [x])
 | [],[],_ => by show EsIn S w [v] [x]; unfold EsIn; exact ⟨hx,by unfold EsIn; trivial⟩
 | u :: vs,y :: l,h => by
   unfold EsIn at h
   show EsIn S w (u :: (vs ++ [v])) (y :: (l ++ [x]))
   unfold EsIn
   exact ⟨h.1,es_add hx h.2⟩
 | [],_ :: _,h => by unfold EsIn at h; exact h.elim
 | _ :: _,[],h => by unfold EsIn at h; exact h.elim
def callO (f : List UInt8) (p : Nat) (a : Value) : Obj := .cells #[.string (qah qcu),.int .i64 (p : Int),a,.int .i64 0,.int .i64 0,.string ⟨#[]⟩,.string (qah f)] 77 (0,0)
theorem kids_own {S : Nat → Prop} {w : World} {B : Nat} {e : TypeId} {a : Value} {us : List Value} (h : w.ownsRow B e 1 a us.length us) (hS : ∀ g,a.ownBlock = some g → S g) : KidsIn S w a us := by
 rcases h.2 with ⟨rfl,h0⟩ | ⟨g,cap,cur,rfl,hb,hg,hn,hm,hs,ht⟩
 ·obtain rfl := List.eq_nil_of_length_eq_zero h0
  exact ⟨none,0,rfl,by simp,by decide,fun _ => rfl,fun i hi => absurd hi (by simp)⟩
 ·refine ⟨_,cap,rfl,hn,hm,by simp,fun i hi => ⟨g,0,rfl,hS g rfl,?_⟩⟩
  have := h.cells (g := g) rfl i us[i] (List.getElem?_eq_getElem hi)
  rw [qeg rfl] at this
  simpa using this
theorem rcall_tree {w wx : World} {R C : Nat} {f : List UInt8} {p : Nat} {acc : List Ex} {us : List Value} {a : Value} (hRw : R < w.heap.size) (hC : w.heap.size ≤ C) (hown : wx.ownsRow w.heap.size 26 1 a us.length us) (ho : wx.heap[C]? = some (callO f p a))
  (hes : EsIn (fun b => b ≠ R ∧ w.heap.size ≤ b ∧ b ≠ C ∧ a.ownBlock ≠ some b) wx us acc) : EIn (fun b => b ≠ R ∧ w.heap.size ≤ b) wx (.pointer (some ⟨C,0,none⟩)) (.call f p acc) := by
 unfold EIn
 refine ⟨C,a,us,_,_,_,⟨by omega,hC⟩,rfl,ho,kids_own hown fun g hg => ?_,EsIn.mono (fun b _ h => ⟨h.1,h.2.1⟩) _ _ hes⟩
 have := (hown.lt g hg).1
 exact ⟨by omega,this⟩
theorem rcall_add {w w6 w7 : World} {R C : Nat} {K : Row3} {L : List Tok} {f : List UInt8} {p j d bad : Nat} {e : Int} {us : List Value} {a v' xv : Value} (hRw : R < w.heap.size) (hCw : w.heap.size ≤ C)
  (hown : w6.ownsRow w.heap.size 26 1 a us.length us) (hC : w6.heap[C]? = some (callO f p a)) (hr : RAt w6 R K L j d e bad) (hk : Keeps (fun b => b ≠ R) w w6)
  (hA : AppX w6 w.heap.size 26 1 a us.length 1 (us ++ [xv]) v' w7) :
  w7.heap[C]? = some (callO f p a) ∧ (w7.setCell ⟨C,2,none⟩ v').heap[C]? = some (callO f p v') ∧ (w7.setCell ⟨C,2,none⟩ v').ownsRow w.heap.size 26 1 v' (us ++ [xv]).length (us ++ [xv]) ∧
  RAt (w7.setCell ⟨C,2,none⟩ v') R K L j d e bad ∧ Keeps (fun b => b ≠ R) w (w7.setCell ⟨C,2,none⟩ v') ∧
  (∀ (acc : List Ex) (x : Ex),EsIn (fun b => b ≠ R ∧ w.heap.size ≤ b ∧ b ≠ C ∧ a.ownBlock ≠ some b) w6 us acc → EIn (fun b => b ≠ R ∧ w.heap.size ≤ b ∧ b ≠ C ∧ a.ownBlock ≠ some b) w6 xv x →
   EsIn (fun b => b ≠ R ∧ w.heap.size ≤ b ∧ b ≠ C ∧ v'.ownBlock ≠ some b) (w7.setCell ⟨C,2,none⟩ v') (us ++ [xv]) (acc ++ [x])) := by
 have hk7 := hA.keeps
 unfold callO at hC ⊢
 have hCa : a.ownBlock ≠ some C := own_ne hown hC (by decide)
 have hC7 := hk7.obj hCa hC
 have hCv : v'.ownBlock ≠ some C := own_ne hA.own hC7 (by decide)
 have hk8 : Keeps (fun b => b ≠ C) w7 (w7.setCell ⟨C,2,none⟩ v') := (Keeps.refl _ w7).setCell (p := ⟨C,2,none⟩) (.inl fun h => h rfl) _
 have hRa : a.ownBlock ≠ some R := fun e => by have := (hown.lt R e).1; omega
 have hga : a.ownBlock ≠ some K.g := fun e => by have := (hown.lt _ e).1; have := hr.2.1; omega
 have hr7 : RAt w7 R K L j d e bad := hr.kept hk7 hRa hga
 have hg := hr.2.1
 have hr8 : RAt (w7.setCell ⟨C,2,none⟩ v') R K L j d e bad := hr7.kept hk8 (by show R ≠ C; omega) (by show K.g ≠ C; omega)
 refine ⟨hC7,qak (i := 2) hC7 v',?_,hr8,(hk.under (hk7.mono fun b _ hb e => ?_)).under (hk8.mono fun b _ hb e => ?_),fun acc x hes hx => ?_⟩
 ·have h := own_set (p := ⟨C,2,none⟩) hA.own hCv v'
  have e : (us ++ [xv]).length = us.length + 1 := by simp
  rw [e]
  exact h
 ·have := (hown.lt b e).1
  omega
 ·omega
 ·have hall : EsIn (fun b => b ≠ R ∧ w.heap.size ≤ b ∧ b ≠ C ∧ a.ownBlock ≠ some b ∧ v'.ownBlock ≠ some b) w6 (us ++ [xv]) (acc ++ [x]) := by
   refine EsIn.mono (fun b hb h => ⟨h.1,h.2.1,h.2.2.1,h.2.2.2,fun e => ?_⟩) _ _ (es_add hx hes)
   rcases hA.kind with ⟨g,cap,hv,hv',-⟩ | ⟨-,hnew⟩
   ·rw [hv'] at e
    have : g = b := Option.some.inj e
    exact h.2.2.2 (by rw [hv,← this]; rfl)
   ·have := hnew b e
    omega
  exact EsIn.mono (fun b _ h => ⟨h.1,h.2.1,h.2.2.1,h.2.2.2.2⟩) _ _ (EsIn.kept hk8 (fun b h => h.2.2.1) _ _ (EsIn.kept hk7 (fun b h => h.2.2.2.1) _ _ hall))
def errOf (w : World) (R : Nat) : Nat := match w.cell? ⟨R,3,none⟩ with
 | some (.int _ n) => if n = 0 then 1 else 0
 | _ => 0
theorem RAt.err {w : World} {R : Nat} {K : Row3} {L : List Tok} {i d bad : Nat} {e : Int} (h : RAt w R K L i d e bad) : errOf w R = if e = 0 then 1 else 0 := by
 unfold errOf
 rw [h.cells.2.2.2.1]
def RCallRel (w : World) (R : Nat) (K : Row3) (L : List Tok) (i d C : Nat) (f : List UInt8) (p : Nat) (wx : World) : Prop :=
 Keeps (fun b => b ≠ R) w wx ∧ ((∃ (acc : List Ex) (us : List Value) (a : Value) (j : Nat),wx.heap[C]? = some (callO f p a) ∧ wx.ownsRow w.heap.size 26 1 a us.length us ∧ EsIn (fun b => b ≠ R ∧ w.heap.size ≤ b ∧ b ≠ C ∧ a.ownBlock ≠ some b) wx us acc ∧
   RAt wx R K L j (d + 1) 0 0 ∧ EndL (L.drop j) ∧ i < j ∧ us.length ≤ j ∧ d + 1 ≤ 12 ∧ ∀ s,Par false (.args f p acc) (d + 1) (L.drop j) s → Par false .un d (L.drop i) s) ∨
  ∃ (c : Int) (q j : Nat),RAt wx R K L j (d + 1) c q ∧ c ≠ 0 ∧ i < j ∧ j < L.length ∧ Par false .un d (L.drop i) (.error (c,q)))
def KidRes (w : World) (R : Nat) (L : List Tok) (jq B : Nat) (e : Int) (b j1 : Nat) (w5 : World) (rs : Res) : Prop := match rs with
 | .error f => e ≠ 0 ∧ j1 < L.length ∧ e = f.1 ∧ b = f.2
 | .ok y => e = 0 ∧ b = 0 ∧ EIn (fun b => b ≠ R ∧ w.heap.size ≤ b) w5 (.pointer (some ⟨B,0,none⟩)) y.1 ∧ jq < j1 ∧ L.drop j1 = y.2 ∧ EndL y.2
def RCallEnd (w : World) (R : Nat) (K : Row3) (L : List Tok) (i d C : Nat) (wx : World) : Prop :=
 Keeps (fun b => b ≠ R) w wx ∧ ∃ (j : Nat) (e : Int) (b : Nat),RAt wx R K L j (d + 1) e b ∧ i < j ∧ j < L.length ∧
  ((e = 0 ∧ b = 0 ∧ isW (hdT (L.drop j)) qbl = true ∧ ∃ x,EIn (fun b => b ≠ R ∧ w.heap.size ≤ b) wx (.pointer (some ⟨C,0,none⟩)) x ∧ Par false .un d (L.drop i) (.ok (x,L.drop (j + 1))) ∧ EndL (L.drop (j + 1))) ∨
    (e ≠ 0 ∧ Par false .un d (L.drop i) (.error (e,b))))
end Go.Proofs.YtgajofkeidjbgaaGreatDoor
namespace Go.Proofs.YtgajofkeidjbgaaGreatDoor
set_option linter.unusedSimpArgs false
set_option linter.unusedVariables false
open Go Go.RowKit
section
variable {P : Program} {Q : Exit → Act → World → Prop}
theorem inBlock_mono {id : Nat} {A B : Exit → Act → World → Prop} (h : ∀ e a w,A e a w → B e a w) : ∀ e a w,Exit.inBlock id A e a w → Exit.inBlock id B e a w := by
 intro e a w
 unfold Exit.inBlock
 cases e with
 | exit i =>
   simp only
   split
   ·exact h _ _ _
   ·exact h _ _ _
 | normal => exact h _ _ _
 | goto l => exact h _ _ _
 | ret => exact h _ _ _
 | panic ch => exact h _ _ _
 | outgrown => exact h _ _ _
theorem wp_block_frame' {s : Code} {id : Nat} {K : Act → World → Prop} {f : List Value} {w : World} (m : List Bool) (R R0 : (Nat → Value) → World → Prop) (hR : R = R0)
  (first : s.wp P (Exit.inBlock id (Exit.then (Meet m f R) Q)) ⟨f.toArray,[]⟩ w) (rest : ∀ us wr,R0 us wr → K ⟨(qao us m 0 f).toArray,[]⟩ wr) : s.wp P (Exit.inBlock id (Exit.then K Q)) ⟨f.toArray,[]⟩ w := by
 subst hR
 refine wp_mono first ?_
 refine inBlock_mono ?_
 intro e a' w' hq
 cases e with
 | normal =>
   obtain ⟨l,rfl,h1,h2⟩ := hq
   have := rest (qas l) w' h2
   rwa [h1] at this
 | exit id => exact hq
 | goto l => exact hq
 | ret => exact hq
 | panic ch => exact hq
 | outgrown => exact hq
end
end Go.Proofs.YtgajofkeidjbgaaGreatDoor
namespace Go.Proofs.YtgajofkeidjbgaaGreatDoor
set_option linter.unusedSimpArgs false
set_option linter.unusedVariables false
set_option maxHeartbeats 4000000
set_option maxRecDepth 100000
open Go.RowKit
def readE : Value := .iface 29 (.int .i64 1)
def setV (w : World) (R : Nat) (x : Val) : World := ((w.setCell ⟨R,0,none⟩ (.int .i64 x.k)).setCell ⟨R,1,none⟩ (.int .i64 x.n)).setCell ⟨R,2,none⟩ (.string x.t)
theorem qae {w0 w : World} (h : qag w0 w) {R : Nat} (hR : w0.heap.size ≤ R) (x : Val) : qag w0 (setV w R x) := ((h.new (p := ⟨R,0,none⟩) hR _).new (p := ⟨R,1,none⟩) hR _).new (p := ⟨R,2,none⟩) hR _
def qcm (w : World) (R : Nat) (x : Val) : Prop := w.heap[R]? = some (.cells #[.int .i64 x.k,.int .i64 x.n,.string x.t] 38 (0,0))
theorem qcm.set {w : World} {R : Nat} {y : Val} (h : qcm w R y) (x : Val) : qcm (setV w R x) R x := qak (i := 2) (qak (i := 1) (qak (i := 0) h (.int .i64 x.k)) (.int .i64 x.n)) (.string x.t)
theorem qcm.keep {w : World} {R S : Nat} {y z : Val} (h : qcm w R y) (hne : S ≠ R) : qcm (setV w S z) R y := by
 unfold qcm setV
 exact (((Keeps.refl (fun b => b ≠ S) w).setCell (p := ⟨S,0,none⟩) (.inl fun h => h rfl) _).setCell (p := ⟨S,1,none⟩) (.inl fun h => h rfl) _ |>.setCell (p := ⟨S,2,none⟩) (.inl fun h => h rfl) _).obj (fun e => hne e.symm) h
def qar (x : Val) (w : World) (e : Ending) (w' : World) : Prop := e = .returned x.v ∧ qag w w'
theorem vof_any (n : Int) (w : World) : Calls Tryz.prog 90 #[.int .i64 n] w (qar ⟨1,n,ByteArray.empty⟩ w) := by
 go_enter Tryz.func90,Tryz.ntmps90
 go_wp2_with fail
 exact bodyPost_ret (v := .agg #[.int .i64 1,.int .i64 n,.string ⟨#[]⟩]) (by simp [results,Tryz.results90,go_sem]) rfl ⟨rfl,qag.alloc _ _⟩
theorem qbx (b : Bool) (w : World) : Calls Tryz.prog 89 #[.bool b] w (qar ⟨2,if b = true then 1 else 0,ByteArray.empty⟩ w) := by
 cases b
 ·
  go_enter Tryz.func89,Tryz.ntmps89
  go_wp2_with fail
  exact bodyPost_ret (v := .agg #[.int .i64 2,.int .i64 0,.string ⟨#[]⟩]) (by simp [results,Tryz.results89,go_sem]) rfl ⟨rfl,(qag.alloc _ _).alloc' _⟩
 ·
  go_enter Tryz.func89,Tryz.ntmps89
  go_wp2_with fail
  exact bodyPost_ret (v := .agg #[.int .i64 2,.int .i64 1,.string ⟨#[]⟩]) (by simp [results,Tryz.results89,go_sem]) rfl ⟨rfl,(qag.alloc _ _).alloc' _⟩
theorem vwords_any (t : ByteArray) (w : World) : Calls Tryz.prog 106 #[.string t] w (qar ⟨3,0,t⟩ w) := by
 go_enter Tryz.func106,Tryz.ntmps106
 go_wp2_with fail
 exact bodyPost_ret (v := .agg #[.int .i64 3,.int .i64 0,.string t]) (by simp [results,Tryz.results106,go_sem]) rfl ⟨rfl,qag.alloc _ _⟩
def ValRead (w : World) (l : List UInt8) (e : Ending) (w' : World) : Prop := qag w w' ∧ e = .returned (.tuple #[((qci l).getD qaa).v,if (qci l).isSome = true then .nilIface else readE])
theorem parse_int (l : List UInt8) (w : World) (hs : l.length ≤ 140737488351232) (hE : qea w) : Calls Tryz.prog 131 #[.string (qah l),.int .i64 10,.int .i64 64] w fun e w' => qag w w' ∧ ∃ (n : Int) (er : Value),e = .returned (.tuple #[.int .i64 n,er]) ∧ ((Lib.parseIntB 64 l = .ok n ∧ er = .nilIface) ∨ ((∀ n,Lib.parseIntB 64 l ≠ .ok n) ∧ ∃ N,er = numE N)) := by
 have hsz : (qah l).size = l.length := qax l
 obtain ⟨⟨t1,p1,h1⟩,t2,p2,h2⟩ := hE
 cases hp : Lib.parseIntB 64 l with
 | ok n =>
   refine (Tryz.strconv_ParseInt_10_at64_ok (qah l) (by omega) n hp w).mono ?_
   rintro e w' ⟨rfl,hw⟩
   refine ⟨?_,n,.nilIface,rfl,.inl ⟨rfl,rfl⟩⟩
   rcases hw with rfl | ⟨t,rfl⟩
   ·exact qag.refl _
   ·exact Lib.bytesWorld_below _ _ _
 | range =>
   refine (Tryz.strconv_ParseInt_10_at64_range (qah l) (by omega) hp _ w h2 (.inr ⟨_,_,rfl⟩)).mono ?_
   rintro e w' ⟨N,rfl,-,-,hB⟩
   exact ⟨hB,_,_,rfl,.inr ⟨fun n => (fun h => by cases h),N,rfl⟩⟩
 | _ =>
   refine (Tryz.strconv_ParseInt_10_at64_syntax (qah l) (by omega) hp _ w h1 (.inr ⟨_,_,rfl⟩)).mono ?_
   rintro e w' ⟨N,rfl,-,-,hB⟩
   exact ⟨hB,0,_,rfl,.inr ⟨fun n => (fun h => by cases h),N,rfl⟩⟩
theorem tl_true : (qah trueL).toList = [116,114,117,101] := by decide +kernel
theorem tl_false : (qah falseL).toList = [102,97,108,115,101] := by decide +kernel
theorem tt_true : ((qah trueL).toList == [116,114,117,101]) = true := by decide +kernel
theorem tt_false : ((qah falseL).toList == [102,97,108,115,101]) = true := by decide +kernel
theorem tt_ft : ((qah falseL).toList == [116,114,117,101]) = false := by decide +kernel
theorem val_ok {w w' : World} {l : List UInt8} {x : Val} (h : qci l = some x) (hL : qag w w') : ValRead w l (.returned (.tuple #[x.v,.nilIface])) w' := ⟨hL,by rw [h]; rfl⟩
theorem val_no {w w' : World} {l : List UInt8} (h : qci l = none) (hL : qag w w') : ValRead w l (.returned (.tuple #[qaa.v,readE])) w' := ⟨hL,by rw [h]; rfl⟩
theorem guess_cases (l : List UInt8) : (∃ n,Lib.parseIntB 64 l = .ok n ∧ qdl l = ⟨1,n,ByteArray.empty⟩) ∨ ((∀ n,Lib.parseIntB 64 l ≠ .ok n) ∧ qdl l = if l = trueL ∨ l = falseL then ⟨2,if l = trueL then 1 else 0,ByteArray.empty⟩ else if 1 < l.length ∧ l.head? = some 39 then textV (unqG hexP (qcv l)) else qaa) := by
 unfold qdl
 cases h : Lib.parseIntB 64 l with
 | ok n => exact .inl ⟨n,rfl,rfl⟩
 | range => exact .inr ⟨(fun n e => by cases e),rfl⟩
 | _ => exact .inr ⟨(fun n e => by cases e),rfl⟩
theorem lit_ok {x : Val} (h : qdr x) : (Lit.int .i64 x.n).wf = true := by
 have h1 := h.1
 have h2 := h.2
 simp [Lit.wf,IntKind.min,IntKind.max,IntKind.bits,IntKind.signed]
 omega
theorem qcm.later {w w' : World} {R : Nat} {x : Val} (h : qcm w R x) (k : qag w w') : qcm w' R x := k.obj h
theorem qcm.c0 {w : World} {R : Nat} {x : Val} (h : qcm w R x) : w.cell? ⟨R,0,none⟩ = some (.int .i64 x.k) := qac (i := 0) h rfl
theorem qcm.c1 {w : World} {R : Nat} {x : Val} (h : qcm w R x) : w.cell? ⟨R,1,none⟩ = some (.int .i64 x.n) := qac (i := 1) h rfl
theorem qcm.c2 {w : World} {R : Nat} {x : Val} (h : qcm w R x) : w.cell? ⟨R,2,none⟩ = some (.string x.t) := qac (i := 2) h rfl
theorem qcm.free {w : World} {R : Nat} {x : Val} (h : qcm w R x) (i : Nat) : w.frozen? ⟨R,i,none⟩ = false := qaq h
theorem vread_any (l : List UInt8) (w : World) (hs : l.length ≤ 140737488351232) (hE : qea w) (ht : PowTab w) : Calls Tryz.prog 115 #[.string (qah l)] w (ValRead w l) := by
 have HS := hid hs; have HE := hid hE; have HT := hid ht
 clear hs hE ht
 go_enter Tryz.func115,Tryz.ntmps115
 go_upto_region 2 with (fail)
 obtain ⟨w0,hw0⟩ : ∃ w0,w0 = (w.alloc (.cells #[.int .i64 0,.int .i64 0,.string ⟨#[]⟩] 38 (0,0))).alloc (.cells #[.int .i64 0,.int .i64 0,.string ⟨#[]⟩] 38 (0,0)) := ⟨_,rfl⟩
 obtain ⟨R,hR⟩ : ∃ R,R = w.heap.size := ⟨_,rfl⟩
 obtain ⟨V,hV⟩ : ∃ V,V = w.heap.size + 1 := ⟨_,rfl⟩
 have HL0 : Hid (qag w w0) := hid (by rw [hw0]; exact (qag.alloc _ _).alloc' _)
 have HR0 : Hid (qcm w0 R qaa) := hid (by rw [hw0,hR]; exact (qag.alloc _ _).obj (qap w _))
 have HV0 : Hid (qcm w0 V qaa) := hid (by
  have h := qap (w.alloc (.cells #[.int .i64 0,.int .i64 0,.string ⟨#[]⟩] 38 (0,0))) (.cells #[.int .i64 0,.int .i64 0,.string ⟨#[]⟩] 38 (0,0))
  rw [World.size_alloc,← hV,← hw0] at h
  exact h)
 have HRV : Hid (w.heap.size = R ∧ V = R + 1) := hid ⟨hR.symm,by omega⟩
 have HWR := hid hR
 rw [← hw0,← hV,← hR]
 clear hw0 hV hR
 go_wp2_with fail
 refine (parse_int l w0 HS.out (HE.out.later HL0.out)).mono ?_
 rintro e w1 ⟨hL1,n,er,rfl,hcase⟩
 have HL1 := hid (qag.trans _ _ _ HL0.out hL1)
 have HR1 := hid (HR0.out.later hL1)
 have HV1 := hid (HV0.out.later hL1)
 have HRlt : Hid (w.heap.size ≤ V ∧ w.heap.size ≤ R ∧ V ≠ R) := hid ⟨by have := HRV.out; omega,by have := HRV.out; omega,by have := HRV.out; omega⟩
 clear hL1 HR0 HV0 HL0
 have hgc := guess_cases l
 rcases hcase with ⟨hp,rfl⟩ | ⟨hp,N,rfl⟩
 ·have HG : Hid (qdl l = ⟨1,n,ByteArray.empty⟩) := hid (by
   rcases hgc with ⟨k,h1,h2⟩ | ⟨h1,-⟩
   ·rw [hp] at h1; injection h1 with h1; rw [h2,h1]
   ·exact absurd hp (h1 n))
  clear hgc hp
  go_wp2_with fail
  refine (vof_any n _).mono ?_
  rintro e w2 ⟨rfl,hL2⟩
  have HL2 := hid (qag.trans _ _ _ HL1.out hL2)
  have HR2 := hid (HR1.out.later hL2)
  have HV2 := hid (HV1.out.later hL2)
  have q0 := HV2.out.c0; have q1 := HV2.out.c1; have q2 := HV2.out.c2
  have f0 := HV2.out.free 0; have f1 := HV2.out.free 1; have f2 := HV2.out.free 2
  have hlt := qad q0
  clear hL2
  go_upto_region 9 with (fail)
  obtain ⟨wy,hwy⟩ : ∃ wy,wy = setV w2 V ⟨1,n,ByteArray.empty⟩ := ⟨_,rfl⟩
  change Code.wp _ _ _ _ (setV w2 V ⟨1,n,ByteArray.empty⟩)
  have HLY : Hid (qag w wy) := hid (by rw [hwy]; exact qae HL2.out HRlt.out.1 _)
  have HVY : Hid (qcm wy V ⟨1,n,ByteArray.empty⟩) := hid (by rw [hwy]; exact HV2.out.set _)
  have HRY : Hid (qcm wy R qaa) := hid (by rw [hwy]; exact HR2.out.keep HRlt.out.2.2)
  rw [← hwy]
  clear hwy q0 q1 q2 f0 f1 f2 hlt
  have q0 := HVY.out.c0; have q1 := HVY.out.c1; have q2 := HVY.out.c2
  have hlt := qad q0
  go_wp2_with fail
  refine (show_any ⟨1,n,ByteArray.empty⟩ _ (lit_ok (by rw [← HG.out]; exact guess_ok l)) (HT.out.later HLY.out)).mono ?_
  rintro e w5 ⟨rfl,hL5⟩
  have HL5 := hid (qag.trans _ _ _ HLY.out hL5)
  have HV5 := hid (HVY.out.later hL5)
  have HR5 := hid (HRY.out.later hL5)
  replace q0 := HV5.out.c0; replace q1 := HV5.out.c1; replace q2 := HV5.out.c2
  have p0 := HR5.out.c0; have p1 := HR5.out.c1; have p2 := HR5.out.c2
  have f0 := HR5.out.free 0; have f1 := HR5.out.free 1; have f2 := HR5.out.free 2
  have hltR := qad p0
  have hltV := qad q0
  clear hL5 hlt
  by_cases hsh : qbs ⟨1,n,ByteArray.empty⟩ = l
  ·have HSH : Hid (qci l = some ⟨1,n,ByteArray.empty⟩) := hid (by unfold qci; rw [HG.out,if_pos hsh])
   have hst := str_eq hsh
   clear hsh
   go_wp2_with fail
   obtain ⟨wf,hwf⟩ : ∃ wf,wf = setV w5 R ⟨1,n,ByteArray.empty⟩ := ⟨_,rfl⟩
   have HW := HR5.out.set ⟨1,n,ByteArray.empty⟩
   have HLF := qae HL5.out HRlt.out.2.1 ⟨1,n,ByteArray.empty⟩
   rw [← hwf] at HW HLF
   have e0 := HW.c0; have e1 := HW.c1; have e2 := HW.c2
   change bodyPost _ _ _ _ _ (setV w5 R ⟨1,n,ByteArray.empty⟩)
   rw [← hwf]
   clear hwf p0 p1 p2 f0 f1 f2 q0 q1 q2
   exact bodyPost_ret (v := .tuple #[Val.v ⟨1,n,ByteArray.empty⟩,.nilIface]) (by simp [results,Tryz.results115,go_sem,e0,e1,e2,readE] <;> rfl) rfl (val_ok HSH.out HLF)
  ·have HSH : Hid (qci l = none) := hid (by unfold qci; rw [HG.out,if_neg hsh])
   have hst := str_ne hsh
   clear hsh
   go_wp2_with fail
   obtain ⟨wf,hwf⟩ : ∃ wf,wf = setV w5 R qaa := ⟨_,rfl⟩
   have HW := HR5.out.set qaa
   have HLF := qae HL5.out HRlt.out.2.1 qaa
   rw [← hwf] at HW HLF
   have e0 := HW.c0; have e1 := HW.c1; have e2 := HW.c2
   change bodyPost _ _ _ _ _ (setV w5 R qaa)
   rw [← hwf]
   clear hwf p0 p1 p2 f0 f1 f2 q0 q1 q2
   exact bodyPost_ret (v := .tuple #[Val.v qaa,readE]) (by simp [results,Tryz.results115,go_sem,e0,e1,e2,readE] <;> rfl) rfl (val_no HSH.out HLF)
 ·have hgi : qdl l = if l = trueL ∨ l = falseL then ⟨2,if l = trueL then 1 else 0,ByteArray.empty⟩ else if 1 < l.length ∧ l.head? = some 39 then textV (unqG hexP (qcv l)) else qaa := by
   rcases hgc with ⟨k,h1,h2⟩ | ⟨-,h2⟩
   ·exact absurd h1 (hp k)
   ·exact h2
  clear hgc hp
  unfold numE
  by_cases hT : l = trueL
  ·have HG : Hid (qdl l = ⟨2,1,ByteArray.empty⟩) := hid (by rw [hgi,if_pos (.inl hT),if_pos hT])
   have hs1 : ((qah l).toList == [116,114,117,101]) = true := by rw [hT]; exact tt_true
   clear hgi hT
   go_wp2_with fail
   refine (qbx true _).mono ?_
   rintro e w2 ⟨rfl,hL2⟩
   rw [if_pos rfl]
   have HL2 := hid (qag.trans _ _ _ HL1.out hL2)
   have HR2 := hid (HR1.out.later hL2)
   have HV2 := hid (HV1.out.later hL2)
   have q0 := HV2.out.c0; have q1 := HV2.out.c1; have q2 := HV2.out.c2
   have f0 := HV2.out.free 0; have f1 := HV2.out.free 1; have f2 := HV2.out.free 2
   have hlt := qad q0
   clear hL2
   go_upto_region 9 with (fail)
   obtain ⟨wy,hwy⟩ : ∃ wy,wy = setV w2 V ⟨2,1,ByteArray.empty⟩ := ⟨_,rfl⟩
   change Code.wp _ _ _ _ (setV w2 V ⟨2,1,ByteArray.empty⟩)
   have HLY : Hid (qag w wy) := hid (by rw [hwy]; exact qae HL2.out HRlt.out.1 _)
   have HVY : Hid (qcm wy V ⟨2,1,ByteArray.empty⟩) := hid (by rw [hwy]; exact HV2.out.set _)
   have HRY : Hid (qcm wy R qaa) := hid (by rw [hwy]; exact HR2.out.keep HRlt.out.2.2)
   rw [← hwy]
   clear hwy q0 q1 q2 f0 f1 f2 hlt
   have q0 := HVY.out.c0; have q1 := HVY.out.c1; have q2 := HVY.out.c2
   have hlt := qad q0
   go_wp2_with fail
   refine (show_any ⟨2,1,ByteArray.empty⟩ _ (lit_ok (by rw [← HG.out]; exact guess_ok l)) (HT.out.later HLY.out)).mono ?_
   rintro e w5 ⟨rfl,hL5⟩
   have HL5 := hid (qag.trans _ _ _ HLY.out hL5)
   have HV5 := hid (HVY.out.later hL5)
   have HR5 := hid (HRY.out.later hL5)
   replace q0 := HV5.out.c0; replace q1 := HV5.out.c1; replace q2 := HV5.out.c2
   have p0 := HR5.out.c0; have p1 := HR5.out.c1; have p2 := HR5.out.c2
   have f0 := HR5.out.free 0; have f1 := HR5.out.free 1; have f2 := HR5.out.free 2
   have hltR := qad p0
   have hltV := qad q0
   clear hL5 hlt
   by_cases hsh : qbs ⟨2,1,ByteArray.empty⟩ = l
   ·have HSH : Hid (qci l = some ⟨2,1,ByteArray.empty⟩) := hid (by unfold qci; rw [HG.out,if_pos hsh])
    have hst := str_eq hsh
    clear hsh
    go_wp2_with fail
    obtain ⟨wf,hwf⟩ : ∃ wf,wf = setV w5 R ⟨2,1,ByteArray.empty⟩ := ⟨_,rfl⟩
    have HW := HR5.out.set ⟨2,1,ByteArray.empty⟩
    have HLF := qae HL5.out HRlt.out.2.1 ⟨2,1,ByteArray.empty⟩
    rw [← hwf] at HW HLF
    have e0 := HW.c0; have e1 := HW.c1; have e2 := HW.c2
    change bodyPost _ _ _ _ _ (setV w5 R ⟨2,1,ByteArray.empty⟩)
    rw [← hwf]
    clear hwf p0 p1 p2 f0 f1 f2 q0 q1 q2
    exact bodyPost_ret (v := .tuple #[Val.v ⟨2,1,ByteArray.empty⟩,.nilIface]) (by simp [results,Tryz.results115,go_sem,e0,e1,e2,readE] <;> rfl) rfl (val_ok HSH.out HLF)
   ·have HSH : Hid (qci l = none) := hid (by unfold qci; rw [HG.out,if_neg hsh])
    have hst := str_ne hsh
    clear hsh
    go_wp2_with fail
    obtain ⟨wf,hwf⟩ : ∃ wf,wf = setV w5 R qaa := ⟨_,rfl⟩
    have HW := HR5.out.set qaa
    have HLF := qae HL5.out HRlt.out.2.1 qaa
    rw [← hwf] at HW HLF
    have e0 := HW.c0; have e1 := HW.c1; have e2 := HW.c2
    change bodyPost _ _ _ _ _ (setV w5 R qaa)
    rw [← hwf]
    clear hwf p0 p1 p2 f0 f1 f2 q0 q1 q2
    exact bodyPost_ret (v := .tuple #[Val.v qaa,readE]) (by simp [results,Tryz.results115,go_sem,e0,e1,e2,readE] <;> rfl) rfl (val_no HSH.out HLF)
  by_cases hF : l = falseL
  ·have HG : Hid (qdl l = ⟨2,0,ByteArray.empty⟩) := hid (by rw [hgi,if_pos (.inr hF),if_neg hT])
   have hs1 : ((qah l).toList == [116,114,117,101]) = false := by rw [hF]; exact tt_ft
   have hs2 : ((qah l).toList == [102,97,108,115,101]) = true := by rw [hF]; exact tt_false
   clear hgi hT hF
   go_wp2_with fail
   refine (qbx false _).mono ?_
   rintro e w2 ⟨rfl,hL2⟩
   rw [if_neg (by decide)]
   have HL2 := hid (qag.trans _ _ _ HL1.out hL2)
   have HR2 := hid (HR1.out.later hL2)
   have HV2 := hid (HV1.out.later hL2)
   have q0 := HV2.out.c0; have q1 := HV2.out.c1; have q2 := HV2.out.c2
   have f0 := HV2.out.free 0; have f1 := HV2.out.free 1; have f2 := HV2.out.free 2
   have hlt := qad q0
   clear hL2
   go_upto_region 9 with (fail)
   obtain ⟨wy,hwy⟩ : ∃ wy,wy = setV w2 V ⟨2,0,ByteArray.empty⟩ := ⟨_,rfl⟩
   change Code.wp _ _ _ _ (setV w2 V ⟨2,0,ByteArray.empty⟩)
   have HLY : Hid (qag w wy) := hid (by rw [hwy]; exact qae HL2.out HRlt.out.1 _)
   have HVY : Hid (qcm wy V ⟨2,0,ByteArray.empty⟩) := hid (by rw [hwy]; exact HV2.out.set _)
   have HRY : Hid (qcm wy R qaa) := hid (by rw [hwy]; exact HR2.out.keep HRlt.out.2.2)
   rw [← hwy]
   clear hwy q0 q1 q2 f0 f1 f2 hlt
   have q0 := HVY.out.c0; have q1 := HVY.out.c1; have q2 := HVY.out.c2
   have hlt := qad q0
   go_wp2_with fail
   refine (show_any ⟨2,0,ByteArray.empty⟩ _ (lit_ok (by rw [← HG.out]; exact guess_ok l)) (HT.out.later HLY.out)).mono ?_
   rintro e w5 ⟨rfl,hL5⟩
   have HL5 := hid (qag.trans _ _ _ HLY.out hL5)
   have HV5 := hid (HVY.out.later hL5)
   have HR5 := hid (HRY.out.later hL5)
   replace q0 := HV5.out.c0; replace q1 := HV5.out.c1; replace q2 := HV5.out.c2
   have p0 := HR5.out.c0; have p1 := HR5.out.c1; have p2 := HR5.out.c2
   have f0 := HR5.out.free 0; have f1 := HR5.out.free 1; have f2 := HR5.out.free 2
   have hltR := qad p0
   have hltV := qad q0
   clear hL5 hlt
   by_cases hsh : qbs ⟨2,0,ByteArray.empty⟩ = l
   ·have HSH : Hid (qci l = some ⟨2,0,ByteArray.empty⟩) := hid (by unfold qci; rw [HG.out,if_pos hsh])
    have hst := str_eq hsh
    clear hsh
    go_wp2_with fail
    obtain ⟨wf,hwf⟩ : ∃ wf,wf = setV w5 R ⟨2,0,ByteArray.empty⟩ := ⟨_,rfl⟩
    have HW := HR5.out.set ⟨2,0,ByteArray.empty⟩
    have HLF := qae HL5.out HRlt.out.2.1 ⟨2,0,ByteArray.empty⟩
    rw [← hwf] at HW HLF
    have e0 := HW.c0; have e1 := HW.c1; have e2 := HW.c2
    change bodyPost _ _ _ _ _ (setV w5 R ⟨2,0,ByteArray.empty⟩)
    rw [← hwf]
    clear hwf p0 p1 p2 f0 f1 f2 q0 q1 q2
    exact bodyPost_ret (v := .tuple #[Val.v ⟨2,0,ByteArray.empty⟩,.nilIface]) (by simp [results,Tryz.results115,go_sem,e0,e1,e2,readE] <;> rfl) rfl (val_ok HSH.out HLF)
   ·have HSH : Hid (qci l = none) := hid (by unfold qci; rw [HG.out,if_neg hsh])
    have hst := str_ne hsh
    clear hsh
    go_wp2_with fail
    obtain ⟨wf,hwf⟩ : ∃ wf,wf = setV w5 R qaa := ⟨_,rfl⟩
    have HW := HR5.out.set qaa
    have HLF := qae HL5.out HRlt.out.2.1 qaa
    rw [← hwf] at HW HLF
    have e0 := HW.c0; have e1 := HW.c1; have e2 := HW.c2
    change bodyPost _ _ _ _ _ (setV w5 R qaa)
    rw [← hwf]
    clear hwf p0 p1 p2 f0 f1 f2 q0 q1 q2
    exact bodyPost_ret (v := .tuple #[Val.v qaa,readE]) (by simp [results,Tryz.results115,go_sem,e0,e1,e2,readE] <;> rfl) rfl (val_no HSH.out HLF)
  have hs1 : ((qah l).toList == [116,114,117,101]) = false := by have h := str_ne hT; rwa [tl_true] at h
  have hs2 : ((qah l).toList == [102,97,108,115,101]) = false := by have h := str_ne hF; rwa [tl_false] at h
  have hor : ¬ (l = trueL ∨ l = falseL) := by simp [hT,hF]
  rw [if_neg hor] at hgi
  clear hT hF hor
  have hz : (qah l).size = l.length := qax l
  by_cases h1 : 1 < l.length
  ·obtain ⟨c,r,rfl⟩ : ∃ c r,l = c :: r := by
    cases l with
    | nil => simp at h1
    | cons c r => exact ⟨c,r,rfl⟩
   have hix := fun w => run_idx0 w c r
   obtain ⟨m,hm⟩ : ∃ m,m = c.toNat := ⟨_,rfl⟩
   have HM := hid hm
   rw [← hm] at hix
   clear hm
   by_cases h39 : m = 39
   ·have hc : c = 39 := UInt8.toNat_inj.1 (by rw [← HM.out,h39]; rfl)
    have HG : Hid (qdl (c :: r) = ⟨3,0,qah (unqG hexP (qcv (c :: r)))⟩) := hid (by rw [hgi,if_pos ⟨h1,by rw [hc]; rfl⟩]; rfl)
    subst h39
    clear hgi hc
    have hw : wrap64 (r.length : Int) = r.length := by have := HS.out; simp only [List.length_cons] at this; unfold wrap64; omega
    have hr1 : 1 ≤ (r.length : Int) := by simp only [List.length_cons] at h1; omega
    have hr2 : (r.length : Int) ≤ (r.length : Int) + 1 := by omega
    have hex : (qah (c :: r)).extract 1 r.length = qah (qcv (c :: r)) := by rw [qdi]; unfold qcv; congr 2
    go_wp2_with fail
    refine (unquote_any (qcv (c :: r)) _ (by unfold qcv; rw [List.length_take]; have := HS.out; omega) (HE.out.later HL1.out)).mono ?_
    rintro e w2 ⟨rfl,hL2⟩
    have HL1 := hid (qag.trans _ _ _ HL1.out hL2)
    have HR1 := hid (HR1.out.later hL2)
    have HV1 := hid (HV1.out.later hL2)
    clear hL2 hex hr1 hr2 hw
    go_wp2_with fail
    refine (vwords_any _ _).mono ?_
    rintro e w2 ⟨rfl,hL2⟩
    have HL2 := hid (qag.trans _ _ _ HL1.out hL2)
    have HR2 := hid (HR1.out.later hL2)
    have HV2 := hid (HV1.out.later hL2)
    have q0 := HV2.out.c0; have q1 := HV2.out.c1; have q2 := HV2.out.c2
    have f0 := HV2.out.free 0; have f1 := HV2.out.free 1; have f2 := HV2.out.free 2
    have hlt := qad q0
    clear hL2
    go_upto_region 9 with (fail)
    obtain ⟨wy,hwy⟩ : ∃ wy,wy = setV w2 V ⟨3,0,qah (unqG hexP (qcv (c :: r)))⟩ := ⟨_,rfl⟩
    change Code.wp _ _ _ _ (setV w2 V ⟨3,0,qah (unqG hexP (qcv (c :: r)))⟩)
    have HLY : Hid (qag w wy) := hid (by rw [hwy]; exact qae HL2.out HRlt.out.1 _)
    have HVY : Hid (qcm wy V ⟨3,0,qah (unqG hexP (qcv (c :: r)))⟩) := hid (by rw [hwy]; exact HV2.out.set _)
    have HRY : Hid (qcm wy R qaa) := hid (by rw [hwy]; exact HR2.out.keep HRlt.out.2.2)
    rw [← hwy]
    clear hwy q0 q1 q2 f0 f1 f2 hlt
    have q0 := HVY.out.c0; have q1 := HVY.out.c1; have q2 := HVY.out.c2
    have hlt := qad q0
    go_wp2_with fail
    refine (show_any ⟨3,0,qah (unqG hexP (qcv (c :: r)))⟩ _ (lit_ok (by rw [← HG.out]; exact guess_ok (c :: r))) (HT.out.later HLY.out)).mono ?_
    rintro e w5 ⟨rfl,hL5⟩
    have HL5 := hid (qag.trans _ _ _ HLY.out hL5)
    have HV5 := hid (HVY.out.later hL5)
    have HR5 := hid (HRY.out.later hL5)
    replace q0 := HV5.out.c0; replace q1 := HV5.out.c1; replace q2 := HV5.out.c2
    have p0 := HR5.out.c0; have p1 := HR5.out.c1; have p2 := HR5.out.c2
    have f0 := HR5.out.free 0; have f1 := HR5.out.free 1; have f2 := HR5.out.free 2
    have hltR := qad p0
    have hltV := qad q0
    clear hL5 hlt
    by_cases hsh : qbs ⟨3,0,qah (unqG hexP (qcv (c :: r)))⟩ = c :: r
    ·have HSH : Hid (qci (c :: r) = some ⟨3,0,qah (unqG hexP (qcv (c :: r)))⟩) := hid (by unfold qci; rw [HG.out,if_pos hsh])
     have hst := str_eq hsh
     clear hsh
     go_wp2_with fail
     obtain ⟨wf,hwf⟩ : ∃ wf,wf = setV w5 R ⟨3,0,qah (unqG hexP (qcv (c :: r)))⟩ := ⟨_,rfl⟩
     have HW := HR5.out.set ⟨3,0,qah (unqG hexP (qcv (c :: r)))⟩
     have HLF := qae HL5.out HRlt.out.2.1 ⟨3,0,qah (unqG hexP (qcv (c :: r)))⟩
     rw [← hwf] at HW HLF
     have e0 := HW.c0; have e1 := HW.c1; have e2 := HW.c2
     change bodyPost _ _ _ _ _ (setV w5 R ⟨3,0,qah (unqG hexP (qcv (c :: r)))⟩)
     rw [← hwf]
     clear hwf p0 p1 p2 f0 f1 f2 q0 q1 q2
     exact bodyPost_ret (v := .tuple #[Val.v ⟨3,0,qah (unqG hexP (qcv (c :: r)))⟩,.nilIface]) (by simp [results,Tryz.results115,go_sem,e0,e1,e2,readE] <;> rfl) rfl (val_ok HSH.out HLF)
    ·have HSH : Hid (qci (c :: r) = none) := hid (by unfold qci; rw [HG.out,if_neg hsh])
     have hst := str_ne hsh
     clear hsh
     go_wp2_with fail
     obtain ⟨wf,hwf⟩ : ∃ wf,wf = setV w5 R qaa := ⟨_,rfl⟩
     have HW := HR5.out.set qaa
     have HLF := qae HL5.out HRlt.out.2.1 qaa
     rw [← hwf] at HW HLF
     have e0 := HW.c0; have e1 := HW.c1; have e2 := HW.c2
     change bodyPost _ _ _ _ _ (setV w5 R qaa)
     rw [← hwf]
     clear hwf p0 p1 p2 f0 f1 f2 q0 q1 q2
     exact bodyPost_ret (v := .tuple #[Val.v qaa,readE]) (by simp [results,Tryz.results115,go_sem,e0,e1,e2,readE] <;> rfl) rfl (val_no HSH.out HLF)
   ·have HG : Hid (qdl (c :: r) = qaa) := hid (by rw [hgi,if_neg (fun h => h39 (by rw [HM.out]; have := h.2; simp only [List.head?_cons,Option.some.injEq] at this; rw [this]; rfl))])
    have h39' : ¬ (m : Int) = 39 := by omega
    have h1' : (1 : Int) < (r.length : Int) + 1 := by simp only [List.length_cons] at h1; omega
    clear hgi
    go_upto_region 9 with (fail)
    obtain ⟨wy,hwy⟩ : ∃ wy,wy = w1 := ⟨_,rfl⟩
    have HLY : Hid (qag w wy) := hid (by rw [hwy]; exact HL1.out)
    have HVY : Hid (qcm wy V qaa) := hid (by rw [hwy]; exact HV1.out)
    have HRY : Hid (qcm wy R qaa) := hid (by rw [hwy]; exact HR1.out)
    rw [← hwy]
    clear hwy
    have q0 := HVY.out.c0; have q1 := HVY.out.c1; have q2 := HVY.out.c2
    have hlt := qad q0
    go_wp2_with fail
    refine (show_any qaa _ (lit_ok (by rw [← HG.out]; exact guess_ok (c :: r))) (HT.out.later HLY.out)).mono ?_
    rintro e w5 ⟨rfl,hL5⟩
    have HL5 := hid (qag.trans _ _ _ HLY.out hL5)
    have HV5 := hid (HVY.out.later hL5)
    have HR5 := hid (HRY.out.later hL5)
    replace q0 := HV5.out.c0; replace q1 := HV5.out.c1; replace q2 := HV5.out.c2
    have p0 := HR5.out.c0; have p1 := HR5.out.c1; have p2 := HR5.out.c2
    have f0 := HR5.out.free 0; have f1 := HR5.out.free 1; have f2 := HR5.out.free 2
    have hltR := qad p0
    have hltV := qad q0
    clear hL5 hlt
    by_cases hsh : qbs qaa = c :: r
    ·have HSH : Hid (qci (c :: r) = some qaa) := hid (by unfold qci; rw [HG.out,if_pos hsh])
     have hst := str_eq hsh
     clear hsh
     go_wp2_with fail
     obtain ⟨wf,hwf⟩ : ∃ wf,wf = setV w5 R qaa := ⟨_,rfl⟩
     have HW := HR5.out.set qaa
     have HLF := qae HL5.out HRlt.out.2.1 qaa
     rw [← hwf] at HW HLF
     have e0 := HW.c0; have e1 := HW.c1; have e2 := HW.c2
     change bodyPost _ _ _ _ _ (setV w5 R qaa)
     rw [← hwf]
     clear hwf p0 p1 p2 f0 f1 f2 q0 q1 q2
     exact bodyPost_ret (v := .tuple #[Val.v qaa,.nilIface]) (by simp [results,Tryz.results115,go_sem,e0,e1,e2,readE] <;> rfl) rfl (val_ok HSH.out HLF)
    ·have HSH : Hid (qci (c :: r) = none) := hid (by unfold qci; rw [HG.out,if_neg hsh])
     have hst := str_ne hsh
     clear hsh
     go_wp2_with fail
     obtain ⟨wf,hwf⟩ : ∃ wf,wf = setV w5 R qaa := ⟨_,rfl⟩
     have HW := HR5.out.set qaa
     have HLF := qae HL5.out HRlt.out.2.1 qaa
     rw [← hwf] at HW HLF
     have e0 := HW.c0; have e1 := HW.c1; have e2 := HW.c2
     change bodyPost _ _ _ _ _ (setV w5 R qaa)
     rw [← hwf]
     clear hwf p0 p1 p2 f0 f1 f2 q0 q1 q2
     exact bodyPost_ret (v := .tuple #[Val.v qaa,readE]) (by simp [results,Tryz.results115,go_sem,e0,e1,e2,readE] <;> rfl) rfl (val_no HSH.out HLF)
  ·have HG : Hid (qdl l = qaa) := hid (by rw [hgi,if_neg (fun h => h1 h.1)])
   clear hgi
   go_upto_region 9 with (fail)
   obtain ⟨wy,hwy⟩ : ∃ wy,wy = w1 := ⟨_,rfl⟩
   have HLY : Hid (qag w wy) := hid (by rw [hwy]; exact HL1.out)
   have HVY : Hid (qcm wy V qaa) := hid (by rw [hwy]; exact HV1.out)
   have HRY : Hid (qcm wy R qaa) := hid (by rw [hwy]; exact HR1.out)
   rw [← hwy]
   clear hwy
   have q0 := HVY.out.c0; have q1 := HVY.out.c1; have q2 := HVY.out.c2
   have hlt := qad q0
   go_wp2_with fail
   refine (show_any qaa _ (lit_ok (by rw [← HG.out]; exact guess_ok l)) (HT.out.later HLY.out)).mono ?_
   rintro e w5 ⟨rfl,hL5⟩
   have HL5 := hid (qag.trans _ _ _ HLY.out hL5)
   have HV5 := hid (HVY.out.later hL5)
   have HR5 := hid (HRY.out.later hL5)
   replace q0 := HV5.out.c0; replace q1 := HV5.out.c1; replace q2 := HV5.out.c2
   have p0 := HR5.out.c0; have p1 := HR5.out.c1; have p2 := HR5.out.c2
   have f0 := HR5.out.free 0; have f1 := HR5.out.free 1; have f2 := HR5.out.free 2
   have hltR := qad p0
   have hltV := qad q0
   clear hL5 hlt
   by_cases hsh : qbs qaa = l
   ·have HSH : Hid (qci l = some qaa) := hid (by unfold qci; rw [HG.out,if_pos hsh])
    have hst := str_eq hsh
    clear hsh
    go_wp2_with fail
    obtain ⟨wf,hwf⟩ : ∃ wf,wf = setV w5 R qaa := ⟨_,rfl⟩
    have HW := HR5.out.set qaa
    have HLF := qae HL5.out HRlt.out.2.1 qaa
    rw [← hwf] at HW HLF
    have e0 := HW.c0; have e1 := HW.c1; have e2 := HW.c2
    change bodyPost _ _ _ _ _ (setV w5 R qaa)
    rw [← hwf]
    clear hwf p0 p1 p2 f0 f1 f2 q0 q1 q2
    exact bodyPost_ret (v := .tuple #[Val.v qaa,.nilIface]) (by simp [results,Tryz.results115,go_sem,e0,e1,e2,readE] <;> rfl) rfl (val_ok HSH.out HLF)
   ·have HSH : Hid (qci l = none) := hid (by unfold qci; rw [HG.out,if_neg hsh])
    have hst := str_ne hsh
    clear hsh
    go_wp2_with fail
    obtain ⟨wf,hwf⟩ : ∃ wf,wf = setV w5 R qaa := ⟨_,rfl⟩
    have HW := HR5.out.set qaa
    have HLF := qae HL5.out HRlt.out.2.1 qaa
    rw [← hwf] at HW HLF
    have e0 := HW.c0; have e1 := HW.c1; have e2 := HW.c2
    change bodyPost _ _ _ _ _ (setV w5 R qaa)
    rw [← hwf]
    clear hwf p0 p1 p2 f0 f1 f2 q0 q1 q2
    exact bodyPost_ret (v := .tuple #[Val.v qaa,readE]) (by simp [results,Tryz.results115,go_sem,e0,e1,e2,readE] <;> rfl) rfl (val_no HSH.out HLF)
end Go.Proofs.YtgajofkeidjbgaaGreatDoor
