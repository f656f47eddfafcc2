/-
  PROVED HERE: a part of the proof of ExprEvals: ExprLex2.
-/
import Derived.Test.YtgajofkeidjbgaaGreatDoorShort
import Derived.Test.YtgajofkeidjbgaaGreatDoorGLexPlain
import Derived.Deep.CutBlock
namespace Go.Proofs.YtgajofkeidjbgaaGreatDoor
set_option linter.unusedSimpArgs false
set_option linter.unusedVariables false
set_option maxHeartbeats 4000000
set_option maxRecDepth 100000
open Go.RowKit
def Tok.cells (t : Tok) : List Value := [.int .u8 (t.k.toNat : Int),.string (qah t.t),.int .i64 (t.p : Int)]
def qbb (l : List Tok) : List Value := l.flatMap Tok.cells
theorem tokCells_snoc (l : List Tok) (t : Tok) : qbb l ++ t.cells = qbb (l ++ [t]) := by simp [qbb]
theorem tok_ones (t : Tok) : ∀ u ∈ t.cells,u.oneCell' = true := by
 intro u hu
 simp only [Tok.cells,List.mem_cons,List.not_mem_nil,or_false] at hu
 rcases hu with rfl | rfl | rfl <;> rfl
theorem qdx.later {w w' : World} (h : qdx w) (k : qag w w') : qdx w' := Lib.tabBelow_of_tabIs h w' k
theorem infoTok : (Tryz.prog.info? 102).map (fun i => (i.zero,i.size,i.bytes)) = some (some (.agg #[.int .u8 0,.string ⟨#[]⟩,.int .i64 0]),3,32) := by kernel_rfl
theorem tokElem : ElemInfo Tryz.prog 102 3 32 := ElemInfo.of infoTok rfl (by decide)
theorem own_sl {w : World} {B s n : Nat} {e : TypeId} {v : Value} {xs : List Value} (h : w.ownsRow B e s v n xs) : ∃ a c,v = .slice a n c := by
 rcases h.2 with ⟨rfl,h0⟩ | ⟨g,cap,cur,rfl,_⟩
 ·exact ⟨none,0,by rw [h0]⟩
 ·exact ⟨_,_,rfl⟩
def LexTo (w : World) (s : List UInt8) (e : Ending) (w' : World) : Prop :=
 qag w w' ∧ match lexX s.length 0 s with
  | .error p => qbr 1 p e
  | .ok l => ∃ v,e = .returned v ∧ w'.ownsRow (w.heap.size + 1) 102 3 v l.length (qbb l)
def AtObj (w : World) (E i : Nat) : Prop := w.heap[E]? = some (.cells #[.int .i64 (i : Int)] 3 (0,0))
def qer (w : World) (s : List UInt8) (acc : List Tok) (v : Value) (i E : Nat) (wx : World) : Prop :=
 qag w wx ∧ wx.cell? ⟨w.heap.size,0,none⟩ = some (.string (qah s)) ∧ AtObj wx E i ∧ w.heap.size < E ∧ wx.ownsRow (w.heap.size + 1) 102 3 v acc.length (qbb acc) ∧ v.ownBlock ≠ some E ∧ acc.length ≤ i ∧ i ≤ s.length
theorem qer.set {w wx : World} {s : List UInt8} {acc : List Tok} {v : Value} {i j E : Nat} (h : qer w s acc v i E wx) (h1 : i ≤ j) (h2 : j ≤ s.length) : qer w s acc v j E (wx.setCell ⟨E,0,none⟩ (.int .i64 (j : Int))) := by
 obtain ⟨a1,a2,a3,a4,a5,a6,a7,a8⟩ := h
 have hk : Keeps (fun b => b ≠ E) wx (wx.setCell ⟨E,0,none⟩ (.int .i64 (j : Int))) := (Keeps.refl _ wx).setCell (p := ⟨E,0,none⟩) (.inl fun h => h rfl) _
 refine ⟨a1.new (p := ⟨E,0,none⟩) (by simp only; omega) _,?_,qak (i := 0) a3 _,a4,owns_keep a5 hk fun g hg e => ?_,a6,by omega,h2⟩
 ·rw [World.cell?_setCell_other _ _ _ _ (fun h => by have := congrArg Addr.block h; simp only at this; omega)]
  exact a2
 ·subst e
  exact a6 hg
theorem qer.later {w wx wy : World} {s : List UInt8} {acc : List Tok} {v : Value} {i E : Nat} (h : qer w s acc v i E wx) (hL : qag wx wy) : qer w s acc v i E wy := by
 obtain ⟨a1,a2,a3,a4,a5,a6,a7,a8⟩ := h
 exact ⟨qag.trans _ _ _ a1 hL,hL.cell a2,hL.obj a3,a4,owns_at a5 hL,a6,a7,a8⟩
theorem qer.alloc {w wx : World} {s : List UInt8} {acc : List Tok} {v : Value} {i E : Nat} (h : qer w s acc v i E wx) (o : Obj) : qer w s acc v i E (wx.alloc o) := h.later (qag.alloc _ _)
def TokObj (w : World) (K : Nat) (k : UInt8) (t : List UInt8) (j : Nat) : Prop := w.heap[K]? = some (.cells #[.int .u8 (k.toNat : Int),.string (qah t),.int .i64 (j : Int)] 102 (0,0))
theorem qer.tokSet {w wx : World} {s : List UInt8} {acc : List Tok} {v : Value} {i E K : Nat} (h : qer w s acc v i E wx) (h1 : E < K) (h2 : v.ownBlock ≠ some K) (o : Nat) (x : Value) : qer w s acc v i E (wx.setCell ⟨K,o,none⟩ x) := by
 obtain ⟨a1,a2,a3,a4,a5,a6,a7,a8⟩ := h
 have hk : Keeps (fun b => b ≠ K) wx (wx.setCell ⟨K,o,none⟩ x) := (Keeps.refl _ wx).setCell (p := ⟨K,o,none⟩) (.inl fun h => h rfl) _
 refine ⟨a1.new (p := ⟨K,o,none⟩) (by simp only; omega) _,?_,hk.obj (by omega) a3,a4,owns_keep a5 hk fun g hg e => ?_,a6,a7,a8⟩
 ·rw [World.cell?_setCell_other _ _ _ _ (fun h => by have := congrArg Addr.block h; simp only at this; omega)]
  exact a2
 ·subst e
  exact h2 hg
theorem qer.next {w wx w7 : World} {s : List UInt8} {acc : List Tok} {t : Tok} {v v7 : Value} {i j E : Nat} (h : qer w s acc v i E wx) (hA : AppX wx (w.heap.size + 1) 102 3 v acc.length 1 (qbb acc ++ t.cells) v7 w7) (h1 : i < j) (h2 : j ≤ s.length) :
  AtObj w7 E i ∧ qer w s (acc ++ [t]) v7 j w7.heap.size ((w7.setCell ⟨E,0,none⟩ (.int .i64 (j : Int))).alloc (.cells #[.int .i64 (j : Int)] 3 (0,0))) := by
 obtain ⟨a1,a2,a3,a4,a5,a6,a7,a8⟩ := h
 have hE : E < wx.heap.size := (Array.getElem?_eq_some_iff.1 a3).1
 have hX : w.heap.size < wx.heap.size := by omega
 have key : ∃ S : Nat → Prop,Keeps S wx w7 ∧ (∀ b,b < w.heap.size + 1 → S b) ∧ S E ∧ v7.ownBlock ≠ some E := by
  rcases hA.kind with ⟨g,cap,hv,hv7,k⟩ | ⟨k,hb⟩
  ·have hg := (ownb a5 g (by rw [hv]; rfl)).1
   have hgE : g ≠ E := fun e => a6 (by rw [hv,← e]; rfl)
   exact ⟨_,k,fun b hb e => by omega,fun e => hgE e.symm,by rw [hv7]; intro e; exact hgE (Option.some.inj e)⟩
  ·exact ⟨fun _ => True,k.keeps _,fun _ _ => trivial,trivial,fun e => by have := hb E e; omega⟩
 obtain ⟨S,k,hS,hSE,hvE⟩ := key
 have b1 : qag w w7 := later_keep (B := w.heap.size + 1) a1 (k.mono fun b _ hb => hS b hb) (by omega)
 have b3 : AtObj w7 E i := k.obj hSE a3
 have b2 : w7.cell? ⟨w.heap.size,0,none⟩ = some (.string (qah s)) := by
  exact k.cell (p := ⟨w.heap.size,0,none⟩) (hS _ (by simp only; omega)) a2
 have hk : Keeps (fun b => b ≠ E) w7 (w7.setCell ⟨E,0,none⟩ (.int .i64 (j : Int))) := (Keeps.refl _ w7).setCell (p := ⟨E,0,none⟩) (.inl fun h => h rfl) _
 have hown := hA.own
 rw [tokCells_snoc] at hown
 have hsz : (w7.setCell ⟨E,0,none⟩ (.int .i64 (j : Int))).heap.size = w7.heap.size := by simp
 refine ⟨b3,(b1.new (p := ⟨E,0,none⟩) (by simp only; omega) _).alloc' _,?_,qcp hsz.symm,?_,?_,fun e => ?_,?_,h2⟩
 ·refine (qag.alloc _ _).cell ?_
  rw [World.cell?_setCell_other _ _ _ _ (fun h => by have := congrArg Addr.block h; simp only at this; omega)]
  exact b2
 ·have := (Array.getElem?_eq_some_iff.1 b3).1; omega
 ·rw [List.length_append]
  exact owns_at (owns_keep hown hk fun g hg e => hvE (by rw [← e]; exact hg)) (qag.alloc _ _)
 ·have := (ownb hown _ e).2; omega
 ·rw [List.length_append,List.length_singleton]; omega
def boxN (w : World) (v : Value) : Nat := match v with
 | .pointer (some a) => (match w.cell? a with
   | some x => (intOf x).toNat
   | none => 0)
 | _ => 0
theorem boxN_at {w : World} {E i : Nat} (h : AtObj w E i) : boxN w (.pointer (some ⟨E,0,none⟩)) = i := by
 unfold boxN
 simp only
 rw [qac (i := 0) h rfl]
 simp [intOf]
theorem lex_any (s : List UInt8) (w : World) (hs : s.length ≤ 1048576) (ht : qdx w) : Calls Tryz.prog 38 #[.string (qah s)] w (LexTo w s) := by
 have HS := hid hs; have HT := hid ht
 clear hs ht
 have hss : (qah s).size = s.length := qax s
 go_enter Tryz.func38,Tryz.ntmps38
 obtain ⟨T,hT⟩ : ∃ T,T = lexX s.length 0 s := ⟨_,rfl⟩
 have HTT := hid hT
 clear hT
 go_upto_region 1 with (fail)
 go_wp2_with fail
 obtain ⟨R1,hR1⟩ : ∃ RR_ : (Nat → Value) → World → Prop,RR_ = (fun us wx => ∃ acc v i E,us 3 = .pointer (some ⟨E,0,none⟩) ∧ us 2 = v ∧ LexAt s i acc T ∧ qer w s acc v i E wx) := ⟨_,rfl⟩
 obtain ⟨mu1,hmu1⟩ : ∃ mu : (Nat → Value) → World → Nat,mu = (fun us wx => s.length - boxN wx (us 3)) := ⟨_,rfl⟩
 have HR1 := hid hR1; have Hmu1 := hid hmu1; clear hR1 hmu1
 refine qal [ff,ff,true,true,true,true,true,true,true,true,true,true,true,true,true,true,true,true,true,true,true,true,true,true,true,true,true,true,true,true,true,true,true,true,true,true,true,true,true,true,true,true,true,true,true,true,true,true,true,true,true,true,true,true,true,true,true,true,true,true,true,true,true,true,true,true,true,true,true,true,true,true,true,true,true,true,true,true,true,true,true,true,true,true,true,true,true,true,true,true,true,true,true,true,true,true,true,true,true,true,true,true,true,true,true,true,true,true,true,true,true,true,true,true,true,true,true,true,true,true,true,true,true,true,true,true,true,true] R1 _ mu1 HR1.out ?_ ?_
 ·refine ⟨[],.slice none 0 0,0,w.heap.size + 1,rfl,rfl,?_,?_⟩
  ·rw [HTT.out]; exact LexAt.first s
  ·exact ⟨(qag.alloc w _).alloc' _,by simp,qcp (by simp),by omega,⟨rfl,.inl ⟨rfl,rfl⟩⟩,by simp [Value.ownBlock],Nat.zero_le _,Nat.zero_le _⟩
 intro us1 wx hrel
 obtain ⟨acc,v,i,E,h3,h2,hat,hinv⟩ := hrel
 simp only [qao,Nat.reduceAdd,h3,h2]
 have Hh3 := hid h3; clear h3
 have Hh2 := hid h2; clear h2
 have HAT := hid hat
 have HI := hid hinv
 clear hat hinv
 go_wp2_with fail
 obtain ⟨R2,hR2⟩ : ∃ RR_ : (Nat → Value) → World → Prop,RR_ = (fun us wy => ∃ j,LexAt s j acc T ∧ i ≤ j ∧ qer w s acc v j E wy) := ⟨_,rfl⟩
 obtain ⟨mu2,hmu2⟩ : ∃ mu : (Nat → Value) → World → Nat,mu = (fun us wy => s.length - boxN wy (.pointer (some ⟨E,0,none⟩))) := ⟨_,rfl⟩
 have HR2 := hid hR2; have Hmu2 := hid hmu2; clear hR2 hmu2
 refine qal [ff,ff,ff,ff,ff,ff,ff,ff,true,true,true,true,true,true,true,true,true,true,true,true,true,true,true,true,true,true,true,true,true,true,true,true] R2 _ mu2 HR2.out ?_ ?_
 ·exact ⟨i,HAT.out,Nat.le_refl _,HI.out⟩
 intro us2 wy hrel
 obtain ⟨j,hat,hij,hinv⟩ := hrel
 simp only [qao,Nat.reduceAdd]
 have HATJ := hid hat
 have HIJ := hid hinv
 clear hat hinv
 obtain ⟨b,hb⟩ : ∃ b : Bool,b = (if h : j < s.length then spaceB s[j] else false) := ⟨_,rfl⟩
 have HB := hid hb
 have hx := HIJ.out.2.1
 have he := qac (i := 0) HIJ.out.2.2.1 rfl
 clear hb
 go_upto_region 2 with (fail)
 obtain ⟨R3,hR3⟩ : ∃ RR_ : (Nat → Value) → World → Prop,RR_ = (fun us wz => us 29 = .bool b ∧ wz = wy) := ⟨_,rfl⟩
 have HR3 := hid hR3; clear hR3
 refine qau [ff,ff,ff,ff,ff,ff,ff,ff,true,true,true,true,true,true,true,true,true,true,true,true,true,true,true,true,true,true,true,true,true,true] R3 _ HR3.out ?_ ?_
 ·by_cases hlt : j < s.length
  ·have hlt' : (j : Int) < s.length := by omega
   have hidx : ∀ (h : j < (qah s).size),(qah s)[j]'h = s[j] := fun h => rfl
   have hj0 : (0 : Int) ≤ j := by omega
   have HSP : Hid (b = ((s[j].toNat : Int) == 32 || (s[j].toNat : Int) == 9 || (s[j].toNat : Int) == 10)) := hid (by
    rw [HB.out,dif_pos hlt]
    unfold spaceB
    have hh : ∀ (c : UInt8) (n : Nat),n < 256 → (c == UInt8.ofNat n) = ((c.toNat : Int) == (n : Int)) := by
     intro c n hn
     rw [Bool.eq_iff_iff]
     simp only [beq_iff_eq]
     constructor
     ·rintro rfl; simp; omega
     ·intro h; apply UInt8.toNat_inj.1; simp; omega
    rw [show (32 : UInt8) = UInt8.ofNat 32 from rfl,show (9 : UInt8) = UInt8.ofNat 9 from rfl,show (10 : UInt8) = UInt8.ofNat 10 from rfl,hh _ 32 (by omega),hh _ 9 (by omega),hh _ 10 (by omega)]
    rfl)
   go_wp2_with fail
   all_goals refine Meet.mk' HR3.out rfl ?_
   all_goals first
    | exact ⟨by simp [qas,HSP.out]; omega,rfl⟩
    | exact ⟨by simp [qas,HSP.out]; rfl,rfl⟩
  ·have hlt' : ¬ (j : Int) < s.length := by omega
   go_wp2_with fail
   refine Meet.mk' HR3.out rfl ?_
   exact ⟨by simp [qas,HB.out,hlt],rfl⟩
 intro us3 wz hrel
 obtain ⟨h29,rfl⟩ := hrel
 simp only [qao,Nat.reduceAdd,h29]
 have Hh29 := hid h29; clear h29
 cases b with
 | true =>
   have hlt : j < s.length := by
    have h := HB.out
    by_cases hlt : j < s.length
    ·exact hlt
    ·simp [hlt] at h
   have HG : Hid (LexAt s (j + 1) acc T) := hid (HATJ.out.space hlt (by have h := HB.out; simpa [hlt] using h.symm))
   have HNEW := hid (HIJ.out.set (j := j + 1) (by omega) (by omega))
   have HLT := hid hlt
   have hz := qaq (i := 0) HIJ.out.2.2.1
   have hj1 : ¬ (9223372036854775807 : Int) < j + 1 := by have := HS.out; omega
   clear hlt
   go_wp2_with fail
   refine Round.mk' HR2.out Hmu2.out rfl ?_ ?_
   ·exact ⟨j + 1,HG.out,by omega,HNEW.out⟩
   ·have h1 := boxN_at HNEW.out.2.2.1
    rw [Int.natCast_add] at h1
    rw [boxN_at HIJ.out.2.2.1]
    have := HLT.out
    have h2 : boxN (wz.setCell ⟨E,0,none⟩ (.int .i64 ((j : Int) + 1))) (.pointer (some ⟨E,0,none⟩)) = j + 1 := h1
    rw [h2]; omega
 | false =>
   obtain ⟨va,vc,hv⟩ := own_sl HIJ.out.2.2.2.2.1
   subst hv
   have HBX : Hid (w.heap.size + 1 ≤ wz.heap.size) := hid (by have := (Array.getElem?_eq_some_iff.1 HIJ.out.2.2.1).1; have := HIJ.out.2.2.2.1; omega)
   have HACL : Hid (acc.length + 1 ≤ 1048578) := hid (by have := HIJ.out.2.2.2.2.2.2; have := HS.out; omega)
   by_cases hje : j = s.length
   ·have hje' : ((j : Int) == (s.length : Int)) = true := by simp; omega
    have HJE := hid hje
    clear hje
    go_wp2_with (at_builtin; refine qce rfl _ _ 96 rfl 102 3 32 Tryz.underlying96 tokElem rfl (owns_at HIJ.out.2.2.2.2.1 (qag.alloc _ _)) (news := Tok.cells ⟨0,[],j⟩) rfl (qcp rfl) rfl (tok_ones _) ?d1 ?d2 ?d3 ?_)
    case d1 => have := HACL.out; omega
    case d2 => have := HACL.out; unfold maxLen; omega
    case d3 => have := HBX.out; simp; omega
    intro v7 w7 hA7
    have hO' := owns_at HIJ.out.2.2.2.2.1 (qag.alloc wz (.cells #[.int .u8 0,.string ⟨#[]⟩,.int .i64 (j : Int)] 102))
    have hk : Keeps (fun b => b < w.heap.size + 1) (wz.alloc (.cells #[.int .u8 0,.string ⟨#[]⟩,.int .i64 (j : Int)] 102)) w7 := by
     rcases hA7.kind with ⟨g,cap,hv,-,k⟩ | ⟨k,-⟩
     ·exact k.mono fun b _ hb e => by subst e; have := (ownb hO' b (by rw [hv]; rfl)).1; omega
     ·exact (k.keeps _)
    have HLW7 := hid (later_keep (HIJ.out.1.alloc' _) hk (by omega))
    have HOWN := hid hA7.own
    obtain ⟨a7,c7,rfl⟩ := own_sl HOWN.out
    have HDONE : Hid (T = .ok (acc ++ [⟨0,[],s.length⟩])) := hid (by have h := HATJ.out; rw [HJE.out] at h; exact h.done)
    clear hA7 hO' hk
    go_wp2_with fail
    go_ret
    refine ⟨HLW7.out,?_⟩
    rw [← HTT.out,HDONE.out]
    refine ⟨_,rfl,?_⟩
    have h := HOWN.out
    rw [tokCells_snoc,HJE.out] at h
    rw [List.length_append]
    exact h
   ·have hje' : ((j : Int) == (s.length : Int)) = false := by simp; omega
    have hlt : j < s.length := by have := HIJ.out.2.2.2.2.2.2.2; omega
    have HLT := hid hlt
    obtain ⟨c,hc⟩ : ∃ c,s[j]'hlt = c := ⟨_,rfl⟩
    have HC := hid hc
    have HNS : Hid (spaceB c = false) := hid (by have h := HB.out; rw [← hc]; simpa [hlt] using h.symm)
    have hidx : ∀ (h : j < (qah s).size),(qah s)[j]'h = c := fun h => hc
    clear hc
    have hj0 : (0 : Int) ≤ j := by omega
    have hlt' : (j : Int) < s.length := by omega
    have hj1 : ¬ (9223372036854775807 : Int) < j + 1 := by have := HS.out; omega
    clear hje
    go_wp2_with fail
    obtain ⟨wt,hwt⟩ : ∃ wt,wt = wz.alloc (.cells #[.int .u8 0,.string ⟨#[]⟩,.int .i64 (j : Int)] 102 (0,0)) := ⟨_,rfl⟩
    obtain ⟨K,hK⟩ : ∃ K,K = wz.heap.size := ⟨_,rfl⟩
    have HIT : Hid (qer w s acc (.slice va acc.length vc) j E wt) := hid (by rw [hwt]; exact HIJ.out.alloc _)
    have HTK : Hid (TokObj wt K 0 [] j) := hid (by rw [hwt,hK]; exact qap _ _)
    have HKE : Hid (E < K ∧ (Value.slice va acc.length vc).ownBlock ≠ some K) := hid (by
     rw [hK]
     exact ⟨(Array.getElem?_eq_some_iff.1 HIJ.out.2.2.1).1,fun h => by have := (ownb HIJ.out.2.2.2.2.1 _ h).2; omega⟩)
    rw [← hwt,← hK]
    clear hwt hK hx he
    have hx := HIT.out.2.1
    have he := qac (i := 0) HIT.out.2.2.1 rfl
    have hX : w.heap.size < wt.heap.size := qad hx
    have hE : E < wt.heap.size := qad he
    refine qaj (by kernel_rfl) (by kernel_rfl) qag qag.refl qag.trans (fun _ => none) (fun _ _ _ _ _ h => by cases h) ?_
    simp only [qam,Nat.reduceAdd]
    refine LexS.out ?_
    iterate 7
     first
     | (refine LexS.skip rfl ?_; simp only [Act.put,sib,List.set])
     | (refine LexS.one' rfl rfl ?_
        apply Exists.intro
        refine ⟨fun w hR hF => ?_,?_⟩
        ·have hP := hR
         repeat (first | replace hP := qag.of_drew hP | replace hP := qag.of_drewN hP | replace hP := qag.of_alloc hP)
         have hcs := hR.cells
         have zhx := hP.cell hx
         have zhe := hP.cell he
         clear hR hF hP
         go_simp
         first | done | rfl
        simp only [Act.put,sib,List.set])
    refine LexS.nil ?_
    intro w4 hR4 hF9
    clear hF9
    repeat (first | replace hR4 := qag.of_drew hR4 | replace hR4 := qag.of_drewN hR4 | replace hR4 := qag.of_alloc hR4)
    have HR4 := hid hR4
    have HI4 := hid (HIT.out.later hR4)
    have HTK4 : Hid (TokObj w4 K 0 [] j) := hid (hR4.obj HTK.out)
    clear hR4 hx he hX hE hidx
    have hx := HI4.out.2.1
    have he := qac (i := 0) HI4.out.2.2.1 rfl
    have hj1' : IntKind.i64.wrap ((j : Int) + 1) = ((j + 1 : Nat) : Int) := by rw [IntKind.wrap_i64]; omega
    simp only [hj1']
    clear hj1'
    go_upto_block 4 with (fail)
    obtain ⟨R5,hR5⟩ : ∃ RR_ : (Nat → Value) → World → Prop,RR_ = (fun us wy => ∃ (k : UInt8) (m : Nat),us 6 = .int .i64 ((j + m : Nat) : Int) ∧ 1 ≤ m ∧ j + m ≤ s.length + 1 ∧ (j + m ≤ s.length → qds c (s.drop (j + 1)) = some (k,m)) ∧ (s.length < j + m → qds c (s.drop (j + 1)) = none) ∧ qer w s acc (.slice va acc.length vc) j E wy ∧ TokObj wy K k [] j) := ⟨_,rfl⟩
    have HR5 := hid hR5; clear hR5
    refine qau [ff,ff,ff,ff,ff,ff,true,true,ff,ff,ff,ff,ff,ff,ff,ff,ff,ff,ff,ff,ff,ff,ff,ff,ff,ff,ff,ff,ff,ff,ff,ff,ff,ff,ff,ff,ff,ff,ff,ff,ff,ff,ff,ff,ff,ff,ff,ff,true,true,true,true,true,true,true,true,true,true,true,true,true,true,true,true,true,true,true,true,true,true,true,true,true,true,true,true,true,true,true,true,true,true,true,true,true,true,true,true,true,true,true,true,true,true,true,true,true,true,true,true,true,true,true,true,true,true,true,true,true,true,true] R5 _ HR5.out ?_ ?_
    ·go_upto_region 13 with (fail)
     obtain ⟨R6,hR6⟩ : ∃ RR_ : (Nat → Value) → World → Prop,RR_ = (fun us wy => us 63 = .bool (wordB c) ∧ wy = w4) := ⟨_,rfl⟩
     have HR6 := hid hR6; clear hR6
     refine qau [ff,ff,ff,ff,ff,ff,ff,ff,ff,ff,ff,ff,ff,ff,ff,ff,ff,ff,ff,ff,ff,ff,ff,ff,ff,ff,ff,ff,ff,ff,ff,ff,ff,ff,ff,ff,ff,ff,ff,ff,ff,ff,ff,ff,ff,ff,ff,ff,ff,ff,ff,ff,ff,ff,ff,ff,ff,ff,ff,ff,ff,ff,ff,true,true,true,true,true,true,true] R6 _ HR6.out ?_ ?_
     ·have HWB : Hid (wordB c = (qcs c || qde c)) := hid rfl
      go_wp2_with fail
      refine (letter_any c _).mono ?_
      rintro e w' ⟨rfl,rfl⟩
      cases hl : qcs c with
      | true =>
        go_wp2_with fail
        refine Meet.mk' HR6.out rfl ?_
        exact ⟨by simp [qas,HWB.out,hl],rfl⟩
      | false =>
        go_wp2_with fail
        refine (digit_any c _).mono ?_
        rintro e w' ⟨rfl,rfl⟩
        go_wp2_with fail
        refine Meet.mk' HR6.out rfl ?_
        exact ⟨by simp [qas,HWB.out,hl],rfl⟩
     intro us6 wy hrel
     obtain ⟨h63,rfl⟩ := hrel
     simp only [qao,Nat.reduceAdd,h63]
     have Hh63 := hid h63; clear h63
     cases hw : wordB c with
     | true =>
       have HW := hid hw
       clear hw
       have z0 := qaq (i := 0) HTK4.out
       have k0 := qac (i := 0) HTK4.out rfl
       go_wp2_with fail
       obtain ⟨w9,hw9⟩ : ∃ w9,w9 = wy.setCell ⟨K,0,none⟩ (.int .u8 110) := ⟨_,rfl⟩
       have HI9 : Hid (qer w s acc (.slice va acc.length vc) j E w9) := hid (by rw [hw9]; exact HI4.out.tokSet HKE.out.1 HKE.out.2 0 _)
       have HTK9 : Hid (TokObj w9 K 110 [] j) := hid (by rw [hw9]; exact qak (i := 0) HTK4.out _)
       rw [← hw9]
       clear hw9 hx he z0 k0
       have hx := HI9.out.2.1
       have he := qac (i := 0) HI9.out.2.2.1 rfl
       obtain ⟨n,hn⟩ : ∃ n,n = ((s.drop (j + 1)).takeWhile wordB).length := ⟨_,rfl⟩
       have HN := hid hn
       have HNL : Hid (j + 1 + n ≤ s.length) := hid (by have := (List.takeWhile_prefix wordB (l := s.drop (j + 1))).length_le; rw [List.length_drop] at this; omega)
       clear hn
       obtain ⟨R7,hR7⟩ : ∃ RR_ : (Nat → Value) → World → Prop,RR_ = (fun us wv => ∃ p : Nat,us 6 = .int .i64 (p : Int) ∧ j + 1 ≤ p ∧ p ≤ j + 1 + n ∧ wv = w9) := ⟨_,rfl⟩
       obtain ⟨mu7,hmu7⟩ : ∃ mu : (Nat → Value) → World → Nat,mu = (fun us _ => s.length - (intOf (us 6)).toNat) := ⟨_,rfl⟩
       have HR7 := hid hR7; have Hmu7 := hid hmu7; clear hR7 hmu7
       refine qal [ff,ff,ff,ff,ff,ff,true,ff,ff,ff,ff,ff,ff,ff,ff,ff,ff,ff,ff,ff,ff,ff,ff,ff,ff,ff,ff,ff,ff,ff,ff,ff,ff,ff,ff,ff,ff,ff,ff,ff,ff,ff,ff,ff,ff,ff,ff,ff,ff,ff,ff,ff,ff,ff,ff,ff,ff,ff,ff,ff,ff,ff,ff,ff,ff,ff,ff,ff,ff,ff,ff,true,true,true,true,true,true,true,true,true,true,true,true,true,true,true,true,true,true] R7 _ mu7 HR7.out ?_ ?_
       ·exact ⟨j + 1,by simp [qas],by omega,by omega,rfl⟩
       intro us7 wv hrel
       obtain ⟨p,h6,hp1,hp2,rfl⟩ := hrel
       simp only [qao,Nat.reduceAdd,h6]
       have Hh6 := hid h6; clear h6
       go_upto_region 15 with (fail)
       obtain ⟨b4,hb4⟩ : ∃ b4 : Bool,decide (p < j + 1 + n) = b4 := ⟨_,rfl⟩
       have HB4 := hid hb4
       have HP2 := hid hp2
       clear hb4
       obtain ⟨R8,hR8⟩ : ∃ RR_ : (Nat → Value) → World → Prop,RR_ = (fun us wu => us 86 = .bool b4 ∧ wu = wv) := ⟨_,rfl⟩
       have HR8 := hid hR8; clear hR8
       refine qau [ff,ff,ff,ff,ff,ff,ff,ff,ff,ff,ff,ff,ff,ff,ff,ff,ff,ff,ff,ff,ff,ff,ff,ff,ff,ff,ff,ff,ff,ff,ff,ff,ff,ff,ff,ff,ff,ff,ff,ff,ff,ff,ff,ff,ff,ff,ff,ff,ff,ff,ff,ff,ff,ff,ff,ff,ff,ff,ff,ff,ff,ff,ff,ff,ff,ff,ff,ff,ff,ff,ff,true,true,true,true,true,true,true,true,true,true,true,true,true,true,true,true] R8 _ HR8.out ?_ ?_
       ·have hwa := while_at wordB (s := s) hp1 (by rw [← HN.out]; exact hp2)
        rw [← HN.out] at hwa
        rcases hwa with ⟨hpl,hwa⟩ | ⟨hpl,hwa⟩
        ·obtain ⟨d,hd⟩ : ∃ d,s[p]'hpl = d := ⟨_,rfl⟩
         rw [hd] at hwa
         have hidx : ∀ (h : p < (qah s).size),(qah s)[p]'h = d := fun h => hd
         have hpl' : (p : Int) < s.length := by omega
         have hp0 : (0 : Int) ≤ p := by omega
         have HDB : Hid (b4 = wordB d) := hid (by
          rw [← HB4.out]
          rcases hwa with ⟨a,b⟩ | ⟨a,b⟩
          ·rw [a]; exact decide_eq_true (by omega)
          ·rw [a]; exact decide_eq_false (by omega))
         have HWB : Hid (wordB d = (qcs d || qde d)) := hid rfl
         clear hwa hd hp2
         go_wp2_with fail
         refine (letter_any d _).mono ?_
         rintro e w' ⟨rfl,rfl⟩
         cases hl : qcs d with
         | true =>
           go_wp2_with fail
           refine Meet.mk' HR8.out rfl ?_
           exact ⟨by simp [qas,HDB.out,HWB.out,hl],rfl⟩
         | false =>
           go_wp2_with fail
           refine (digit_any d _).mono ?_
           rintro e w' ⟨rfl,rfl⟩
           go_wp2_with fail
           refine Meet.mk' HR8.out rfl ?_
           exact ⟨by simp [qas,HDB.out,HWB.out,hl],rfl⟩
        ·have hpl' : ¬ (p : Int) < s.length := by omega
         have HDB : Hid (b4 = false) := hid (by rw [← HB4.out]; exact decide_eq_false (by omega))
         clear hwa hp2
         go_wp2_with fail
         refine Meet.mk' HR8.out rfl ?_
         exact ⟨by simp [qas,HDB.out],rfl⟩
       intro us8 wu hrel
       obtain ⟨h86,rfl⟩ := hrel
       simp only [qao,Nat.reduceAdd,h86]
       have Hh86 := hid h86; clear h86
       clear hp2
       cases b4 with
       | true =>
         have HPN : Hid (p < j + 1 + n) := hid (of_decide_eq_true HB4.out)
         have hp1' : ¬ (9223372036854775807 : Int) < p + 1 := by have := HS.out; have := HNL.out; have := HP2.out; omega
         go_wp2_with fail
         refine Round.mk' HR7.out Hmu7.out rfl ?_ ?_
         ·exact ⟨p + 1,by go_num,by omega,by have := HPN.out; omega,rfl⟩
         ·rw [Hh6.out]; have := HPN.out; have := HNL.out; simp [intOf,qas]; omega
       | false =>
         have HPE : Hid (p = j + 1 + n) := hid (by have h1 := of_decide_eq_false HB4.out; have h2 := HP2.out; omega)
         go_wp2_with fail
         refine (digit_any c _).mono ?_
         rintro e w' ⟨rfl,rfl⟩
         have z0 := qaq (i := 0) HTK9.out
         have k0 := qac (i := 0) HTK9.out rfl
         have HTA : Hid (qds c (s.drop (j + 1)) = some (if qde c = true then 48 else 110,1 + n)) := hid (by unfold qds; rw [if_pos HW.out,HN.out])
         cases hdg : qde c with
         | true =>
           go_wp2_with fail
           refine Meet.mk' HR5.out rfl ?_
           refine ⟨48,1 + n,by simp [qas,HPE.out]; omega,by omega,by have := HNL.out; omega,fun _ => by rw [HTA.out,hdg]; rfl,fun h => by have := HNL.out; omega,HI9.out.tokSet HKE.out.1 HKE.out.2 0 _,qak (i := 0) HTK9.out _⟩
         | false =>
           go_wp2_with fail
           refine Meet.mk' HR5.out rfl ?_
           refine ⟨110,1 + n,by simp [qas,HPE.out]; omega,by omega,by have := HNL.out; omega,fun _ => by rw [HTA.out,hdg]; rfl,fun h => by have := HNL.out; omega,HI9.out,HTK9.out⟩
     | false =>
       have HW := hid hw
       clear hw
       go_upto_region 19 with (fail)
       by_cases hq : c = 39
       ·have HQ := hid hq
        have hcb : ((c.toNat : Int) == 39) = true := by rw [hq]; decide
        clear hq
        have z0 := qaq (i := 0) HTK4.out
        have k0 := qac (i := 0) HTK4.out rfl
        go_wp2_with fail
        obtain ⟨w9,hw9⟩ : ∃ w9,w9 = wy.setCell ⟨K,0,none⟩ (.int .u8 (c.toNat : Int)) := ⟨_,rfl⟩
        have HI9 : Hid (qer w s acc (.slice va acc.length vc) j E w9) := hid (by rw [hw9]; exact HI4.out.tokSet HKE.out.1 HKE.out.2 0 _)
        have HTK9 : Hid (TokObj w9 K c [] j) := hid (by rw [hw9]; exact qak (i := 0) HTK4.out _)
        rw [← hw9]
        clear hw9 hx he z0 k0 hcb
        have hx := HI9.out.2.1
        have he := qac (i := 0) HI9.out.2.2.1 rfl
        obtain ⟨n,hn⟩ : ∃ n,n = ((s.drop (j + 1)).takeWhile qdu).length := ⟨_,rfl⟩
        have HN := hid hn
        have HNL : Hid (j + 1 + n ≤ s.length) := hid (by have := (List.takeWhile_prefix qdu (l := s.drop (j + 1))).length_le; rw [List.length_drop] at this; omega)
        clear hn
        obtain ⟨R7,hR7⟩ : ∃ RR_ : (Nat → Value) → World → Prop,RR_ = (fun us wv => ∃ p : Nat,us 6 = .int .i64 (p : Int) ∧ j + 1 ≤ p ∧ p ≤ j + 1 + n ∧ wv = w9) := ⟨_,rfl⟩
        obtain ⟨mu7,hmu7⟩ : ∃ mu : (Nat → Value) → World → Nat,mu = (fun us _ => s.length - (intOf (us 6)).toNat) := ⟨_,rfl⟩
        have HR7 := hid hR7; have Hmu7 := hid hmu7; clear hR7 hmu7
        refine qal [ff,ff,ff,ff,ff,ff,true,ff,ff,ff,ff,ff,ff,ff,ff,ff,ff,ff,ff,ff,ff,ff,ff,ff,ff,ff,ff,ff,ff,ff,ff,ff,ff,ff,ff,ff,ff,ff,ff,ff,ff,ff,ff,ff,ff,ff,ff,ff,ff,ff,ff,ff,ff,ff,ff,ff,ff,ff,ff,ff,ff,ff,ff,ff,ff,ff,ff,ff,ff,ff,ff,ff,ff,ff,ff,ff,ff,ff,ff,ff,ff,ff,ff,ff,ff,ff,ff,ff,ff,ff,ff,ff,ff,ff,ff,ff,ff,true,true,true,true,true,true,true,true,true,true,true,true] R7 _ mu7 HR7.out ?_ ?_
        ·exact ⟨j + 1,by simp [qas],by omega,by omega,rfl⟩
        intro us7 wv hrel
        obtain ⟨p,h6,hp1,hp2,rfl⟩ := hrel
        simp only [qao,Nat.reduceAdd,h6]
        have Hh6 := hid h6; clear h6
        go_upto_region 21 with (fail)
        obtain ⟨b4,hb4⟩ : ∃ b4 : Bool,decide (p < j + 1 + n) = b4 := ⟨_,rfl⟩
        have HB4 := hid hb4
        have HP2 := hid hp2
        clear hb4
        obtain ⟨R8,hR8⟩ : ∃ RR_ : (Nat → Value) → World → Prop,RR_ = (fun us wu => us 106 = .bool b4 ∧ wu = wv) := ⟨_,rfl⟩
        have HR8 := hid hR8; clear hR8
        refine qau [ff,ff,ff,ff,ff,ff,ff,ff,ff,ff,ff,ff,ff,ff,ff,ff,ff,ff,ff,ff,ff,ff,ff,ff,ff,ff,ff,ff,ff,ff,ff,ff,ff,ff,ff,ff,ff,ff,ff,ff,ff,ff,ff,ff,ff,ff,ff,ff,ff,ff,ff,ff,ff,ff,ff,ff,ff,ff,ff,ff,ff,ff,ff,ff,ff,ff,ff,ff,ff,ff,ff,ff,ff,ff,ff,ff,ff,ff,ff,ff,ff,ff,ff,ff,ff,ff,ff,ff,ff,ff,ff,ff,ff,ff,ff,ff,ff,true,true,true,true,true,true,true,true,true,true] R8 _ HR8.out ?_ ?_
        ·have hwa := while_at qdu (s := s) hp1 (by rw [← HN.out]; exact hp2)
         rw [← HN.out] at hwa
         rcases hwa with ⟨hpl,hwa⟩ | ⟨hpl,hwa⟩
         ·obtain ⟨d,hd⟩ : ∃ d,s[p]'hpl = d := ⟨_,rfl⟩
          rw [hd] at hwa
          have hidx : ∀ (h : p < (qah s).size),(qah s)[p]'h = d := fun h => hd
          have hpl' : (p : Int) < s.length := by omega
          have hp0 : (0 : Int) ≤ p := by omega
          have HDB : Hid (b4 = qdu d) := hid (by
           rw [← HB4.out]
           rcases hwa with ⟨a,b⟩ | ⟨a,b⟩
           ·rw [a]; exact decide_eq_true (by omega)
           ·rw [a]; exact decide_eq_false (by omega))
          clear hwa hd hp2
          by_cases hd39 : d = 39
          ·have hcb : ((d.toNat : Int) == 39) = true := by rw [hd39]; decide
           have HNQ : Hid (qdu d = false) := hid (by rw [hd39]; rfl)
           clear hd39
           go_wp2_with fail
           refine Meet.mk' HR8.out rfl ?_
           exact ⟨by simp [qas,HDB.out,HNQ.out]; simpa using hcb,rfl⟩
          ·have hcb : ((d.toNat : Int) == 39) = false := by
            have : d.toNat ≠ 39 := fun h => hd39 (UInt8.toNat_inj.1 h)
            simp; omega
           have HNQ : Hid (qdu d = true) := hid (by unfold qdu; simpa using hd39)
           clear hd39
           go_wp2_with fail
           refine Meet.mk' HR8.out rfl ?_
           exact ⟨by simp [qas,HDB.out,HNQ.out]; simpa using hcb,rfl⟩
         ·have hpl' : ¬ (p : Int) < s.length := by omega
          have HDB : Hid (b4 = false) := hid (by rw [← HB4.out]; exact decide_eq_false (by omega))
          clear hwa hp2
          go_wp2_with fail
          refine Meet.mk' HR8.out rfl ?_
          exact ⟨by simp [qas,HDB.out],rfl⟩
        intro us8 wu hrel
        obtain ⟨h106,rfl⟩ := hrel
        simp only [qao,Nat.reduceAdd,h106]
        have Hh106 := hid h106; clear h106
        clear hp2
        cases b4 with
        | true =>
          have HPN : Hid (p < j + 1 + n) := hid (of_decide_eq_true HB4.out)
          have hp1' : ¬ (9223372036854775807 : Int) < p + 1 := by have := HS.out; have := HNL.out; have := HP2.out; omega
          go_wp2_with fail
          refine Round.mk' HR7.out Hmu7.out rfl ?_ ?_
          ·exact ⟨p + 1,by go_num,by omega,by have := HPN.out; omega,rfl⟩
          ·rw [Hh6.out]; have := HPN.out; have := HNL.out; simp [intOf,qas]; omega
        | false =>
          have HPE : Hid (p = j + 1 + n) := hid (by have h1 := of_decide_eq_false HB4.out; have h2 := HP2.out; omega)
          have hp1' : ¬ (9223372036854775807 : Int) < p + 1 := by have := HS.out; have := HNL.out; have := HP2.out; omega
          have HTA : Hid (qds c (s.drop (j + 1)) = if n < (s.drop (j + 1)).length then some (39,n + 2) else none) := hid (by
           unfold qds
           rw [if_neg (by rw [HW.out]; simp),if_pos HQ.out,HN.out])
          go_wp2_with fail
          refine Meet.mk' HR5.out rfl ?_
          refine ⟨c,n + 2,by simp [qas,HPE.out]; omega,by omega,by have := HNL.out; omega,fun h => ?_,fun h => ?_,HI9.out,HTK9.out⟩
          ·rw [HTA.out,if_pos (by simp; omega),HQ.out]
          ·rw [HTA.out,if_neg (by simp; omega)]
       ·have hcb : ((c.toNat : Int) == 39) = false := by
         have : c.toNat ≠ 39 := fun h => hq (UInt8.toNat_inj.1 h)
         simp; omega
        have HQ := hid hq
        clear hq
        have z0 := qaq (i := 0) HTK4.out
        have k0 := qac (i := 0) HTK4.out rfl
        go_wp2_with fail
        obtain ⟨w9,hw9⟩ : ∃ w9,w9 = wy.setCell ⟨K,0,none⟩ (.int .u8 111) := ⟨_,rfl⟩
        have HI9 : Hid (qer w s acc (.slice va acc.length vc) j E w9) := hid (by rw [hw9]; exact HI4.out.tokSet HKE.out.1 HKE.out.2 0 _)
        have HTK9 : Hid (TokObj w9 K 111 [] j) := hid (by rw [hw9]; exact qak (i := 0) HTK4.out _)
        rw [← hw9]
        clear hw9 hx he z0 k0 hcb
        refine (fields_ops _ (HT.out.later HI9.out.1)).mono ?_
        rintro e w5 ⟨rfl,hw5⟩
        have HSA : Hid (qdh w5 w9.heap.size 0 qcj) := hid (by rw [hw5]; exact strs_alloc w9 qcj _)
        have HI5 : Hid (qer w s acc (.slice va acc.length vc) j E w5) := hid (by rw [hw5]; exact HI9.out.alloc _)
        have HTK5 : Hid (TokObj w5 K 111 [] j) := hid (by rw [hw5]; exact (qag.alloc _ _).obj HTK9.out)
        clear hw5
        have HLE : Hid (j ≤ s.length) := hid (by omega)
        have hx := HI5.out.2.1
        have he := qac (i := 0) HI5.out.2.2.1 rfl
        go_wp2_with fail
        refine (idxf 68 (enters_of Tryz.func68 (by kernel_rfl) rfl) #[.pointer (some ⟨w.heap.size,0,none⟩),.pointer (some ⟨E,0,none⟩)] w9.heap.size 0 15 qcj w5 (fun o => o.isPrefixOf (s.drop j)) (fun w' => w' = w5) (fun _ w' => w' = w5) (fun w' h => by rw [h]; exact HSA.out) rfl (by decide) (fun o _ w' h => by
         subst h
         exact (lex1_any s o _ _ j w' hx he HLE.out HS.out).mono fun e w'' ⟨h1,h2⟩ => ⟨h1,fun _ => h2,fun _ => h2⟩)).mono ?_
        intro e w6 hF
        have HDR : Hid (s.drop j = c :: s.drop (j + 1)) := hid (by rw [List.drop_eq_getElem_cons hlt,HC.out])
        rcases hF with ⟨rfl,rfl,hno⟩ | ⟨k,hk,rfl,hqk,rfl,hbe⟩
        ·have HBAD : Hid (T = .error j) := hid (by
          refine HATJ.out.bad hlt (by rw [HC.out]; exact HNS.out) ?_
          rw [HC.out]
          unfold qds
          rw [if_neg (by rw [HW.out]; simp),if_neg HQ.out,if_pos]
          unfold qeh
          rw [← HDR.out,List.find?_eq_none.2 (fun x hx => by have h := hno x hx; simp only at h; rw [h]; simp)])
         clear hno
         go_wp2_with fail
         refine (qbn 1 j _).mono ?_
         rintro e w' ⟨hfl,rfl⟩
         unfold qbr at hfl
         subst hfl
         simp only [Exit.then,Exit.inBlock]
         refine ⟨rfl,HI5.out.1,?_⟩
         rw [← HTT.out,HBAD.out]
         exact rfl
        ·have HG : Hid ((qcj[k]'hk).isPrefixOf (s.drop j) = true) := hid hqk
         have HFD : Hid (qcj.find? (fun o => o.isPrefixOf (c :: s.drop (j + 1))) = some (qcj[k]'hk)) := hid (by
          rw [← HDR.out]
          exact List.find?_eq_some_iff_getElem.2 ⟨hqk,k,hk,rfl,fun i hi => by have h := hbe i (by omega) hi; simp only at h; rw [h]; rfl⟩)
         have HGL : Hid (1 ≤ (qcj[k]'hk).length) := hid (by
          have : ∀ g ∈ qcj,1 ≤ g.length := by decide
          exact this _ (List.getElem_mem _))
         have HGS : Hid (j + (qcj[k]'hk).length ≤ s.length) := hid (by
          have h := (List.isPrefixOf_iff_prefix.1 hqk).length_le
          rw [List.length_drop] at h
          omega)
         have HTA : Hid (qds c (s.drop (j + 1)) = some (111,(qcj[k]'hk).length)) := hid (by
          have hsl : qeh (c :: s.drop (j + 1)) = (qcj[k]'hk).length := by unfold qeh; rw [HFD.out]
          unfold qds
          rw [if_neg (by rw [HW.out]; simp),if_neg HQ.out,hsl,if_neg (by have := HGL.out; omega)])
         have hk15 : (k : Int) < 15 := by have : qcj.length = 15 := rfl; omega
         have hk0 : (0 : Int) ≤ k := by omega
         obtain ⟨g,hg⟩ : ∃ g,qcj[k]'hk = g := ⟨_,rfl⟩
         have HGG : Hid (qcj[k]? = some g) := hid (by rw [List.getElem?_eq_getElem hk,hg])
         rw [hg] at HG HFD HGL HGS HTA
         have hkn : ((k : Int) < 0) = False := by simp
         have HK15 := hid hk15
         have HKL := hid hk
         clear hqk hbe hg hk15 hk0 hk
         go_upto_region 12 with (fail)
         have hX : w.heap.size < w6.heap.size := qad hx
         have hE : E < w6.heap.size := qad he
         refine qaj (by kernel_rfl) (by kernel_rfl) qag qag.refl qag.trans (kinds [(1,fun v w => ∃ b,v = .slice (some ⟨b,0,none⟩) 15 15 ∧ qdh w b 0 qcj),(3,fun v w => ∃ b,v = .pointer (some ⟨b,k,none⟩) ∧ w.cell? ⟨b,k,none⟩ = some (.string (qah g)))]) (qcr (by simp only [List.mem_cons,List.not_mem_nil,or_false,forall_eq_or_imp,forall_eq]; exact ⟨fun _ _ _ hR ⟨b,h,h'⟩ => ⟨b,h,h'.later hR⟩,fun _ _ _ hR ⟨b,h,h'⟩ => ⟨b,h,hR.cell h'⟩⟩)) ?_
         simp only [qam,Nat.reduceAdd]
         refine LexS.out ?_
         iterate 1
          first
          | (refine LexS.skip rfl ?_; simp only [Act.put,sib,List.set])
          | (refine LexS.one' rfl rfl ?_
             apply Exists.intro
             refine ⟨fun w hR hF => ?_,?_⟩
             ·have hP := hR
              repeat (first | replace hP := qag.of_drew hP | replace hP := qag.of_drewN hP | replace hP := qag.of_alloc hP)
              have hcs := hR.cells
              have zhe := hP.cell he
              clear hR hF hP
              go_simp
              first | done | rfl
             simp only [Act.put,sib,List.set])
         refine LexS.any rfl rfl (fun w hR hF => ?_) ?_
         ·have hP := hR
          repeat (first | replace hP := qag.of_drew hP | replace hP := qag.of_drewN hP | replace hP := qag.of_alloc hP)
          have hsz := hP.size
          clear hF hR
          unfold Runs
          go_simp
          refine yield_enter ?_
          refine (fields_ops _ (HT.out.later (qag.trans _ _ _ HI5.out.1 hP))).mono ?_
          rintro e w' ⟨rfl,rfl⟩
          exact ⟨_,rfl,(qag.alloc _ _),⟨_,rfl,strs_alloc _ _ _⟩⟩
         rintro vk_ ⟨wk_,hRk_,hFk_⟩
         obtain ⟨b1,rfl,-⟩ := hFk_ _ List.mem_cons_self _ rfl
         clear hFk_ hRk_ wk_
         simp only [Act.put,sib,List.set]
         iterate 1
          first
          | (refine LexS.skip rfl ?_; simp only [Act.put,sib,List.set])
          | (refine LexS.one' rfl rfl ?_
             apply Exists.intro
             refine ⟨fun w hR hF => ?_,?_⟩
             ·have hP := hR
              repeat (first | replace hP := qag.of_drew hP | replace hP := qag.of_drewN hP | replace hP := qag.of_alloc hP)
              have hcs := hR.cells
              clear hR hF hP
              go_simp
              first | done | rfl
             simp only [Act.put,sib,List.set])
         refine LexS.any rfl rfl (fun w hR hF => ?_) ?_
         ·obtain ⟨b',hb,h15⟩ := hF _ List.mem_cons_self (by kernel_rfl) _ rfl
          obtain rfl : b1 = b' := by simpa using hb
          have hcc := h15 k HKL.out
          have hg2 : qcj[k]'HKL.out = g := Option.some.inj ((List.getElem?_eq_getElem HKL.out).symm.trans HGG.out)
          rw [hg2,Nat.zero_add] at hcc
          have hk15 := HK15.out
          clear hF hR hb h15 hg2
          unfold Runs
          go_simp
          exact yield_value (qag.refl _) ⟨_,rfl,hcc⟩
         rintro v59 ⟨w2,hR2,hF2⟩
         obtain ⟨b3,rfl,-⟩ := hF2 _ List.mem_cons_self _ rfl
         clear hF2 hR2 w2
         simp only [Act.put,sib,List.set]
         refine LexS.one' rfl rfl ⟨.string (qah g),fun w hR hF => ?_,?_⟩
         ·obtain ⟨b',hb,hcc⟩ := hF _ List.mem_cons_self (by kernel_rfl) _ rfl
          obtain rfl : b3 = b' := by simpa using hb
          clear hF hR hb
          go_simp
          first | done | rfl
         simp only [Act.put,sib,List.set]
         iterate 3
          first
          | (refine LexS.skip rfl ?_; simp only [Act.put,sib,List.set])
          | (refine LexS.one' rfl rfl ?_
             apply Exists.intro
             refine ⟨fun w hR hF => ?_,?_⟩
             ·have hP := hR
              repeat (first | replace hP := qag.of_drew hP | replace hP := qag.of_drewN hP | replace hP := qag.of_alloc hP)
              have hcs := hR.cells
              clear hR hF hP
              go_simp
              first | done | rfl
             simp only [Act.put,sib,List.set])
         refine LexS.nil ?_
         intro w7 hR7 hF9
         clear hF9
         repeat (first | replace hR7 := qag.of_drew hR7 | replace hR7 := qag.of_drewN hR7 | replace hR7 := qag.of_alloc hR7)
         have HI7 := hid (HI5.out.later hR7)
         have HTK7 : Hid (TokObj w7 K 111 [] j) := hid (hR7.obj HTK5.out)
         have hwr : IntKind.i64.wrap ((j : Int) + ((qah g).size : Int)) = ((j + g.length : Nat) : Int) := by
          rw [qax g,IntKind.wrap_i64]
          have := HGS.out; have := HS.out; omega
         simp only [Exit.then,Exit.inBlock,hwr]
         refine Meet.mk' HR5.out rfl ?_
         exact ⟨111,g.length,by simp [qas],HGL.out,by have := HGS.out; omega,fun _ => HTA.out,fun h => by have := HGS.out; omega,HI7.out,HTK7.out⟩
    intro us5 wy hrel
    obtain ⟨k,m,h6,hm1,hm2,htok,hnone,hi5,htk5⟩ := hrel
    simp only [qao,Nat.reduceAdd,h6]
    have Hh6 := hid h6; clear h6
    have HTOK := hid htok; have HNONE := hid hnone; have HI5 := hid hi5; have HTK5 := hid htk5
    have HM := hid (And.intro hm1 hm2)
    clear htok hnone hi5 htk5 hm1 hm2 hx he
    have hx := HI5.out.2.1
    have he := qac (i := 0) HI5.out.2.2.1 rfl
    obtain ⟨p,hp⟩ : ∃ p,j + m = p := ⟨_,rfl⟩
    have HP := hid hp
    rw [hp]
    clear hp
    by_cases hpl : p ≤ s.length
    ·have hpl' : ¬ (s.length : Int) < p := by omega
     have hjp : (j : Int) ≤ p := by have := HP.out; omega
     have hp0 : (0 : Int) ≤ p := by omega
     have hpl2 : (p : Int) ≤ s.length := by omega
     have HPL := hid hpl
     have hcut : (qah s).extract j p = qah ((s.drop j).take m) := by rw [qdi]; congr 2; have := HP.out; omega
     have z1 := qaq (i := 1) HTK5.out
     have k0 := qac (i := 0) HTK5.out rfl
     have k1 := qac (i := 1) HTK5.out rfl
     have k2 := qac (i := 2) HTK5.out rfl
     clear hpl
     go_upto_region 27 with (fail)
     obtain ⟨t,ht⟩ : ∃ t,t = (s.drop j).take m := ⟨_,rfl⟩
     have HTX := hid ht
     obtain ⟨w9,hw9⟩ : ∃ w9,w9 = wy.setCell ⟨K,1,none⟩ (.string (qah ((s.drop j).take m))) := ⟨_,rfl⟩
     have HI9 : Hid (qer w s acc (.slice va acc.length vc) j E w9) := hid (by rw [hw9]; exact HI5.out.tokSet HKE.out.1 HKE.out.2 1 _)
     have HTK9 : Hid (TokObj w9 K k t j) := hid (by rw [hw9,ht]; exact qak (i := 1) HTK5.out _)
     rw [← hw9]
     clear hw9 hx he z1 k0 k1 k2 hcut ht
     have he := qac (i := 0) HI9.out.2.2.1 rfl
     have k0 := qac (i := 0) HTK9.out rfl
     have k1 := qac (i := 1) HTK9.out rfl
     have k2 := qac (i := 2) HTK9.out rfl
     go_wp2_with (at_builtin; refine qce rfl _ _ 96 rfl 102 3 32 Tryz.underlying96 tokElem rfl (owns_at HI9.out.2.2.2.2.1 (qag.alloc _ _)) (news := Tok.cells ⟨k,t,j⟩) rfl (qcp rfl) rfl (tok_ones _) ?d1 ?d2 ?d3 ?_)
     case d1 => have := HACL.out; omega
     case d2 => have := HACL.out; unfold maxLen; omega
     case d3 => have := HI9.out.2.2.2.1; have := (Array.getElem?_eq_some_iff.1 HI9.out.2.2.1).1; simp; omega
     intro v7 w7 hA7
     obtain ⟨a7,c7,rfl⟩ := own_sl hA7.own
     have hnx := (HI9.out.alloc (.cells #[.int .u8 (k.toNat : Int),.string (qah t),.int .i64 (j : Int)] 102)).next (j := p) hA7 (by have := HP.out; have := HM.out.1; omega) HPL.out
     have HAE := hid hnx.1
     have HNX := hid hnx.2
     have HNAT : Hid (LexAt s p (acc ++ [⟨k,t,j⟩]) T) := hid (by
      have h := HATJ.out.tok hlt (by rw [HC.out]; exact HNS.out) (by rw [HC.out]; exact HTOK.out (by have := HP.out; have := HPL.out; omega))
      rw [HP.out,← HTX.out] at h
      exact h)
     clear hA7 hnx he k0 k1 k2
     have he := qac (i := 0) HAE.out rfl
     have ze := qaq (i := 0) HAE.out
     go_wp2_with fail
     refine Round.mk' HR1.out Hmu1.out rfl ?_ ?_
     ·exact ⟨acc ++ [⟨k,t,j⟩],.slice a7 (acc.length + 1) c7,p,w7.heap.size,rfl,rfl,HNAT.out,HNX.out⟩
     ·have h1 := boxN_at HNX.out.2.2.1
      have h2 := boxN_at HI.out.2.2.1
      rw [Hh3.out,h2]
      exact Nat.lt_of_le_of_lt (Nat.le_of_eq (congrArg (fun x => s.length - x) h1)) (by have := HP.out; have := HM.out.1; omega)
    ·have hpl' : (s.length : Int) < p := by omega
     have HBAD : Hid (T = .error j) := hid (HATJ.out.bad hlt (by rw [HC.out]; exact HNS.out) (by rw [HC.out]; exact HNONE.out (by have := HP.out; omega)))
     clear hpl
     go_wp2_with fail
     refine (qbn 1 j _).mono ?_
     rintro e w' ⟨hfl,rfl⟩
     unfold qbr at hfl
     subst hfl
     simp only [Exit.then,Exit.inBlock]
     refine ⟨rfl,HI5.out.1,?_⟩
     rw [← HTT.out,HBAD.out]
     exact rfl
end Go.Proofs.YtgajofkeidjbgaaGreatDoor
