/-
  PROVED HERE: a part of the proof of ExprEvals: TabExpr, ParTok, ParLev, ParNode, OrdTotal.
-/
import Derived.Test.YtgajofkeidjbgaaGreatDoorGDoor
import Derived.Test.YtgajofkeidjbgaaGreatDoorGExprLex2
import Derived.Test.YtgajofkeidjbgaaGreatDoorShort
import Derived.Test.YtgajofkeidjbgaaGreatDoorGData
import Derived.Test.YtgajofkeidjbgaaGreatDoorGApp
namespace Go.Proofs.YtgajofkeidjbgaaGreatDoor
set_option linter.unusedSimpArgs false
set_option linter.unusedVariables false
open Go.ChangeShapes Go.WideShapes Go.RowKit
abbrev exErr : List (String × DataW Unit) := [("math/bits.deBruijn32tab", Rows.laid_math_bits_deBruijn32tab), ("math/bits.deBruijn64tab", Rows.laid_math_bits_deBruijn64tab), ("internal/strconv.uint64pow10", Rows.laid_internal_strconv_uint64pow10), ("strconv.ErrRange", Rows.laid_strconv_ErrRange), ("strconv.ErrSyntax", Rows.laid_strconv_ErrSyntax), ("unicode.White_Space", Rows.laid_unicode_White_Space), ("strings.asciiSpace", Rows.laid_strings_asciiSpace)]
abbrev exList : List (String × DataW Unit) := [("math/bits.deBruijn32tab", Rows.laid_math_bits_deBruijn32tab), ("math/bits.deBruijn64tab", Rows.laid_math_bits_deBruijn64tab), ("internal/strconv.uint64pow10", Rows.laid_internal_strconv_uint64pow10), ("errors.errorType", Rows.laid_errors_errorType), ("strconv.ErrRange", Rows.laid_strconv_ErrRange), ("strconv.ErrSyntax", Rows.laid_strconv_ErrSyntax), ("unicode.White_Space", Rows.laid_unicode_White_Space), ("strings.asciiSpace", Rows.laid_strings_asciiSpace)]
theorem space_data : (Rows.laid_strings_asciiSpace : DataW Unit) = Lib.tabData .u8 Lib.asciiSpaceTab := by kernel_rfl
theorem space_met {W : World} {rest : List (String × DataW Unit)} (h : laidMet Tryz.prog ((("strings.asciiSpace"), Rows.laid_strings_asciiSpace) :: rest) W) : qdx W := by
 rw [space_data] at h
 exact Lib.tabIs_of_head (g := 1) (t := 179) (e := 5) (n := 256) (by kernel_rfl) (by kernel_rfl) (by kernel_rfl) (by kernel_rfl) (by kernel_rfl) (by kernel_rfl) h
theorem exErr_of {W : World} (h1 : laidMet Tryz.prog exErr W) : (qea W ∧ PowTab W) ∧ qdx W := by
 have h2 := laidMet.tail (laidMet.tail h1)
 have h3 := laidMet.tail h2
 exact ⟨⟨⟨syn_met (laidMet.tail h3),rng_met h3⟩,tabs_met h2⟩,space_met (laidMet.tail (laidMet.tail (laidMet.tail h3)))⟩
theorem ex_of {W : World} (h : laidMetH Tryz.prog exList W) : ((qea W ∧ PowTab W) ∧ qdx W) ∧ Laid W := by
 have h' : laidMet Tryz.prog exErr W ∧ handlesMet Tryz.prog (laidList : List (String × DataW Unit)) W := h
 exact ⟨exErr_of h'.1,laid_of ⟨laidMet_nil _ _,h'.2⟩⟩
noncomputable def exWorld (os : Os) : World := (laidWorld os).layVars Tryz.prog exErr
theorem exWorld_data (os : Os) : laidMet Tryz.prog exErr (exWorld os) := by
 have e1 : (exErr.filter fun x => (exErr.map (·.1)).contains x.1) = exErr := List.filter_eq_self.2 fun x hx => List.contains_iff_mem.2 (List.mem_map.2 ⟨x,hx,rfl⟩)
 have e2 : (exErr.filter fun x => !(exErr.map (·.1)).contains x.1) = [] := List.filter_eq_nil_iff.2 fun x hx => by rw [List.contains_iff_mem.2 (List.mem_map.2 ⟨x,hx,rfl⟩)]; simp
 exact laidMet_layVars (w0 := laidWorld os) (exErr.map (·.1)) [] (by rw [e1]; rfl) (by rw [e1]; kernel_rfl) (by rw [e1]; kernel_rfl) (by rw [e2]; exact LaidIn.none)
theorem exWorld_met (os : Os) (args : Array Value) : laidMetH Tryz.prog exList ((exWorld os).forCall (fun _ _ => 0) ⟨#[],args,[]⟩).memory :=
 laidMetH_of_parts (l := exList) ((exWorld_data os).of_heap (by simp [World.memory,World.forCall,Input.heap])) (by kernel_rfl)
end Go.Proofs.YtgajofkeidjbgaaGreatDoor
namespace Go.Proofs.YtgajofkeidjbgaaGreatDoor
set_option linter.unusedSimpArgs false
set_option linter.unusedVariables false
set_option maxRecDepth 100000
open Go.RowKit
def TokAt (w : World) (b o : Nat) (t : Tok) : Prop := w.cell? ⟨b,o,none⟩ = some (.int .u8 (t.k.toNat : Int)) ∧ w.cell? ⟨b,o + 1,none⟩ = some (.string (qah t.t)) ∧ w.cell? ⟨b,o + 2,none⟩ = some (.int .i64 (t.p : Int))
theorem TokAt.kept {S : Nat → Prop} {w w' : World} {b o : Nat} {x : Tok} (h : TokAt w b o x) (hs : S b) (k : Keeps S w w') : TokAt w' b o x := ⟨k.cell hs h.1,k.cell hs h.2.1,k.cell hs h.2.2⟩
abbrev ToksIn (S : Nat → Prop) (w : World) (v : Value) (l : List Tok) : Prop := SliceOf S TokAt 3 w v l
def ToksOf (P : Nat) (w : World) (v : Value) (l : List Tok) : Prop := ToksIn (fun b => b ≠ P) w v l ∧ ∀ g o n c,v = .slice (some ⟨g,o,none⟩) n c → g ≠ P ∧ ∃ cs f,w.heap[g]? = some (.cells cs 102 f)
theorem ToksOf.kept {S : Nat → Prop} {P : Nat} {w w' : World} {v : Value} {l : List Tok} (h : ToksOf P w v l) (k : Keeps S w w') (hs : ∀ g cs f,g ≠ P → w.heap[g]? = some (.cells cs 102 f) → S g) : ToksOf P w' v l := by
 obtain ⟨⟨a,c,rfl,hl,hc,hn,he⟩,hr⟩ := h
 refine ⟨⟨a,c,rfl,hl,hc,hn,fun i hi => ?_⟩,fun g o n c hv => ?_⟩
 ·obtain ⟨b,o,rfl,hb,hx⟩ := he i hi
  obtain ⟨h1,cs,f,h2⟩ := hr b o _ _ rfl
  exact ⟨b,o,rfl,hb,hx.kept (hs b cs f h1 h2) k⟩
 ·obtain ⟨h1,cs,f,h2⟩ := hr g o n c hv
  exact ⟨h1,cs,f,k.obj (hs g cs f h1 h2) h2⟩
def PAt (w : World) (P d : Nat) (l : List Tok) : Prop := ∃ v,w.heap[P]? = some (.cells #[v,.int .i64 (d : Int)] 99 (0,0)) ∧ ToksOf P w v l
theorem PAt.kept {S : Nat → Prop} {w w' : World} {P d : Nat} {l : List Tok} (h : PAt w P d l) (k : Keeps S w w') (hP : S P) (hs : ∀ g cs f,g ≠ P → w.heap[g]? = some (.cells cs 102 f) → S g) : PAt w' P d l := by
 obtain ⟨v,h1,h2⟩ := h
 exact ⟨v,k.obj hP h1,h2.kept k hs⟩
theorem PAt.later {w w' : World} {P d : Nat} {l : List Tok} (h : PAt w P d l) (k : qag w w') : PAt w' P d l := by
 obtain ⟨v,h1,h2⟩ := h
 exact ⟨v,k.obj h1,h2.kept (k.keeps fun _ => True) fun _ _ _ _ _ => trivial⟩
def Tok.v (t : Tok) : Value := .agg #[.int .u8 (t.k.toNat : Int),.string (qah t.t),.int .i64 (t.p : Int)]
theorem PAt.head {w : World} {P d : Nat} {t : Tok} {l : List Tok} (h : PAt w P d (t :: l)) : ∃ g o c,w.heap[P]? = some (.cells #[.slice (some ⟨g,o,none⟩) (l.length + 1) c,.int .i64 (d : Int)] 99 (0,0)) ∧ g ≠ P ∧ TokAt w g o t ∧ l.length + 1 ≤ c ∧ c ≤ maxLen ∧
  ToksOf P w (.slice (some ⟨g,o + 3,none⟩) l.length (c - 1)) l ∧ ∃ cs f,w.heap[g]? = some (.cells cs 102 f) := by
 obtain ⟨v,h1,⟨a,c,rfl,hl,hc,hn,he⟩,hrow⟩ := h
 obtain ⟨g,o,rfl,hg,ht⟩ := he 0 (by simp)
 have hT := hrow g o _ _ rfl
 refine ⟨g,o,c,h1,hg,by simpa using ht,hl,hc,⟨?_,fun g' o' n' c' hv => ?_⟩,hT.2⟩
 rotate_left
 ·simp only [Value.slice.injEq,Option.some.injEq,Addr.mk.injEq] at hv
  obtain ⟨⟨rfl,-,-⟩,-,-⟩ := hv
  exact hT
 refine ⟨some ⟨g,o + 3,none⟩,c - 1,rfl,by simp only [List.length_cons] at hl; omega,by omega,(fun h => by cases h),fun i hi => ?_⟩
 obtain ⟨b',o',hb,hs,hx⟩ := he (i + 1) (by simp only [List.length_cons]; omega)
 simp only [Option.some.injEq,Addr.mk.injEq] at hb
 obtain ⟨rfl,rfl,-⟩ := hb
 refine ⟨_,_,rfl,hs,?_⟩
 rw [show o + 3 + i * 3 = o + (i + 1) * 3 by omega]
 simpa using hx
theorem qeo (P d : Nat) (t : Tok) (l : List Tok) (w : World) (h : PAt w P d (t :: l)) : Calls Tryz.prog 40 #[.pointer (some ⟨P,0,none⟩)] w fun e w' => e = .returned t.v ∧ qag w w' := by
 obtain ⟨g,o,c,hP,-,⟨h0,h1,h2⟩,-,-,-,-⟩ := h.head
 have p0 := qac (i := 0) hP rfl
 have hp := qad p0
 have hg := qad h0
 clear h
 go_enter Tryz.func40,Tryz.ntmps40
 go_wp2_with fail
 exact bodyPost_ret (v := t.v) (by simp [results,Tryz.results40,go_sem,Tok.v] <;> rfl) rfl ⟨rfl,(qag.alloc _ _)⟩
theorem take_left {w : World} {P d : Nat} {l : List Tok} {v u : Value} (hP : w.heap[P]? = some (.cells #[u,.int .i64 (d : Int)] 99 (0,0))) (hv : ToksOf P w v l) (o1 o2 : Obj) :
  Keeps (fun b => b ≠ P) w (((w.setCell ⟨P,0,none⟩ v).alloc o1).alloc o2) ∧ PAt (((w.setCell ⟨P,0,none⟩ v).alloc o1).alloc o2) P d l := by
 have hL : qag (w.setCell ⟨P,0,none⟩ v) (((w.setCell ⟨P,0,none⟩ v).alloc o1).alloc o2) := (qag.alloc _ _).alloc' _
 have hk : Keeps (fun b => b ≠ P) w (w.setCell ⟨P,0,none⟩ v) := (Keeps.refl _ w).setCell (p := ⟨P,0,none⟩) (.inl fun h => h rfl) _
 refine ⟨hk.trans (hL.keeps _),v,hL.obj (qak (i := 0) hP v),(hv.kept hk fun _ _ _ h _ => h).kept (hL.keeps fun _ => True) fun _ _ _ _ _ => trivial⟩
theorem take_any (P d : Nat) (t : Tok) (l : List Tok) (w : World) (h : PAt w P d (t :: l)) : Calls Tryz.prog 74 #[.pointer (some ⟨P,0,none⟩)] w fun e w' => e = .returned t.v ∧ Keeps (fun b => b ≠ P) w w' ∧ PAt w' P d l := by
 obtain ⟨g,o,c,hP,hgP,⟨h0,h1,h2⟩,hc1,hc2,htl,hrow⟩ := h.head
 have HTL := hid htl; have HROW := hid hrow; have HP := hid hP; have HGP := hid hgP
 have p0 := qac (i := 0) hP rfl
 have hp := qad p0
 have hg := qad h0
 have zp := qaq (i := 0) hP
 clear h htl hP hgP hrow
 by_cases hc : c = 1
 ·obtain rfl : l = [] := by cases l with
   | nil => rfl
   | cons a l => simp only [List.length_cons] at hc1; omega
  subst hc
  go_enter Tryz.func74,Tryz.ntmps74
  go_wp2_with fail
  have hl := take_left (v := .slice (some ⟨g,o,none⟩) 0 0) (l := []) HP.out ⟨⟨some ⟨g,o,none⟩,0,rfl,by simp,by unfold maxLen; omega,(fun h => by cases h),fun i hi => absurd hi (by simp)⟩,fun g' o' n' c' hv => by
   simp only [Value.slice.injEq,Option.some.injEq,Addr.mk.injEq] at hv
   obtain ⟨⟨rfl,-,-⟩,-,-⟩ := hv
   exact ⟨HGP.out,HROW.out⟩⟩
  exact bodyPost_ret (v := t.v) (by simp [results,Tryz.results74,go_sem,Tok.v] <;> rfl) rfl ⟨rfl,(hl _ _).1,(hl _ _).2⟩
 ·skip
  go_enter Tryz.func74,Tryz.ntmps74
  go_wp2_with fail
  have hl := take_left HP.out HTL.out
  exact bodyPost_ret (v := t.v) (by simp [results,Tryz.results74,go_sem,Tok.v] <;> rfl) rfl ⟨rfl,(hl _ _).1,(hl _ _).2⟩
theorem qan (l : List UInt8) : (qah l).toList = l := by rw [Lib.toList_data]; rfl
theorem strs_eq (a b : List UInt8) : ((qah a).toList == (qah b).toList) = decide (a = b) := by
 rw [qan,qan,Bool.eq_iff_iff]
 simp
theorem qdb (k : UInt8) (n : Nat) (hn : n < 256) : ((k.toNat : Int) == (n : Int)) = decide (k = UInt8.ofNat n) := by
 rw [Bool.eq_iff_iff]
 simp only [beq_iff_eq,decide_eq_true_eq]
 constructor
 ·intro h; apply UInt8.toNat_inj.1; simp; omega
 ·rintro rfl; simp; omega
def IsTo (w : World) (P d : Nat) (t : Tok) (l : List Tok) (x : List UInt8) (e : Ending) (w' : World) : Prop :=
 e = .returned (.bool (isW t x)) ∧ Keeps (fun b => b ≠ P) w w' ∧ PAt w' P d (if isW t x = true then l else t :: l)
theorem is_any (P d : Nat) (t : Tok) (l : List Tok) (x : List UInt8) (w : World) (h : PAt w P d (t :: l)) : Calls Tryz.prog 75 #[.pointer (some ⟨P,0,none⟩),.string (qah x)] w (IsTo w P d t l x) := by
 have HP := hid h
 clear h
 go_enter Tryz.func75,Tryz.ntmps75
 go_wp2_with fail
 refine (qeo P d t l _ HP.out).mono ?_
 rintro e w1 ⟨rfl,hL1⟩
 have HL1 := hid hL1
 have HP1 := hid (HP.out.later hL1)
 clear hL1
 unfold Tok.v
 have HW : Hid (isW t x = (decide (t.t = x) && (decide (t.k = 111) || decide (t.k = 110)))) := hid (by
  unfold isW
  rw [Bool.eq_iff_iff]
  simp)
 obtain ⟨b1,h1⟩ : ∃ b,decide (t.t = x) = b := ⟨_,rfl⟩
 obtain ⟨b2,h2⟩ : ∃ b,(!decide (t.k = 111)) = b := ⟨_,rfl⟩
 obtain ⟨b3,h3⟩ : ∃ b,(!decide (t.k = 110)) = b := ⟨_,rfl⟩
 have e1 : ((t.k.toNat : Int) != 111) = b2 := by rw [← h2]; exact congrArg (fun b => !b) (qdb t.k 111 (by omega))
 have e2 : ((t.k.toNat : Int) != 110) = b3 := by rw [← h3]; exact congrArg (fun b => !b) (qdb t.k 110 (by omega))
 have e3 : ((qah t.t).toList == (qah x).toList) = b1 := (strs_eq _ _).trans h1
 have HW2 : Hid (isW t x = (b1 && (!b2 || !b3))) := hid (by rw [HW.out,h1,← h2,← h3]; simp)
 clear h1 h2 h3 HW
 go_upto_region 2 with (fail)
 obtain ⟨R1,hR1⟩ : ∃ RR_ : (Nat → Value) → World → Prop,RR_ = (fun us wy => us 21 = .bool (!isW t x) ∧ qag w1 wy) := ⟨_,rfl⟩
 have HR1 := hid hR1; clear hR1
 refine qau [ff,ff,ff,ff,ff,ff,ff,true,true,true,true,true,true,true,true,true,true,true,true,true,true,true] R1 _ HR1.out ?_ ?_
 ·cases b1 with
  | false =>
    go_wp2_with fail
    refine Meet.mk' HR1.out rfl ?_
    exact ⟨by simp [qas,HW2.out],qag.alloc _ _⟩
  | true =>
    cases b2 with
    | true =>
      go_wp2_with fail
      refine Meet.mk' HR1.out rfl ?_
      exact ⟨by simp [qas,HW2.out],qag.alloc _ _⟩
    | false =>
      cases b3 with
      | true =>
        go_wp2_with fail
        refine Meet.mk' HR1.out rfl ?_
        exact ⟨by simp [qas,HW2.out],qag.alloc _ _⟩
      | false =>
        go_wp2_with fail
        refine Meet.mk' HR1.out rfl ?_
        exact ⟨by simp [qas,HW2.out],qag.alloc _ _⟩
 intro us1 wy hrel
 obtain ⟨h21,hLy⟩ := hrel
 simp only [qao,Nat.reduceAdd,h21]
 have Hh21 := hid h21; clear h21
 have HLY := hid hLy
 clear e1 e2 e3 hLy
 cases hw : isW t x with
 | false =>
   have HN : Hid (isW t x = false) := hid hw
   clear hw
   go_wp2_with fail
   go_ret
   refine ⟨by rw [HN.out]; rfl,(qag.trans _ _ _ HL1.out HLY.out).keeps _,?_⟩
   rw [HN.out]
   exact HP1.out.later HLY.out
 | true =>
   have HN : Hid (isW t x = true) := hid hw
   clear hw
   go_wp2_with fail
   refine (take_any P d t l _ (HP1.out.later HLY.out)).mono ?_
   rintro e w2 ⟨rfl,hk,hp⟩
   go_wp2_with fail
   go_ret
   refine ⟨by rw [HN.out]; rfl,((qag.trans _ _ _ HL1.out HLY.out).keeps _).trans hk,?_⟩
   rw [HN.out]
   exact hp
theorem tok_f0 (k p : Int) (t : ByteArray) (w : World) : (Instr.field 102 (.agg #[.int .u8 k,.string t,.int .i64 p]) 0).run Tryz.prog w = .ok (.int .u8 k) w := by kernel_rfl
theorem tok_f1 (k p : Int) (t : ByteArray) (w : World) : (Instr.field 102 (.agg #[.int .u8 k,.string t,.int .i64 p]) 1).run Tryz.prog w = .ok (.string t) w := by kernel_rfl
theorem tok_f2 (k p : Int) (t : ByteArray) (w : World) : (Instr.field 102 (.agg #[.int .u8 k,.string t,.int .i64 p]) 2).run Tryz.prog w = .ok (.int .i64 p) w := by kernel_rfl
attribute [local go_sem high] tok_f0 tok_f1 tok_f2
def MustTo (w : World) (P d : Nat) (t : Tok) (l : List Tok) (x : List UInt8) (e : Ending) (w' : World) : Prop :=
 Keeps (fun b => b ≠ P) w w' ∧ if isW t x = true then e = .returned (.tuple #[]) ∧ PAt w' P d l else qbr 1 t.p e
theorem must_any (P d : Nat) (t : Tok) (l : List Tok) (x : List UInt8) (w : World) (h : PAt w P d (t :: l)) : Calls Tryz.prog 119 #[.pointer (some ⟨P,0,none⟩),.string (qah x)] w (MustTo w P d t l x) := by
 have HP := hid h
 clear h
 go_enter Tryz.func119,Tryz.ntmps119
 go_wp2_with fail
 refine (is_any P d t l x _ HP.out).mono ?_
 rintro e w1 ⟨rfl,hk,hp⟩
 have HK := hid hk; have HP1 := hid hp
 clear hk hp
 cases hw : isW t x with
 | true =>
   have HN : Hid (isW t x = true) := hid hw
   clear hw
   go_wp2_with fail
   refine bodyPost_ret (results_none rfl _ _ _) rfl ⟨HK.out,?_⟩
   rw [if_pos HN.out]
   have h := HP1.out
   rw [if_pos HN.out] at h
   exact ⟨rfl,h⟩
 | false =>
   have HN : Hid (isW t x = false) := hid hw
   have HP2 : Hid (PAt w1 P d (t :: l)) := hid (by have h := HP1.out; rw [hw] at h; exact h)
   clear hw
   go_wp2_with fail
   refine (qeo P d t l _ HP2.out).mono ?_
   rintro e w2 ⟨rfl,hL⟩
   have HL := hid hL
   clear hL
   unfold Tok.v
   go_wp2_with fail
   refine (qbn 1 t.p _).mono ?_
   rintro e w' ⟨hfl,rfl⟩
   unfold qbr at hfl
   subst hfl
   simp only [Exit.then,Exit.inBlock]
   refine ⟨rfl,HK.out.trans (HL.out.keeps _),?_⟩
   rw [if_neg (by rw [HN.out]; simp)]
   exact rfl
def LevelsAt (S : Nat → Prop) (w : World) (v : Value) : Prop := ∃ B,v = .slice (some ⟨B,0,none⟩) 5 5 ∧ S B ∧ ∀ k (h : k < 5),∃ b,S b ∧ w.cell? ⟨B,k,none⟩ = some (.slice (some ⟨b,0,none⟩) (qaw k).length (qaw k).length) ∧ qdh w b 0 (qaw k)
theorem LevelsAt.kept {S S' : Nat → Prop} {w w' : World} {v : Value} (h : LevelsAt S w v) (k : Keeps S' w w') (hs : ∀ b,S b → S' b) : LevelsAt S w' v := by
 obtain ⟨B,hv,hB,hk⟩ := h
 exact ⟨B,hv,hB,fun i hi => let ⟨b,h0,h1,h2⟩ := hk i hi; ⟨b,h0,k.cell (hs _ hB) h1,fun j hj => k.cell (hs _ h0) (h2 j hj)⟩⟩
theorem LevelsAt.later {S : Nat → Prop} {w w' : World} {v : Value} (h : LevelsAt S w v) (hL : qag w w') : LevelsAt S w' v := h.kept (hL.keeps S) fun _ h => h
theorem strs_new (w : World) (xs : List (List UInt8)) (cs : Array Value) (T : TypeId) (h : cs = (xs.map fun l => Value.string (qah l)).toArray) : qdh (w.alloc (.cells cs T)) w.heap.size 0 xs := by rw [h]; exact strs_alloc w xs T
theorem levels_any (w : World) : Calls Tryz.prog 70 #[] w fun e w' => ∃ v,e = .returned v ∧ LevelsAt (fun b => w.heap.size ≤ b) w' v ∧ qag w w' := by
 go_enter Tryz.func70,Tryz.ntmps70
 go_wp2_with fail
 obtain ⟨w1,h1⟩ : ∃ w1,w1 = w.alloc (.cells #[.string ⟨#[111,114]⟩] 9) := ⟨_,rfl⟩
 obtain ⟨w2,h2⟩ : ∃ w2,w2 = w1.alloc (.cells #[.string ⟨#[97,110,100]⟩] 9) := ⟨_,rfl⟩
 obtain ⟨w3,h3⟩ : ∃ w3,w3 = w2.alloc (.cells #[.string ⟨#[61]⟩,.string ⟨#[60,62]⟩,.string ⟨#[60]⟩,.string ⟨#[60,61]⟩,.string ⟨#[62]⟩,.string ⟨#[62,61]⟩] 9) := ⟨_,rfl⟩
 obtain ⟨w4,h4⟩ : ∃ w4,w4 = w3.alloc (.cells #[.string ⟨#[43]⟩,.string ⟨#[45]⟩,.string ⟨#[43,43]⟩] 9) := ⟨_,rfl⟩
 obtain ⟨w5,h5⟩ : ∃ w5,w5 = w4.alloc (.cells #[.string ⟨#[42]⟩,.string ⟨#[47]⟩,.string ⟨#[37]⟩] 9) := ⟨_,rfl⟩
 have s1 : qdh w1 w.heap.size 0 (qaw 0) := by rw [h1]; exact strs_new w (qaw 0) _ _ rfl
 have s2 : qdh w2 (w.heap.size + 1) 0 (qaw 1) := by
  have e : w.heap.size + 1 = w1.heap.size := by rw [h1]; simp
  rw [h2,e]; exact strs_new w1 (qaw 1) _ _ rfl
 have s3 : qdh w3 (w.heap.size + 1 + 1) 0 (qaw 2) := by
  have e : w.heap.size + 1 + 1 = w2.heap.size := by rw [h2,h1]; simp
  rw [h3,e]; exact strs_new w2 (qaw 2) _ _ rfl
 have s4 : qdh w4 (w.heap.size + 1 + 1 + 1) 0 (qaw 3) := by
  have e : w.heap.size + 1 + 1 + 1 = w3.heap.size := by rw [h3,h2,h1]; simp
  rw [h4,e]; exact strs_new w3 (qaw 3) _ _ rfl
 have s5 : qdh w5 (w.heap.size + 1 + 1 + 1 + 1) 0 (qaw 4) := by
  have e : w.heap.size + 1 + 1 + 1 + 1 = w4.heap.size := by rw [h4,h3,h2,h1]; simp
  rw [h5,e]; exact strs_new w4 (qaw 4) _ _ rfl
 have e6 : w.heap.size + 1 + 1 + 1 + 1 + 1 = w5.heap.size := by rw [h5,h4,h3,h2,h1]; simp
 have l2 : qag w1 w2 := h2 ▸ qag.alloc _ _
 have l3 : qag w2 w3 := h3 ▸ qag.alloc _ _
 have l4 : qag w3 w4 := h4 ▸ qag.alloc _ _
 have l5 : qag w4 w5 := h5 ▸ qag.alloc _ _
 have l1 : qag w w1 := h1 ▸ qag.alloc _ _
 rw [← h1,← h2,← h3,← h4,← h5]
 clear h1 h2 h3 h4 h5
 have l25 := qag.trans _ _ _ l2 (qag.trans _ _ _ l3 (qag.trans _ _ _ l4 l5))
 have l35 := qag.trans _ _ _ l3 (qag.trans _ _ _ l4 l5)
 have l45 := qag.trans _ _ _ l4 l5
 rw [e6]
 refine bodyPost_ret (results_tmp rfl _ _ _) rfl ⟨_,rfl,⟨w5.heap.size,rfl,by omega,fun k hk => ?_⟩,(qag.trans _ _ _ l1 l25).alloc' _⟩
 have hal := fun o => qag.alloc w5 o
 match k,hk with
 | 0,_ => exact ⟨w.heap.size,by omega,qac (i := 0) (qap w5 _) rfl,(s1.later l25).later (hal _)⟩
 | 1,_ => exact ⟨w.heap.size + 1,by omega,qac (i := 1) (qap w5 _) rfl,(s2.later l35).later (hal _)⟩
 | 2,_ => exact ⟨w.heap.size + 1 + 1,by omega,qac (i := 2) (qap w5 _) rfl,(s3.later l45).later (hal _)⟩
 | 3,_ => exact ⟨w.heap.size + 1 + 1 + 1,by omega,qac (i := 3) (qap w5 _) rfl,(s4.later l5).later (hal _)⟩
 | 4,_ => exact ⟨w.heap.size + 1 + 1 + 1 + 1,by omega,qac (i := 4) (qap w5 _) rfl,s5.later (hal _)⟩
theorem words_any (w : World) : Calls Tryz.prog 100 #[] w fun e w' => ∃ b,e = .returned (.slice (some ⟨b,0,none⟩) 6 6) ∧ qdh w' b 0 qes ∧ qag w w' := by
 go_enter Tryz.func100,Tryz.ntmps100
 go_wp2_with fail
 refine bodyPost_ret (results_tmp rfl _ _ _) rfl ⟨w.heap.size,rfl,strs_new w qes _ _ rfl,qag.alloc _ _⟩
end Go.Proofs.YtgajofkeidjbgaaGreatDoor
namespace Go.Proofs.YtgajofkeidjbgaaGreatDoor
set_option linter.unusedSimpArgs false
set_option linter.unusedVariables false
open Go.RowKit
attribute [local go_sem high] tok_f0 tok_f1 tok_f2
def opW (neg : Bool) : List UInt8 := if neg = true then qbf else notW
def ArgsIn (S : Nat → Prop) (w : World) (a : Value) (vs : List Value) : Prop := w.ownsRow 0 59 1 a vs.length vs ∧ ∀ g,a.ownBlock = some g → S g
theorem ArgsIn.kept {S S' : Nat → Prop} {w w' : World} {a : Value} {vs : List Value} (h : ArgsIn S w a vs) (k : Keeps S' w w') (hs : ∀ b,S b → S' b) : ArgsIn S w' a vs := by
 obtain ⟨⟨h1,h2⟩,h3⟩ := h
 refine ⟨⟨h1,h2.imp id ?_⟩,h3⟩
 rintro ⟨g,cap,cur,hv,hb,hg,hr⟩
 exact ⟨g,cap,cur,hv,hb,k.obj (hs _ (h3 g (by rw [hv]; rfl))) hg,hr⟩
theorem qch {w : World} {b : Nat} {o : Obj} (h : w.heap[b]? = some o) : b < w.heap.size := (Array.getElem?_eq_some_iff.1 h).1
mutual
def qbh (S : Nat → Prop) (w : World) : Value → Ex → Prop
 | v,.lit x => ∃ B,S B ∧ v = .iface 161 (.pointer (some ⟨B,0,none⟩)) ∧ w.heap[B]? = some (.cells #[.int .i64 x.k,.int .i64 x.n,.string x.t] 163 (0,0))
 | v,.name s p => ∃ B,S B ∧ v = .iface 164 (.pointer (some ⟨B,0,none⟩)) ∧ w.heap[B]? = some (.cells #[.string (qah s),.int .i64 (p : Int)] 167 (0,0))
 | v,.un neg p x => ∃ B u,S B ∧ v = .iface 137 (.pointer (some ⟨B,0,none⟩)) ∧ w.heap[B]? = some (.cells #[.string (qah (opW neg)),.int .i64 (p : Int),u] 139 (0,0)) ∧ qbh S w u x
 | v,.bin o p x y => ∃ B u1 u2,S B ∧ v = .iface 140 (.pointer (some ⟨B,0,none⟩)) ∧ w.heap[B]? = some (.cells #[.string (qah o),.int .i64 (p : Int),u1,u2] 142 (0,0)) ∧ qbh S w u1 x ∧ qbh S w u2 y
 | v,.call f p l => ∃ B vs a,S B ∧ v = .iface 168 (.pointer (some ⟨B,0,none⟩)) ∧ w.heap[B]? = some (.cells #[.string (qah f),.int .i64 (p : Int),a] 174 (0,0)) ∧
   ArgsIn S w a vs ∧ qbg S w vs l
def qbg (S : Nat → Prop) (w : World) : List Value → List Ex → Prop
 | [],[] => True
 | v :: vs,x :: l => qbh S w v x ∧ qbg S w vs l
 | _,_ => False
end
mutual
theorem qbh.kept {S S' : Nat → Prop} {w w' : World} (k : Keeps S' w w') (hs : ∀ b,S b → S' b) : ∀ (v : Value) (x : Ex),qbh S w v x → qbh S w' v x
 | v,.lit x,h => by
   unfold qbh at h ⊢
   obtain ⟨B,h1,h2,h3⟩ := h
   exact ⟨B,h1,h2,k.obj (hs _ h1) h3⟩
 | v,.name s p,h => by
   unfold qbh at h ⊢
   obtain ⟨B,h1,h2,h3⟩ := h
   exact ⟨B,h1,h2,k.obj (hs _ h1) h3⟩
 | v,.un neg p x,h => by
   unfold qbh at h ⊢
   obtain ⟨B,u,h1,h2,h3,h4⟩ := h
   exact ⟨B,u,h1,h2,k.obj (hs _ h1) h3,qbh.kept k hs u x h4⟩
 | v,.bin o p x y,h => by
   unfold qbh at h ⊢
   obtain ⟨B,u1,u2,h1,h2,h3,h4,h5⟩ := h
   exact ⟨B,u1,u2,h1,h2,k.obj (hs _ h1) h3,qbh.kept k hs u1 x h4,qbh.kept k hs u2 y h5⟩
 | v,.call f p l,h => by
   unfold qbh at h ⊢
   obtain ⟨B,vs,a,h1,h2,h3,h4,h5⟩ := h
   exact ⟨B,vs,a,h1,h2,k.obj (hs _ h1) h3,h4.kept k hs,qbg.kept k hs vs l h5⟩
theorem qbg.kept {S S' : Nat → Prop} {w w' : World} (k : Keeps S' w w') (hs : ∀ b,S b → S' b) : ∀ (vs : List Value) (l : List Ex),qbg S w vs l → qbg S w' vs l
 | [],[],h => by unfold qbg; trivial
 | v :: vs,x :: l,h => by
   unfold qbg at h ⊢
   exact ⟨qbh.kept k hs v x h.1,qbg.kept k hs vs l h.2⟩
 | [],_ :: _,h => by unfold qbg at h; exact h.elim
 | _ :: _,[],h => by unfold qbg at h; exact h.elim
end
def EndL (l : List Tok) : Prop := (∀ t ∈ l,TokOk t ∧ t.t.length ≤ 1048576) ∧ ∃ h : l ≠ [],(l.getLast h).k = 0
theorem EndL.cons {l : List Tok} (h : EndL l) : ∃ t r,l = t :: r ∧ TokOk t ∧ (t.k ≠ 0 → EndL r) := by
 obtain ⟨h1,h2,h3⟩ := h
 cases l with
 | nil => exact absurd rfl h2
 | cons t r =>
   refine ⟨t,r,rfl,(h1 t (by simp)).1,fun hk => ⟨fun x hx => h1 x (by simp [hx]),?_⟩⟩
   cases r with
   | nil => exact absurd h3 hk
   | cons u r => exact ⟨by simp,by simpa using h3⟩
mutual
theorem qbh.mono {S S' : Nat → Prop} {w : World} (hs : ∀ b,b < w.heap.size → S b → S' b) : ∀ (v : Value) (x : Ex),qbh S w v x → qbh S' w v x
 | v,.lit x,h => by
   unfold qbh at h ⊢
   obtain ⟨B,h1,h2,h3⟩ := h
   exact ⟨B,hs _ (qch h3) h1,h2,h3⟩
 | v,.name s p,h => by
   unfold qbh at h ⊢
   obtain ⟨B,h1,h2,h3⟩ := h
   exact ⟨B,hs _ (qch h3) h1,h2,h3⟩
 | v,.un neg p x,h => by
   unfold qbh at h ⊢
   obtain ⟨B,u,h1,h2,h3,h4⟩ := h
   exact ⟨B,u,hs _ (qch h3) h1,h2,h3,qbh.mono hs u x h4⟩
 | v,.bin o p x y,h => by
   unfold qbh at h ⊢
   obtain ⟨B,u1,u2,h1,h2,h3,h4,h5⟩ := h
   exact ⟨B,u1,u2,hs _ (qch h3) h1,h2,h3,qbh.mono hs u1 x h4,qbh.mono hs u2 y h5⟩
 | v,.call f p l,h => by
   unfold qbh at h ⊢
   obtain ⟨B,vs,a,h1,h2,h3,h4,h5⟩ := h
   exact ⟨B,vs,a,hs _ (qch h3) h1,h2,h3,⟨h4.1,fun g hg => hs _ (h4.1.lt g hg).2 (h4.2 g hg)⟩,qbg.mono hs vs l h5⟩
theorem qbg.mono {S S' : Nat → Prop} {w : World} (hs : ∀ b,b < w.heap.size → S b → S' b) : ∀ (vs : List Value) (l : List Ex),qbg S w vs l → qbg S' w vs l
 | [],[],h => by unfold qbg; trivial
 | v :: vs,x :: l,h => by
   unfold qbg at h ⊢
   exact ⟨qbh.mono hs v x h.1,qbg.mono hs vs l h.2⟩
 | [],_ :: _,h => by unfold qbg at h; exact h.elim
 | _ :: _,[],h => by unfold qbg at h; exact h.elim
end
theorem EndL.short {l : List Tok} (h : EndL l) : ∀ t ∈ l,t.t.length ≤ 1048576 := fun t ht => (h.1 t ht).2
def POut (w : World) (P d : Nat) (l : List Tok) (R : Res → Prop) (e : Ending) (w' : World) : Prop :=
 Keeps (fun b => b ≠ P) w w' ∧ ∃ r : Res,R r ∧ match r with
  | .error f => qbr f.1 f.2 e
  | .ok x => ∃ v,e = .returned v ∧ qbh (fun b => b ≠ P ∧ w.heap.size ≤ b) w' v x.1 ∧ PAt w' P d x.2 ∧ EndL x.2 ∧ x.2.length < l.length
def nodeT : Ex → TypeId
 | .lit _ => 161
 | .name _ _ => 164
 | .un _ _ _ => 137
 | .bin _ _ _ _ => 140
 | .call _ _ _ => 168
theorem qbh.ptr {S : Nat → Prop} {w : World} {v : Value} {x : Ex} (h : qbh S w v x) : ∃ N,v = .iface (nodeT x) (.pointer (some ⟨N,0,none⟩)) := by
 cases x <;> (unfold qbh at h)
 ·obtain ⟨B,-,h,-⟩ := h; exact ⟨B,h⟩
 ·obtain ⟨B,-,h,-⟩ := h; exact ⟨B,h⟩
 ·obtain ⟨B,u,-,h,-⟩ := h; exact ⟨B,h⟩
 ·obtain ⟨B,u1,u2,-,h,-⟩ := h; exact ⟨B,h⟩
 ·obtain ⟨B,vs,a,-,h,-⟩ := h; exact ⟨B,h⟩
end Go.Proofs.YtgajofkeidjbgaaGreatDoor
namespace Go.Proofs.YtgajofkeidjbgaaGreatDoor
set_option linter.unusedSimpArgs false
set_option linter.unusedVariables false
open Go Go.RowKit
structure TotalC {α : Type} (c : α → α → Int) : Prop where
 eq : ∀ x y,c x y = 0 ↔ x = y
 neg : ∀ x y,c y x = -(c x y)
 trans : ∀ x y z,c x y < 0 → c y z < 0 → c x z < 0
theorem cmpI_total : TotalC cmpI := by
 refine ⟨fun x y => ?_,fun x y => ?_,fun x y z h1 h2 => ?_⟩ <;> unfold cmpI at * <;> (repeat' split) <;> (repeat' split at *) <;> omega
def lex2 {α β : Type} (c : α → α → Int) (d : β → β → Int) (x y : α × β) : Int := if c x.1 y.1 = 0 then d x.2 y.2 else c x.1 y.1
theorem lex2_total {α β : Type} {c : α → α → Int} {d : β → β → Int} (hc : TotalC c) (hd : TotalC d) : TotalC (lex2 c d) := by
 refine ⟨fun x y => ?_,fun x y => ?_,fun x y z h1 h2 => ?_⟩
 ·unfold lex2
  by_cases h : c x.1 y.1 = 0
  ·rw [if_pos h,hd.eq]
   have := (hc.eq _ _).1 h
   exact ⟨fun e => Prod.ext this e,fun e => by rw [e]⟩
  ·rw [if_neg h]
   exact ⟨fun e => absurd e h,fun e => absurd ((hc.eq _ _).2 (by rw [e])) h⟩
 ·unfold lex2
  have e := hc.neg x.1 y.1
  by_cases h : c x.1 y.1 = 0
  ·rw [if_pos h,if_pos (by omega)]; exact hd.neg _ _
  ·rw [if_neg h,if_neg (by omega)]; exact e
 ·unfold lex2 at *
  by_cases ha : c x.1 y.1 = 0
  ·rw [if_pos ha] at h1
   have ea := (hc.eq _ _).1 ha
   rw [ea]
   by_cases hb : c y.1 z.1 = 0
   ·rw [if_pos hb] at h2 ⊢
    exact hd.trans _ _ _ h1 h2
   ·rw [if_neg hb] at h2 ⊢
    exact h2
  ·rw [if_neg ha] at h1
   by_cases hb : c y.1 z.1 = 0
   ·have eb := (hc.eq _ _).1 hb
    rw [← eb,if_neg ha]
    exact h1
   ·rw [if_neg hb] at h2
    have ht := hc.trans _ _ _ h1 h2
    rw [if_neg (by omega)]
    exact ht
def lexL {α : Type} (c : α → α → Int) : List α → List α → Int
 | [],[] => 0
 | [],_ :: _ => -1
 | _ :: _,[] => 1
 | x :: a,y :: b => if c x y = 0 then lexL c a b else c x y
theorem lexL_total {α : Type} {c : α → α → Int} (hc : TotalC c) : TotalC (lexL c) := by
 refine ⟨?_,?_,?_⟩
 ·intro x
  induction x with
  | nil => intro y; cases y <;> simp [lexL]
  | cons x a ih =>
    intro y
    cases y with
    | nil => simp [lexL]
    | cons y b =>
      unfold lexL
      by_cases h : c x y = 0
      ·rw [if_pos h,ih,(hc.eq _ _).1 h]; simp
      ·rw [if_neg h]
       exact ⟨fun e => absurd e h,fun e => absurd ((hc.eq _ _).2 (List.cons.inj e).1) h⟩
 ·intro x
  induction x with
  | nil => intro y; cases y <;> simp [lexL]
  | cons x a ih =>
    intro y
    cases y with
    | nil => simp [lexL]
    | cons y b =>
      unfold lexL
      have e := hc.neg x y
      by_cases h : c x y = 0
      ·rw [if_pos h,if_pos (by omega)]; exact ih b
      ·rw [if_neg h,if_neg (by omega)]; exact e
 ·intro x
  induction x with
  | nil =>
    intro y z h1 h2
    cases z with
    | nil => cases y <;> simp [lexL] at h1 h2
    | cons z d => simp [lexL]
  | cons x a ih =>
    intro y z h1 h2
    cases y with
    | nil => simp [lexL] at h1
    | cons y b =>
      cases z with
      | nil => simp [lexL] at h2
      | cons z d =>
        unfold lexL at h1 h2 ⊢
        by_cases ha : c x y = 0
        ·rw [if_pos ha] at h1
         rw [(hc.eq _ _).1 ha]
         by_cases hb : c y z = 0
         ·rw [if_pos hb] at h2 ⊢
          exact ih _ _ h1 h2
         ·rw [if_neg hb] at h2 ⊢
          exact h2
        ·rw [if_neg ha] at h1
         by_cases hb : c y z = 0
         ·rw [← (hc.eq _ _).1 hb,if_neg ha]
          exact h1
         ·rw [if_neg hb] at h2
          have ht := hc.trans _ _ _ h1 h2
          rw [if_neg (by omega)]
          exact ht
theorem TotalC.comap {α β : Type} {c : α → α → Int} (hc : TotalC c) (f : β → α) (hf : ∀ x y,f x = f y → x = y) : TotalC fun x y => c (f x) (f y) :=
 ⟨fun x y => by rw [hc.eq]; exact ⟨hf x y,fun e => by rw [e]⟩,fun x y => hc.neg _ _,fun x y z => hc.trans _ _ _⟩
theorem TotalC.congr {α : Type} {c d : α → α → Int} (hc : TotalC c) (h : ∀ x y,d x y = c x y) : TotalC d := by
 have : d = c := funext fun x => funext fun y => h x y
 rw [this]; exact hc
def cmpB (a b : UInt8) : Int := cmpI a.toNat b.toNat
theorem cmpB_total : TotalC cmpB := cmpI_total.comap (fun x : UInt8 => (x.toNat : Int)) fun x y h => UInt8.toNat_inj.1 (by omega)
theorem bytes_lex : ∀ a b : List UInt8,Lib.compareBytes a b = lexL cmpB a b
 | [],[] => rfl
 | [],_ :: _ => rfl
 | _ :: _,[] => rfl
 | x :: a,y :: b => by
   have ih := bytes_lex a b
   unfold Lib.compareBytes lexL cmpB cmpI
   rw [ih]
   simp only [UInt8.lt_iff_toNat_lt]
   by_cases h : x.toNat < y.toNat
   ·rw [if_pos h,if_neg (by rw [if_pos (by omega)]; omega),if_pos (by omega)]
   ·by_cases h' : y.toNat < x.toNat
    ·rw [if_neg h,if_pos h',if_neg (by rw [if_neg (by omega),if_pos (by omega)]; omega),if_neg (by omega),if_pos (by omega)]
    ·rw [if_neg h,if_neg h',if_pos (by rw [if_neg (by omega),if_neg (by omega)])]
     rfl
theorem compareV_total : TotalC qba := by
 refine ((lex2_total cmpI_total (lex2_total cmpI_total (lexL_total cmpB_total))).comap (fun x : Val => (x.k,x.n,x.t.data.toList)) fun x y h => ?_).congr fun x y => ?_
 ·simp only [Prod.mk.injEq] at h
  obtain ⟨k1,n1,t1⟩ := x
  obtain ⟨k2,n2,t2⟩ := y
  simp only at h
  obtain ⟨rfl,rfl,h3⟩ := h
  have : t1 = t2 := by cases t1; cases t2; simp only at h3; congr 1; exact Array.toList_inj.1 h3
  rw [this]
 ·unfold qba
  rw [orL3,bytes_lex]
  rfl
end Go.Proofs.YtgajofkeidjbgaaGreatDoor
