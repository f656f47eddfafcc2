/-
  PROVED HERE: a part of the proof of ExprEvals: Unquote, TabErr, Err, Told.
-/
import Derived.Test.YtgajofkeidjbgaaGreatDoorShort
import Derived.Test.YtgajofkeidjbgaaGreatDoorGReadsPlain
import Derived.ChangeSame
import Derived.ChangeVars
import Derived.JoinedOf
import Derived.RowKit
import Derived.RowKitTokens
import Derived.LaidLaws
import Derived.LaidHandle
import Derived.Stop.Joined
import Derived.Stop.LaidErr
import Derived.Stop.ErrReads
import Derived.MakeChecks
import Derived.Lay
import Derived.Test.YtgajofkeidjbgaaGreatDoorRows
import Derived.Test.YtgajofkeidjbgaaGreatDoorGLex
import Derived.WalkKit
import Derived.LaidEql
import Derived.Stop.Asserts
namespace Go.Proofs.YtgajofkeidjbgaaGreatDoor
set_option linter.unusedSimpArgs false
set_option linter.unusedVariables false
set_option maxHeartbeats 4000000
set_option maxRecDepth 100000
open Go.RowKit
def qea (w : World) : Prop := (∃ t p,w.cell? ⟨4,0,none⟩ = some (.iface t p)) ∧ ∃ t p,w.cell? ⟨5,0,none⟩ = some (.iface t p)
theorem qea.later {w w' : World} (h : qea w) (k : qag w w') : qea w' := by
 obtain ⟨⟨t,p,h1⟩,t',p',h2⟩ := h
 exact ⟨⟨t,p,k.cell h1⟩,t',p',k.cell h2⟩
def numE (N : Nat) : Value := .iface 232 (.pointer (some ⟨N,0,none⟩))
def PuTo (w : World) (l : List UInt8) (e : Ending) (w' : World) : Prop :=
 qag w w' ∧ ((∃ k,hexW l = some k ∧ e = .returned (.tuple #[.int .u64 (k : Int),.nilIface])) ∨ (hexW l = none ∧ ∃ N,e = .returned (.tuple #[.int .u64 0,numE N])))
theorem parse_hex (s : ByteArray) (w : World) (hs : s.size ≤ 2) (hE : qea w) : Calls Tryz.prog 140 #[.string s,.int .i64 16,.int .i64 8] w (PuTo w s.data.toList) := by
 have HS := hid hs; have HE := hid hE
 clear hs hE
 go_enter Tryz.func140,Tryz.ntmps140
 go_wp2_with fail
 refine (parse_hex_in s _ HS.out).mono ?_
 rintro e w1 ⟨rfl,hL1⟩
 have HL1 := hid hL1
 clear hL1
 cases hx : hexW s.data.toList with
 | some k =>
   have HX := hid hx
   clear hx
   simp only [Option.getD_some,Option.isSome_some,if_true]
   go_wp2_with fail
   go_ret2
   exact ⟨HL1.out,.inl ⟨k,HX.out,rfl⟩⟩
 | none =>
   have HX := hid hx
   clear hx
   simp only [Option.getD_none,Option.isSome_none,Bool.false_eq_true,if_false]
   unfold synE
   obtain ⟨⟨t,p,hv⟩,-⟩ := HE.out.later HL1.out
   have HV := hid hv
   clear hv
   go_wp2_with fail
   refine (Tryz.strconv_toError_syntax _ s 16 8 (.iface t p) _ (by have := HS.out; omega) HV.out (.inr ⟨t,p,rfl⟩)).mono ?_
   rintro e w2 ⟨N,rfl,-,-,hB⟩
   have HL2 := hid (qag.trans _ _ _ HL1.out (show qag w1 w2 from hB))
   clear hB
   go_wp2_with fail
   go_ret2
   exact ⟨HL2.out,.inr ⟨HX.out,N,rfl⟩⟩
def strLen : Value → Nat
 | .string s => s.size
 | _ => 0
theorem qdi (l : List UInt8) (a b : Nat) : (qah l).extract a b = qah ((l.drop a).take (b - a)) := by
 apply ByteArray.ext
 rw [ByteArray.data_extract]
 unfold qah
 simp [List.extract_toArray,List.extract_eq_take_drop]
theorem run_idx0 (w : World) (c : UInt8) (r : List UInt8) : (Go.Instr.index 9 (.string (qah (c :: r))) (.int .i64 0)).run Tryz.prog w = .ok (.int .u8 (c.toNat : Int)) w := by
 rw [run_index_string _ _ _ _ _ Tryz.underlying9,dif_pos ⟨by omega,by rw [qax]; simp only [List.length_cons]; omega⟩]
 rfl
theorem hex_two {a b : UInt8} {k : Nat} (h : hexW [a,b] = some k) : ∃ x y,hexP a = some x ∧ hexP b = some y ∧ k = 16 * x + y ∧ k < 256 := by
 unfold hexW at h
 rw [if_neg (by simp)] at h
 simp only [hexN] at h
 cases hx : hexP a with
 | none => rw [hx] at h; cases h
 | some x =>
   rw [hx] at h
   cases hy : hexP b with
   | none => rw [hy] at h; cases h
   | some y =>
     rw [hy] at h
     have h1 := hexP_lt hx
     have h2 := hexP_lt hy
     simp only [Option.some.injEq] at h
     exact ⟨x,y,rfl,rfl,by omega,by omega⟩
theorem hex_two_none {a b : UInt8} (h : hexW [a,b] = none) : hexP a = none ∨ hexP b = none := by
 unfold hexW at h
 rw [if_neg (by simp)] at h
 simp only [hexN] at h
 cases hx : hexP a with
 | none => exact .inl rfl
 | some x =>
   rw [hx] at h
   cases hy : hexP b with
   | none => exact .inr rfl
   | some y => rw [hy] at h; cases h
theorem unq_hex {c : UInt8} {r1 : List UInt8} {k : Nat} (hc : c = 92) (h3 : 2 ≤ r1.length) (h : hexW (r1.take 2) = some k) : k < 256 ∧ unqG hexP (c :: r1) = UInt8.ofNat k :: unqG hexP ((c :: r1).drop 3) := by
 match r1 with
 | [] => simp at h3
 | [_] => simp at h3
 | a :: b :: r =>
   obtain ⟨x,y,hx,hy,hk,hl⟩ := hex_two (show hexW [a,b] = some k from h)
   subst hc hk
   exact ⟨hl,unqG_hex hexP a b r hx hy⟩
theorem unq_one {c : UInt8} {r1 : List UInt8} (h : c ≠ 92 ∨ r1.length < 2 ∨ hexW (r1.take 2) = none) : unqG hexP (c :: r1) = c :: unqG hexP ((c :: r1).drop 1) := by
 by_cases hc : c = 92
 ·match r1 with
  | [] => simp [unqG]
  | [a] => simp [unqG]
  | a :: b :: r =>
    rcases h with h | h | h
    ·exact absurd hc h
    ·simp only [List.length_cons] at h; omega
    ·rw [unqG,if_pos hc]
     rcases hex_two_none (show hexW [a,b] = none from h) with h1 | h1
     ·rw [h1]; rfl
     ·rw [h1]; cases hexP a <;> rfl
 ·exact unqG_plain hexP c r1 hc
theorem unquote_any (l : List UInt8) (w : World) (hs : l.length ≤ 140737488351232) (hE : qea w) : Calls Tryz.prog 132 #[.string (qah l)] w (StrTo w (unqG hexP l)) := by
 have HS := hid hs; have HE := hid hE
 have HS0 := hid (qax l)
 clear hs hE
 go_enter Tryz.func132,Tryz.ntmps132
 go_wp2_with fail
 obtain ⟨R1,hR1⟩ : ∃ RR_ : (Nat → Value) → World → Prop,RR_ = (fun us wx => ∃ (r done : List UInt8) (v : Value),us 0 = .string (qah r) ∧ us 3 = v ∧ Put 5 w w.heap.size (.slice none 0 0) done v wx ∧ done ++ unqG hexP r = unqG hexP l ∧ done.length + r.length ≤ l.length) := ⟨_,rfl⟩
 obtain ⟨mu1,hmu1⟩ : ∃ mu : (Nat → Value) → World → Nat,mu = (fun us _ => strLen (us 0)) := ⟨_,rfl⟩
 have HR1 := hid hR1; have Hmu1 := hid hmu1; clear hR1 hmu1
 refine qal [true,ff,ff,true,true,true,true,true,true,true,true,true,true,true,true,true,true,true,true,true,true,true,true,true,true,true,true,true,true,true,true,true,true,true,true,true,true,true,true,true,true,true,true,true,true] R1 _ mu1 HR1.out ?_ ?_
 ·exact ⟨l,[],_,rfl,rfl,Put.refl ⟨rfl,.inl ⟨rfl,rfl⟩⟩,rfl,by simp⟩
 intro us1 wx hrel
 obtain ⟨r,done,v,h0,h3,hP,hd,hl⟩ := hrel
 simp only [qao,Nat.reduceAdd,h0,h3]
 have Hh0 := hid h0; clear h0
 have Hh3 := hid h3; clear h3
 have HP := hid hP; have HD := hid hd; have HL := hid hl
 clear hP hd hl
 match r with
 | [] =>
   have hz : (qah []).size = 0 := rfl
   have hstr := (owned_bytes HP.out.own).string (src := 55) (dst := 9) Tryz.underlying55 Tryz.underlying5 Tryz.underlying9
   obtain ⟨a7,c7,rfl⟩ := ownsRow_slice HP.out.own
   have HLW := hid (HP.out.later rfl)
   go_wp2_with fail
   go_ret
   exact ⟨ret_str (by rw [← HD.out]; simp [unqG]),HLW.out⟩
 | c :: r1 =>
   have hz : (qah (c :: r1)).size = r1.length + 1 := qax _
   have hix := fun w => run_idx0 w c r1
   have HLW := hid (HP.out.later rfl)
   obtain ⟨m,hm⟩ : ∃ m,m = c.toNat := ⟨_,rfl⟩
   have HM := hid hm
   rw [← hm] at hix
   clear hm
   go_upto_region 4 with (fail)
   obtain ⟨q,hq⟩ : ∃ q : Nat,q = min 3 (r1.length + 1) := ⟨_,rfl⟩
   have hm1 : min (1 : Int) ((r1.length : Int) + 1) = 1 := by omega
   have hm3 : min (3 : Int) ((r1.length : Int) + 1) = (q : Int) := by omega
   have hq1 : (1 : Int) ≤ q := by omega
   have hq2 : (q : Int) ≤ (r1.length : Int) + 1 := by omega
   have hex : (qah (c :: r1)).extract 1 q = qah (r1.take (q - 1)) := by rw [qdi]; rfl
   have HQ := hid hq
   clear hq
   have HT : Hid (2 ≤ r1.length → r1.take (q - 1) = r1.take 2) := hid fun h => by have := HQ.out; rw [show q - 1 = 2 by omega]
   go_wp2_with fail
   refine (parse_hex (qah (r1.take (q - 1))) _ (by rw [qax,List.length_take]; have := HQ.out; omega) (HE.out.later HLW.out)).mono ?_
   rintro e w2 ⟨hL,⟨k,hk,rfl⟩ | ⟨hk,N,rfl⟩⟩
   ·have HK : Hid (hexW (r1.take (q - 1)) = some k) := hid hk
    have HP2 := hid (HP.out.behind hL)
    clear hk hL hm1 hm3 hex
    by_cases h92 : m = 92
    ·subst h92
     have hc : c = 92 := UInt8.toNat_inj.1 (by rw [← HM.out]; rfl)
     by_cases h3 : 2 ≤ r1.length
     ·obtain ⟨hk8,hu⟩ := unq_hex hc h3 (by rw [← HT.out h3]; exact HK.out)
      have HU := hid hu
      have hk9 : (3 : Int) ≤ (r1.length : Int) + 1 := by omega
      clear hu hc
      have hre : (qah (c :: r1)).extract 3 (r1.length + 1) = qah ((c :: r1).drop 3) := by rw [qdi,List.take_of_length_le (by simp)]
      go_wp2_with (at_builtin; refine qaz rfl _ _ 55 rfl 5 1 1 Tryz.underlying55 infoB rfl (qcd HP2.out.own (qag.alloc _ _)) (news := [.int .u8 (k : Int)]) rfl (qcp (by simp)) rfl ?c0 ?c1 ?c2 ?c3 ?_)
      case c0 => intro u hu; simp only [List.mem_cons,List.not_mem_nil,or_false] at hu; subst hu; rfl
      case c1 => have := HL.out; have := HS.out; omega
      case c2 => have := HL.out; have := HS.out; unfold maxLen; omega
      case c3 => have := HP2.out.keep.size; simp only [World.size_alloc]; omega
      intro v7 w7 hA7
      have hp7 : Put 5 _ w.heap.size v (done ++ [UInt8.ofNat k]) v7 w7 := Put.of_appended hA7 (by simp) (by simp [qbd]; omega)
      have HP7 := hid (HP2.out.trans (Put.ahead (qag.alloc _ _) hp7))
      clear hA7 hp7
      go_wp2_with fail
      refine Round.mk' HR1.out Hmu1.out rfl ?_ ?_
      ·refine ⟨(c :: r1).drop 3,done ++ [UInt8.ofNat k],v7,rfl,rfl,HP7.out,?_,?_⟩
       ·rw [List.append_assoc]; exact (congrArg (done ++ ·) HU.out).symm.trans HD.out
       ·have := HL.out; simp only [List.length_append,List.length_drop,List.length_cons,List.length_nil] at this ⊢; omega
      ·rw [Hh0.out]; simp [strLen,qas,qax] <;> omega
     ·have HU := hid (unq_one (c := c) (r1 := r1) (.inr (.inl (by omega))))
      have hk9 : ¬ (3 : Int) ≤ (r1.length : Int) + 1 := by omega
      clear hc
      have hre : (qah (c :: r1)).extract 1 (r1.length + 1) = qah ((c :: r1).drop 1) := by rw [qdi,List.take_of_length_le (by simp)]
      go_wp2_with (at_builtin; refine qaz rfl _ _ 55 rfl 5 1 1 Tryz.underlying55 infoB rfl (qcd HP2.out.own (qag.alloc _ _)) (news := [.int .u8 92]) rfl (qcp (by simp)) rfl ?c0 ?c1 ?c2 ?c3 ?_)
      case c0 => intro u hu; simp only [List.mem_cons,List.not_mem_nil,or_false] at hu; subst hu; rfl
      case c1 => have := HL.out; have := HS.out; omega
      case c2 => have := HL.out; have := HS.out; unfold maxLen; omega
      case c3 => have := HP2.out.keep.size; simp only [World.size_alloc]; omega
      intro v7 w7 hA7
      have hp7 : Put 5 _ w.heap.size v (done ++ [c]) v7 w7 := Put.of_appended hA7 (by simp) (by have h := HM.out; simp [qbd,← h])
      have HP7 := hid (HP2.out.trans (Put.ahead (qag.alloc _ _) hp7))
      clear hA7 hp7
      go_wp2_with fail
      refine Round.mk' HR1.out Hmu1.out rfl ?_ ?_
      ·refine ⟨(c :: r1).drop 1,done ++ [c],v7,rfl,rfl,HP7.out,?_,?_⟩
       ·rw [List.append_assoc]; exact (congrArg (done ++ ·) HU.out).symm.trans HD.out
       ·have := HL.out; simp only [List.length_append,List.length_drop,List.length_cons,List.length_nil] at this ⊢; omega
      ·rw [Hh0.out]; simp [strLen,qas,qax] <;> omega
    ·have HU := hid (unq_one (c := c) (r1 := r1) (.inl (by rintro rfl; exact h92 (by rw [HM.out]; rfl))))
     have h92' : ¬ (m : Int) = 92 := by omega
     have hre : (qah (c :: r1)).extract 1 (r1.length + 1) = qah ((c :: r1).drop 1) := by rw [qdi,List.take_of_length_le (by simp)]
     go_wp2_with (at_builtin; refine qaz rfl _ _ 55 rfl 5 1 1 Tryz.underlying55 infoB rfl (qcd HP2.out.own (qag.alloc _ _)) (news := [.int .u8 (m : Int)]) rfl (qcp (by simp)) rfl ?c0 ?c1 ?c2 ?c3 ?_)
     case c0 => intro u hu; simp only [List.mem_cons,List.not_mem_nil,or_false] at hu; subst hu; rfl
     case c1 => have := HL.out; have := HS.out; omega
     case c2 => have := HL.out; have := HS.out; unfold maxLen; omega
     case c3 => have := HP2.out.keep.size; simp only [World.size_alloc]; omega
     intro v7 w7 hA7
     have hp7 : Put 5 _ w.heap.size v (done ++ [c]) v7 w7 := Put.of_appended hA7 (by simp) (by simp [qbd,HM.out])
     have HP7 := hid (HP2.out.trans (Put.ahead (qag.alloc _ _) hp7))
     clear hA7 hp7
     go_wp2_with fail
     refine Round.mk' HR1.out Hmu1.out rfl ?_ ?_
     ·refine ⟨(c :: r1).drop 1,done ++ [c],v7,rfl,rfl,HP7.out,?_,?_⟩
      ·rw [List.append_assoc]; exact (congrArg (done ++ ·) HU.out).symm.trans HD.out
      ·have := HL.out; simp only [List.length_append,List.length_drop,List.length_cons,List.length_nil] at this ⊢; omega
     ·rw [Hh0.out]; simp [strLen,qas,qax] <;> omega
   ·have HU : Hid (unqG hexP (c :: r1) = c :: unqG hexP ((c :: r1).drop 1)) := hid (by
     by_cases h3 : 2 ≤ r1.length
     ·exact unq_one (.inr (.inr (by rw [← HT.out h3]; exact hk)))
     ·exact unq_one (.inr (.inl (by omega))))
    have HP2 := hid (HP.out.behind hL)
    unfold numE
    clear hk hL hm1 hm3 hex
    by_cases h92 : m = 92
    ·subst h92
     have hre : (qah (c :: r1)).extract 1 (r1.length + 1) = qah ((c :: r1).drop 1) := by rw [qdi,List.take_of_length_le (by simp)]
     go_wp2_with (at_builtin; refine qaz rfl _ _ 55 rfl 5 1 1 Tryz.underlying55 infoB rfl (qcd HP2.out.own (qag.alloc _ _)) (news := [.int .u8 92]) rfl (qcp (by simp)) rfl ?c0 ?c1 ?c2 ?c3 ?_)
     case c0 => intro u hu; simp only [List.mem_cons,List.not_mem_nil,or_false] at hu; subst hu; rfl
     case c1 => have := HL.out; have := HS.out; omega
     case c2 => have := HL.out; have := HS.out; unfold maxLen; omega
     case c3 => have := HP2.out.keep.size; simp only [World.size_alloc]; omega
     intro v7 w7 hA7
     have hp7 : Put 5 _ w.heap.size v (done ++ [c]) v7 w7 := Put.of_appended hA7 (by simp) (by have h := HM.out; simp [qbd,← h])
     have HP7 := hid (HP2.out.trans (Put.ahead (qag.alloc _ _) hp7))
     clear hA7 hp7
     go_wp2_with fail
     refine Round.mk' HR1.out Hmu1.out rfl ?_ ?_
     ·refine ⟨(c :: r1).drop 1,done ++ [c],v7,rfl,rfl,HP7.out,?_,?_⟩
      ·rw [List.append_assoc]; exact (congrArg (done ++ ·) HU.out).symm.trans HD.out
      ·have := HL.out; simp only [List.length_append,List.length_drop,List.length_cons,List.length_nil] at this ⊢; omega
     ·rw [Hh0.out]; simp [strLen,qas,qax] <;> omega
    ·have h92' : ¬ (m : Int) = 92 := by omega
     have hre : (qah (c :: r1)).extract 1 (r1.length + 1) = qah ((c :: r1).drop 1) := by rw [qdi,List.take_of_length_le (by simp)]
     go_wp2_with (at_builtin; refine qaz rfl _ _ 55 rfl 5 1 1 Tryz.underlying55 infoB rfl (qcd HP2.out.own (qag.alloc _ _)) (news := [.int .u8 (m : Int)]) rfl (qcp (by simp)) rfl ?c0 ?c1 ?c2 ?c3 ?_)
     case c0 => intro u hu; simp only [List.mem_cons,List.not_mem_nil,or_false] at hu; subst hu; rfl
     case c1 => have := HL.out; have := HS.out; omega
     case c2 => have := HL.out; have := HS.out; unfold maxLen; omega
     case c3 => have := HP2.out.keep.size; simp only [World.size_alloc]; omega
     intro v7 w7 hA7
     have hp7 : Put 5 _ w.heap.size v (done ++ [c]) v7 w7 := Put.of_appended hA7 (by simp) (by simp [qbd,HM.out])
     have HP7 := hid (HP2.out.trans (Put.ahead (qag.alloc _ _) hp7))
     clear hA7 hp7
     go_wp2_with fail
     refine Round.mk' HR1.out Hmu1.out rfl ?_ ?_
     ·refine ⟨(c :: r1).drop 1,done ++ [c],v7,rfl,rfl,HP7.out,?_,?_⟩
      ·rw [List.append_assoc]; exact (congrArg (done ++ ·) HU.out).symm.trans HD.out
      ·have := HL.out; simp only [List.length_append,List.length_drop,List.length_cons,List.length_nil] at this ⊢; omega
     ·rw [Hh0.out]; simp [strLen,qas,qax] <;> omega
end Go.Proofs.YtgajofkeidjbgaaGreatDoor
namespace Go.Proofs.YtgajofkeidjbgaaGreatDoor
set_option linter.unusedSimpArgs false
set_option linter.unusedVariables false
open Go.ChangeShapes Go.WideShapes Go.RowKit
theorem ownKnobErr : ownKnob Tryz.prog.godebug = none := by kernel_rfl
theorem laidOutErr : laidOutB Tryz.prog = true := by kernel_rfl
abbrev errList : List (String × DataW Unit) := [("math/bits.deBruijn32tab", Rows.laid_math_bits_deBruijn32tab), ("math/bits.deBruijn64tab", Rows.laid_math_bits_deBruijn64tab), ("internal/strconv.uint64pow10", Rows.laid_internal_strconv_uint64pow10), ("strconv.ErrRange", Rows.laid_strconv_ErrRange), ("strconv.ErrSyntax", Rows.laid_strconv_ErrSyntax)]
theorem tabE_data : (Rows.laid_internal_strconv_uint64pow10 : DataW Unit) = Lib.tabData .u64 Lib.pow10Tab := by kernel_rfl
theorem star_err : "*" ++ "errors.errorString" = "*errors.errorString" := by decide
theorem row_err (u : TypeId) (h : Tryz.prog.typeName? 3 u = some "*errors.errorString") : u = 245 :=
 typeName_ptr_named (nm := "errors.errorString") (by rw [star_err]; kernel_rfl) (by kernel_rfl) (by decide) u (by rw [star_err]; exact h)
theorem tabs_met {W : World} {rest : List (String × DataW Unit)} (h : laidMet Tryz.prog ((("internal/strconv.uint64pow10"), Rows.laid_internal_strconv_uint64pow10) :: rest) W) : PowTab W := by
 rw [tabE_data] at h
 exact Lib.tabIs_of_head (g := 6) (t := 250) (e := 226) (n := 20) (by kernel_rfl) (by kernel_rfl) (by kernel_rfl) (by kernel_rfl) (by kernel_rfl) (by kernel_rfl) h
theorem rng_met {W : World} {rest : List (String × DataW Unit)} (h : laidMet Tryz.prog (("strconv.ErrRange", Rows.laid_strconv_ErrRange) :: rest) W) : ∃ t p, W.cell? ⟨5, 0, none⟩ = some (.iface t p) := by
 have hg : Tryz.prog.globalNamed "strconv.ErrRange" = some 5 := by kernel_rfl
 obtain ⟨a,s,hv,-,-,-⟩ := laid_sentinel (ti := 23) (tp := 245) (te := 247) (ts := 9) h hg (by kernel_rfl) Tryz.underlying23 row_err Tryz.underlying245 Tryz.underlying247 rfl rfl Tryz.underlying9 (by kernel_rfl) (by kernel_rfl)
 exact ⟨_,_,by simpa using World.var?_cell hg hv 0⟩
theorem syn_met {W : World} {rest : List (String × DataW Unit)} (h : laidMet Tryz.prog (("strconv.ErrSyntax", Rows.laid_strconv_ErrSyntax) :: rest) W) : ∃ t p, W.cell? ⟨4, 0, none⟩ = some (.iface t p) := by
 have hg : Tryz.prog.globalNamed "strconv.ErrSyntax" = some 4 := by kernel_rfl
 obtain ⟨a,s,hv,-,-,-⟩ := laid_sentinel (ti := 23) (tp := 245) (te := 247) (ts := 9) h hg (by kernel_rfl) Tryz.underlying23 row_err Tryz.underlying245 Tryz.underlying247 rfl rfl Tryz.underlying9 (by kernel_rfl) (by kernel_rfl)
 exact ⟨_,_,by simpa using World.var?_cell hg hv 0⟩
noncomputable def errWorld (os : Os) : World := World.laidAll Tryz.prog os errList
end Go.Proofs.YtgajofkeidjbgaaGreatDoor
namespace Go.Proofs.YtgajofkeidjbgaaGreatDoor
set_option linter.unusedSimpArgs false
set_option linter.unusedVariables false
end Go.Proofs.YtgajofkeidjbgaaGreatDoor
namespace Go.Proofs.YtgajofkeidjbgaaGreatDoor
set_option linter.unusedSimpArgs false
set_option linter.unusedVariables false
set_option maxHeartbeats 4000000
open Go.RowKit Go.Extern.Stop Go.Stop Go.Extern
theorem valueOfP (t : Addr) (w : World) : (ReflectliteValue.unpack (.iface 74 (.pointer (some t)))).run Tryz.prog w
  = .ok (.agg #[.pointer (some ⟨10,74,none⟩),.pointer (some ⟨w.heap.size,0,none⟩),.int .u64 150]) (w.alloc (.cells #[.pointer (some t)] 74)) := by kernel_rfl
theorem typeP (a : Addr) (w : World) : (ReflectliteValue.methodAny (ReflectliteValue.valueError "reflectlite.Value.Type" 0) (fun t _ _ _ => ReflectliteType.toType t) #[.agg #[.pointer (some ⟨10, 74, none⟩), .pointer (some a), .int .u64 150]]).run Tryz.prog w
  = .ok (.iface 146 (.agg #[.pointer (some ⟨10,74,none⟩)])) w := by kernel_rfl
theorem methodKind (h : Value) (w : World) : (Go.method 386 146 (.agg #[h]) "Kind").run Tryz.prog w = .ok (183, h) w := by kernel_rfl
theorem kindToldP (w : World) : ((ReflectliteType.abiMethod fun t => (fun a : Nat => Value.int IntKind.u8 (a : Int)) <$> Rtype.kind t) #[.pointer (some ⟨10,74,none⟩)]).run Tryz.prog w = .ok (.int .u8 22) w := by kernel_rfl
theorem kindE (w : World) : ((ReflectliteType.abiMethod fun t => (fun a : Nat => Value.int IntKind.u8 (a : Int)) <$> Rtype.kind t) #[.pointer (some ⟨10,29,none⟩)]).run Tryz.prog w = .ok (.int .u8 2) w := by kernel_rfl
theorem rlm (z : Sem Value) (f : TypeId → Addr → Nat → Nat → Sem Value) (v : Value) :
  ReflectliteValue.method z f #[v] = (do match ← ReflectliteValue.parts v with | none => z | some (t,a,fl) => f t a fl (fl % 32)) := rfl
theorem partsP (a : Addr) (w : World) : (ReflectliteValue.parts (.agg #[.pointer (some ⟨10,74,none⟩),.pointer (some a),.int .u64 150])).run Tryz.prog w = .ok (some (74,a,150)) w := by kernel_rfl
theorem isNilP (a p : Addr) (W : World) (ha : W.cell? a = some (.pointer (some p))) :
  (ReflectliteValue.method (ReflectliteValue.valueError "reflectlite.Value.IsNil" 0) ReflectliteValue.isNil #[.agg #[.pointer (some ⟨10, 74, none⟩), .pointer (some a), .int .u64 150]]).run Tryz.prog W = .ok (.bool false) W := by
 rw [rlm]
 simp only [Sem.run_bind,partsP,Result.andThen]
 simp [ReflectliteValue.isNil,loadVar,isAgg,underlying,Tryz.underlying74,ha,Result.andThen]
theorem methodElem (h : Value) (w : World) : (Go.method 386 146 (.agg #[h]) "Elem").run Tryz.prog w = .ok (202, .agg #[h]) w := by kernel_rfl
theorem methodImplements (h : Value) (w : World) : (Go.method 386 146 (.agg #[h]) "Implements").run Tryz.prog w = .ok (203, .agg #[h]) w := by kernel_rfl
theorem methodAssignableTo (h : Value) (w : World) : (Go.method 386 146 (.agg #[h]) "AssignableTo").run Tryz.prog w = .ok (200, .agg #[h]) w := by kernel_rfl
theorem elemP (w : World) : (ReflectliteType.method ReflectliteType.elem #[.agg #[.pointer (some ⟨10,74,none⟩)]]).run Tryz.prog w = .ok (.iface 146 (.agg #[.pointer (some ⟨10,29,none⟩)])) w := by kernel_rfl
theorem implementsE (w : World) : (ReflectliteType.relation "Implements" ReflectliteType.implements_ #[.agg #[.pointer (some ⟨10, 29, none⟩)], .iface 146 (.agg #[.pointer (some ⟨10, 23, none⟩)])]).run Tryz.prog w = .ok (.bool true) w := by kernel_rfl
theorem typeOfE (v : Value) (w : World) : (ReflectliteType.typeOf #[.iface 29 v]).run Tryz.prog w = .ok (.iface 146 (.agg #[.pointer (some ⟨10,29,none⟩)])) w := by kernel_rfl
theorem assignableE (w : World) : (ReflectliteType.relation "AssignableTo" ReflectliteType.assignableTo #[.agg #[.pointer (some ⟨10, 29, none⟩)], .iface 146 (.agg #[.pointer (some ⟨10, 29, none⟩)])]).run Tryz.prog w = .ok (.bool true) w := by kernel_rfl
theorem valueOfE (c : Int) (w : World) : (ReflectliteValue.unpack (.iface 29 (.int .i64 c))).run Tryz.prog w
  = .ok (.agg #[.pointer (some ⟨10,29,none⟩),.pointer (some ⟨w.heap.size,0,none⟩),.int .u64 130]) (w.alloc (.cells #[.int .i64 c] 29)) := by kernel_rfl
theorem elemOfP (w : World) : (Rtype.elem? 74).run Tryz.prog w = .ok (some 29) w := by kernel_rfl
theorem mkE (p : Addr) (w : World) : (ReflectliteValue.mk 29 p ReflectliteValue.flagAddr).run Tryz.prog w = .ok (.agg #[.pointer (some ⟨10,29,none⟩),.pointer (some p),.int .u64 386]) w := by kernel_rfl
theorem elemVP (a p : Addr) (W : World) (ha : W.cell? a = some (.pointer (some p))) :
  (ReflectliteValue.method (ReflectliteValue.valueError "reflectlite.Value.Elem" 0) ReflectliteValue.elem #[.agg #[.pointer (some ⟨10, 74, none⟩), .pointer (some a), .int .u64 150]]).run Tryz.prog W
   = .ok (.agg #[.pointer (some ⟨10,29,none⟩),.pointer (some p),.int .u64 386]) W := by
 rw [rlm]
 simp only [Sem.run_bind,partsP,Result.andThen]
 simp [ReflectliteValue.elem,loadVar,isAgg,underlying,Tryz.underlying74,ha,Result.andThen,elemOfP,mkE]
theorem rls (v x : Value) : ReflectliteValue.set #[v,x] = (do
  let (some (dst,a,fl),some (src,b,_)) := (← ReflectliteValue.parts v,← ReflectliteValue.parts x)
   | unsupported (.noEntry "extern/(internal/reflectlite.Value).Set.zeroValue")
  if fl / ReflectliteValue.flagAddr % 2 == 0 then unsupported (.noEntry "extern/(internal/reflectlite.Value).Set.unaddressable")
  let val ← loadVar src b
  if ← Rtype.directlyAssignable dst src then storeVar dst a val
  else if ← Rtype.implements dst src then
   if (← Rtype.kind src) == 20 then
    match val with
    | .nilIface => unsupported (.noEntry "extern/reflectlite: a nil value of one interface type handed on as a value of another")
    | _ => storeVar dst a val
   else storeVar dst a (.iface src val)
  else panicString ("reflectlite.Set: value of type " ++ (← Rtype.spelt src) ++ " is not assignable to type " ++ (← Rtype.spelt dst))
  pure (.tuple #[])) := rfl
theorem partsEa (a : Addr) (w : World) : (ReflectliteValue.parts (.agg #[.pointer (some ⟨10,29,none⟩),.pointer (some a),.int .u64 386])).run Tryz.prog w = .ok (some (29,a,386)) w := by kernel_rfl
theorem partsE (a : Addr) (w : World) : (ReflectliteValue.parts (.agg #[.pointer (some ⟨10,29,none⟩),.pointer (some a),.int .u64 130])).run Tryz.prog w = .ok (some (29,a,130)) w := by kernel_rfl
theorem directE (w : World) : (Rtype.directlyAssignable 29 29).run Tryz.prog w = .ok true w := by kernel_rfl
theorem setE (ta b : Addr) (c : Int) (old : Value) (W : World) (hb : W.cell? b = some (.int .i64 c)) (ht : W.cell? ta = some old) (hf : W.frozen? ta = false) :
  (ReflectliteValue.set #[.agg #[.pointer (some ⟨10,29,none⟩),.pointer (some ta),.int .u64 386],.agg #[.pointer (some ⟨10,29,none⟩),.pointer (some b),.int .u64 130]]).run Tryz.prog W
   = .ok (.tuple #[]) (W.setCell ta (.int .i64 c)) := by
 rw [rls]
 simp only [Sem.run_bind,partsEa,partsE,Result.andThen]
 simp [ReflectliteValue.flagAddr,loadVar,isAgg,underlying,Tryz.underlying29,hb,Result.andThen,directE,storeVar,Value.cells,storeCells,Addr.add]
 rw [run_store Tryz.prog W ta _ _ (by rfl)]
 simp [ht,hf]
def Laid (w : World) : Prop := w.cell? ⟨0,0,none⟩ = some (.iface 146 (.agg #[.pointer (some ⟨10,23,none⟩)]))
theorem Laid.later {w w' : World} (h : Laid w) (k : qag w w') : Laid w' := k.cell h
theorem as_hit (c : Int) (t : Addr) (old : Value) (w : World) (hg : Laid w) (ht0 : w.cell? t = some old) (hf0 : w.frozen? t = false) :
  Calls Tryz.prog 24 #[.iface 29 (.int .i64 c),.iface 74 (.pointer (some t))] w fun ev w' => ev = .returned (.bool true) ∧ w' = ((((w.alloc (.cells #[.pointer (some t)] 74)).alloc (.cells #[.pointer (some ⟨10,74,none⟩),.pointer (some ⟨w.heap.size,0,none⟩),.int .u64 150] 111)).alloc (.cells #[.pointer (some ⟨10,74,none⟩),.pointer (some ⟨w.heap.size,0,none⟩),.int .u64 150] 111)).alloc (.cells #[.int .i64 c] 29)).setCell t (.int .i64 c) := by
 have h6 := @run_callFunc_extern Tryz.prog 47 _ (fun args => ReflectliteValue.unpack (args.getD 0 (.tuple #[]))) Tryz.func47 (by kernel_rfl) (by kernel_rfl) (by kernel_rfl) (by kernel_rfl)
 have h7 := @run_callFunc_extern Tryz.prog 48 _ (ReflectliteValue.methodAny (ReflectliteValue.valueError "reflectlite.Value.Type" 0) (fun t _ _ _ => ReflectliteType.toType t)) Tryz.func48 (by kernel_rfl) (by kernel_rfl) (by kernel_rfl) (by kernel_rfl)
 have h8 := @run_callFunc_extern Tryz.prog 49 _ (ReflectliteValue.method (ReflectliteValue.valueError "reflectlite.Value.IsNil" 0) ReflectliteValue.isNil) Tryz.func49 (by kernel_rfl) (by kernel_rfl) (by kernel_rfl) (by kernel_rfl)
 have h27 := @run_callFunc_extern Tryz.prog 183 _ (ReflectliteType.abiMethod fun t => do pure (.int .u8 (← Rtype.kind t))) Tryz.func183 (by kernel_rfl) (by kernel_rfl) (by kernel_rfl) (by kernel_rfl)
 have h37 := @run_callFunc_extern Tryz.prog 202 _ (ReflectliteType.method ReflectliteType.elem) Tryz.func202 (by kernel_rfl) (by kernel_rfl) (by kernel_rfl) (by kernel_rfl)
 have h38 := @run_callFunc_extern Tryz.prog 203 _ (ReflectliteType.relation "Implements" ReflectliteType.implements_) Tryz.func203 (by kernel_rfl) (by kernel_rfl) (by kernel_rfl) (by kernel_rfl)
 have h10 := @run_callFunc_extern Tryz.prog 79 _ ReflectliteType.typeOf Tryz.func79 (by kernel_rfl) (by kernel_rfl) (by kernel_rfl) (by kernel_rfl)
 have h35 := @run_callFunc_extern Tryz.prog 200 _ (ReflectliteType.relation "AssignableTo" ReflectliteType.assignableTo) Tryz.func200 (by kernel_rfl) (by kernel_rfl) (by kernel_rfl) (by kernel_rfl)
 have h11 := @run_callFunc_extern Tryz.prog 80 _ (ReflectliteValue.method (ReflectliteValue.valueError "reflectlite.Value.Elem" 0) ReflectliteValue.elem) Tryz.func80 (by kernel_rfl) (by kernel_rfl) (by kernel_rfl) (by kernel_rfl)
 have h12 := @run_callFunc_extern Tryz.prog 81 _ ReflectliteValue.set Tryz.func81 (by kernel_rfl) (by kernel_rfl) (by kernel_rfl) (by kernel_rfl)
 have tO := typeOfE
 have mA := methodAssignableTo
 have a25 := assignableE
 have v25 := valueOfE c
 have f6 := valueOfP
 have f7 := typeP
 have mK := methodKind
 have mE := methodElem
 have mI := methodImplements
 have k27 := kindToldP
 have k25 := kindE
 have e27 := elemP
 have i25 := implementsE
 unfold Laid at hg
 have n8 := isNilP ⟨w.heap.size,0,none⟩ t ((w.alloc (.cells #[.pointer (some t)] 74)).alloc (.cells #[.pointer (some ⟨10,74,none⟩),.pointer (some ⟨w.heap.size,0,none⟩),.int .u64 150] 111)) (by simp)
 have hlt : 0 < w.heap.size := qad hg
 have hg2 : ((w.alloc (.cells #[.pointer (some t)] 74)).alloc (.cells #[.pointer (some ⟨10,74,none⟩),.pointer (some ⟨w.heap.size,0,none⟩),.int .u64 150] 111)).cell? ⟨0,0,none⟩ = some (.iface 146 (.agg #[.pointer (some ⟨10,23,none⟩)])) := by
  rw [World.cell?_alloc_lt _ _ ⟨0,0,none⟩ (by first | (simp; done) | (simp; omega)),World.cell?_alloc_lt _ _ ⟨0,0,none⟩ hlt]; exact hg
 have htl : t.block < w.heap.size := qad ht0
 have el := elemVP ⟨w.heap.size,0,none⟩ t (((w.alloc (.cells #[.pointer (some t)] 74)).alloc (.cells #[.pointer (some ⟨10,74,none⟩),.pointer (some ⟨w.heap.size,0,none⟩),.int .u64 150] 111)).alloc (.cells #[.pointer (some ⟨10,74,none⟩),.pointer (some ⟨w.heap.size,0,none⟩),.int .u64 150] 111)) (by rw [World.cell?_alloc_lt _ _ ⟨w.heap.size,0,none⟩ (by simp; omega)]; simp)
 have st := setE t ⟨w.heap.size + 1 + 1 + 1,0,none⟩ c old ((((w.alloc (.cells #[.pointer (some t)] 74)).alloc (.cells #[.pointer (some ⟨10,74,none⟩),.pointer (some ⟨w.heap.size,0,none⟩),.int .u64 150] 111)).alloc (.cells #[.pointer (some ⟨10,74,none⟩),.pointer (some ⟨w.heap.size,0,none⟩),.int .u64 150] 111)).alloc (.cells #[.int .i64 c] 29))
  (by rw [World.cell?_alloc_at _ _ _ _ (by simp)]; rfl)
  (by rw [World.cell?_alloc_lt _ _ t (by simp; omega),World.cell?_alloc_lt _ _ t (by simp; omega),World.cell?_alloc_lt _ _ t (by simp; omega),World.cell?_alloc_lt _ _ t htl]; exact ht0)
  (by rw [World.frozen?_alloc_old _ _ t (by simp; omega),World.frozen?_alloc_old _ _ t (by simp; omega),World.frozen?_alloc_old _ _ t (by simp; omega),World.frozen?_alloc_old _ _ t (Nat.ne_of_lt htl)]; exact hf0)
 go_enter Tryz.func24,Tryz.ntmps24
 go_wp2
 refine wp_loop_rounds 1 ?_
 rw [rounds_succ]
 go_wp2
 go_ret
 exact ⟨rfl,rfl⟩
def NumTo (w : World) (c : Int) (e : Ending) (w' : World) : Prop := e = .returned (.int .i64 c) ∧ qag w w'
theorem told_nil (w : World) : Calls Tryz.prog 10 #[.nilIface] w (NumTo w 0) := by
 go_enter Tryz.func10,Tryz.ntmps10
 go_wp2
 go_ret
 exact ⟨rfl,qag.refl _⟩
theorem told_errno (c : Int) (w : World) (hg : Laid w) : Calls Tryz.prog 10 #[.iface 29 (.int .i64 c)] w (NumTo w c) := by
 have HG : Hid (Laid (w.alloc (.cells #[.int .i64 0] 29))) := hid (hg.later (qag.alloc _ _))
 clear hg
 go_enter Tryz.func10,Tryz.ntmps10
 go_wp2_with (go_at_call 24; refine (as_hit c ⟨w.heap.size,0,none⟩ (.int .i64 0) _ HG.out (by simp) (by simp)).mono ?_; rintro e w' ⟨rfl,rfl⟩)
 go_ret
 refine ⟨rfl,?_⟩
 exact ((((qag.alloc w _).alloc' _).alloc' _).alloc' _).alloc' _
end Go.Proofs.YtgajofkeidjbgaaGreatDoor
