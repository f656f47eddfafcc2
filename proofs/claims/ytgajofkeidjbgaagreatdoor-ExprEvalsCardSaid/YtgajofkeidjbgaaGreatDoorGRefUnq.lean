/-
  PROVED HERE: a part of the proof of ExprEvals: RefUnq, RefWhole, RefReadV.
-/
import Derived.Test.YtgajofkeidjbgaaGreatDoorShort
import Derived.Test.YtgajofkeidjbgaaGreatDoorGRefCall
namespace Go.Proofs.YtgajofkeidjbgaaGreatDoor
set_option linter.unusedSimpArgs false
set_option linter.unusedVariables false
set_option maxHeartbeats 4000000
set_option maxRecDepth 100000
open Go.RowKit
theorem len_less {v u : Value} {n k j : Nat} (h : v = .int .i64 (j : Int)) (h' : u = .int .i64 (k : Int)) (hj : k < j) (hk : k < n) : n - (intOf v).toNat < n - (intOf u).toNat := by rw [h,h']; simp [intOf]; omega
theorem wrap_k (k : Nat) (h : k ≤ 140737488351232) : wrap64 ((k : Int) + 1) = (k : Int) + 1 ∧ wrap64 ((k : Int) + 2) = (k : Int) + 2 ∧ wrap64 ((k : Int) + 2 + 1) = (k : Int) + 2 + 1 ∧ wrap64 ((k : Int) + 3) = (k : Int) + 3 := by unfold wrap64; omega
theorem wrap_k3 (k : Nat) (h : k ≤ 140737488351232) : wrap64 ((k : Int) + 2 + 1) = ((k + 3 : Nat) : Int) := by unfold wrap64; omega
theorem wrap_ki (k : Nat) (h : k ≤ 140737488351232) : IntKind.i64.wrap ((k : Int) + 1) = (k : Int) + 1 ∧ IntKind.i64.wrap ((k : Int) + 2) = (k : Int) + 2 := ⟨IntWalk.i64_in _ (by omega),IntWalk.i64_in _ (by omega)⟩
theorem xy_in (x y : Nat) (hx : x < 16) (hy : y < 16) : 0 ≤ 16 * (x : Int) + y ∧ 16 * (x : Int) + y < 256 ∧ 16 * (x : Int) + y ≤ 255 := by omega
theorem wrap_xy (x y : Nat) (hx : x < 16) (hy : y < 16) : wrap64 (16 * (x : Int)) = 16 * (x : Int) ∧ wrap64 (16 * (x : Int) + y) = 16 * (x : Int) + y := by unfold wrap64; omega
def hexI (c : UInt8) : Int := match hexR c with
 | some d => (d : Int)
 | none => -1
theorem rhex_any (c : UInt8) (m : Int) (hm : m = (c.toNat : Int)) (w : World) : Calls Tryz.prog 120 #[.int .u8 m] w fun e w' => e = .returned (.int .i64 (hexI c)) ∧ w' = w := by
 have hc := c.toNat_lt
 have h0 : 0 ≤ m := by omega
 have h1 : m ≤ 255 := by omega
 have HM := hid hm
 clear hm hc
 go_enter Tryz.func120,Tryz.ntmps120
 by_cases d0 : 48 ≤ m
 ·by_cases d1 : m ≤ 57
  ·have HX : Hid (hexI c = m - 48) := hid (by
    have h := HM.out
    unfold hexI hexR
    rw [if_pos (by omega)]
    show ((c.toNat - 48 : Nat) : Int) = m - 48
    omega)
   go_wp2_with fail
   go_ret
   exact ⟨congrArg (fun x => Ending.returned (Value.int .i64 x)) HX.out.symm,rfl⟩
  ·by_cases d2 : 97 ≤ m
   ·by_cases d3 : m ≤ 102
    ·have HX : Hid (hexI c = m - 97 + 10) := hid (by
      have h := HM.out
      unfold hexI hexR
      rw [if_neg (by omega),if_pos (by omega)]
      show ((c.toNat - 87 : Nat) : Int) = m - 97 + 10
      omega)
     go_wp2_with fail
     go_ret
     exact ⟨congrArg (fun x => Ending.returned (Value.int .i64 x)) HX.out.symm,rfl⟩
    ·have HX : Hid (hexI c = -1) := hid (by
      have h := HM.out
      unfold hexI hexR
      rw [if_neg (by omega),if_neg (by omega)])
     go_wp2_with fail
     go_ret
     exact ⟨congrArg (fun x => Ending.returned (Value.int .i64 x)) HX.out.symm,rfl⟩
   ·have HX : Hid (hexI c = -1) := hid (by
     have h := HM.out
     unfold hexI hexR
     rw [if_neg (by omega),if_neg (by omega)])
    go_wp2_with fail
    go_ret
    exact ⟨congrArg (fun x => Ending.returned (Value.int .i64 x)) HX.out.symm,rfl⟩
 ·have HX : Hid (hexI c = -1) := hid (by
   have h := HM.out
   unfold hexI hexR
   rw [if_neg (by omega),if_neg (by omega)])
  go_wp2_with fail
  go_ret
  exact ⟨congrArg (fun x => Ending.returned (Value.int .i64 x)) HX.out.symm,rfl⟩
theorem hexI_some {c : UInt8} (h : 0 ≤ hexI c) : ∃ d : Nat,hexR c = some d ∧ hexI c = d ∧ d < 16 := by
 unfold hexI at h ⊢
 cases hx : hexR c with
 | none => rw [hx] at h; simp at h
 | some d =>
   refine ⟨d,rfl,rfl,?_⟩
   unfold hexR at hx
   split at hx
   ·injection hx; omega
   split at hx
   ·injection hx; omega
   ·cases hx
theorem hexI_none {c : UInt8} (h : ¬ 0 ≤ hexI c) : hexR c = none := by
 unfold hexI at h
 cases hx : hexR c with
 | none => rfl
 | some d => rw [hx] at h; simp at h
theorem run_idx (w : World) (l : List UInt8) (k : Nat) (j : Int) (hj : j = (k : Int)) (x : UInt8) (hx : l[k]? = some x) : (Go.Instr.index 9 (.string (qah l)) (.int .i64 j)).run Tryz.prog w = .ok (.int .u8 (x.toNat : Int)) w := by
 obtain ⟨hk,hx⟩ := List.getElem?_eq_some_iff.1 hx
 subst hj
 rw [run_index_string _ _ _ _ _ Tryz.underlying9,dif_pos ⟨by omega,by rw [qax]; omega⟩,← hx]
 rfl
theorem unqR_hex {l : List UInt8} {k x y : Nat} {a b : UInt8} (h0 : l[k]? = some 92) (h1 : l[k + 1]? = some a) (h2 : l[k + 2]? = some b) (hx : hexR a = some x) (hy : hexR b = some y) : unqG hexR (l.drop k) = UInt8.ofNat (16 * x + y) :: unqG hexR (l.drop (k + 3)) := by
 have e : l.drop k = 92 :: a :: b :: l.drop (k + 3) := by
  obtain ⟨q0,r0⟩ := List.getElem?_eq_some_iff.1 h0
  obtain ⟨q1,r1⟩ := List.getElem?_eq_some_iff.1 h1
  obtain ⟨q2,r2⟩ := List.getElem?_eq_some_iff.1 h2
  rw [List.drop_eq_getElem_cons q0,r0,List.drop_eq_getElem_cons q1,r1,List.drop_eq_getElem_cons q2,r2]
 rw [e,unqG_hex hexR a b _ hx hy]
theorem unqR_one {l : List UInt8} {k : Nat} {c : UInt8} (h0 : l[k]? = some c) (h : c ≠ 92 ∨ l.length ≤ k + 2 ∨ (∃ a,l[k + 1]? = some a ∧ hexR a = none) ∨ ∃ b,l[k + 2]? = some b ∧ hexR b = none) : unqG hexR (l.drop k) = c :: unqG hexR (l.drop (k + 1)) := by
 obtain ⟨q0,r0⟩ := List.getElem?_eq_some_iff.1 h0
 rw [List.drop_eq_getElem_cons q0,r0]
 by_cases hc : c = 92
 ·match hr : l.drop (k + 1) with
  | [] => simp [unqG]
  | [a] => simp [unqG]
  | a :: b :: r =>
    have ga : l[k + 1]? = some a := by have := congrArg (fun z => z[0]?) hr; simpa using this
    have gb : l[k + 2]? = some b := by have := congrArg (fun z => z[1]?) hr; simpa using this
    have hlen := (List.getElem?_eq_some_iff.1 gb).1
    rw [unqG,if_pos hc]
    rcases h with h | h | ⟨a',h,h'⟩ | ⟨b',h,h'⟩
    ·exact absurd hc h
    ·omega
    ·rw [ga] at h
     injection h with h
     rw [h,h']
    ·rw [gb] at h
     injection h with h
     rw [h,h']
     cases hexR a <;> rfl
 ·exact unqG_plain hexR c _ hc
theorem runq_any (l : List UInt8) (w : World) (hs : l.length ≤ 140737488351232) : Calls Tryz.prog 99 #[.string (qah l)] w (StrTo w (unqG hexR l)) := by
 have HS := hid hs
 have hz := qax l
 clear hs
 go_enter Tryz.func99,Tryz.ntmps99
 go_wp2_with fail
 obtain ⟨R1,hR1⟩ : ∃ RR_ : (Nat → Value) → World → Prop,RR_ = (fun us wx => ∃ (k : Nat) (done : List UInt8) (v : Value),us 4 = .int .i64 k ∧ us 3 = v ∧ Put 5 w w.heap.size (.slice none 0 0) done v wx ∧ done ++ unqG hexR (l.drop k) = unqG hexR l ∧ done.length ≤ k ∧ k ≤ l.length) := ⟨_,rfl⟩
 obtain ⟨mu1,hmu1⟩ : ∃ mu : (Nat → Value) → World → Nat,mu = (fun us _ => l.length - (intOf (us 4)).toNat) := ⟨_,rfl⟩
 have HR1 := hid hR1; have Hmu1 := hid hmu1; clear hR1 hmu1
 refine qal [ff,ff,ff,true,true,true,true,true,true,true,true,true,true,true,true,true,true,true,true,true,true,true,true,true,true,true,true,true,true,true,true,true,true,true,true,true,true,true,true,true,true,true,true,true,true,true,true,true,true,true,true,true,true,true,true,true] R1 _ mu1 HR1.out ?_ ?_
 ·exact ⟨0,[],_,rfl,rfl,Put.refl ⟨rfl,.inl ⟨rfl,rfl⟩⟩,rfl,Nat.le_refl _,Nat.zero_le _⟩
 intro us1 wx hrel
 obtain ⟨k,done,v,h4,h3,hP,hd,hl,hk⟩ := hrel
 simp only [qao,Nat.reduceAdd,h4,h3]
 have Hh4 := hid h4; clear h4
 have Hh3 := hid h3; clear h3
 have HP := hid hP; have HD := hid hd; have HL := hid hl
 clear hP hd hl
 by_cases hlt : k < l.length
 ·have HK := hid hk
  obtain ⟨c,hc⟩ : ∃ c,l[k]? = some c := ⟨_,List.getElem?_eq_getElem hlt⟩
  have hix := fun w => run_idx w l k k rfl c hc
  have HC := hid hc
  obtain ⟨m,hm⟩ : ∃ m,m = c.toNat := ⟨_,rfl⟩
  have HM := hid hm
  have hm8 : m < 256 := by rw [hm]; exact c.toNat_lt
  rw [← hm] at hix
  have HWK := hid (wrap_k k (Nat.le_trans hk HS.out))
  have HW3 := hid (wrap_k3 k (Nat.le_trans hk HS.out))
  have HWI := hid (wrap_ki k (Nat.le_trans hk HS.out))
  have hk0 : (0 : Int) ≤ k := by omega
  have hkl : (k : Int) < l.length := by omega
  clear hm hc hk
  by_cases h92 : m = 92
  ·subst h92
   have hc92 : c = 92 := UInt8.toNat_inj.1 (by rw [← HM.out]; rfl)
   by_cases h2 : k + 2 < l.length
   ·have h2' : (k : Int) + 2 < l.length := by omega
    obtain ⟨a,ha⟩ : ∃ a,l[k + 1]? = some a := ⟨_,List.getElem?_eq_getElem (by omega)⟩
    obtain ⟨b,hb⟩ : ∃ b,l[k + 2]? = some b := ⟨_,List.getElem?_eq_getElem h2⟩
    have hia := fun w => run_idx w l (k + 1) ((k : Int) + 1) (by omega) a ha
    have hib := fun w => run_idx w l (k + 2) ((k : Int) + 2) (by omega) b hb
    have hk1 : (0 : Int) ≤ (k : Int) + 1 := by omega
    have hk2 : (0 : Int) ≤ (k : Int) + 2 := by omega
    have hkl1 : (k : Int) + 1 < l.length := by omega
    have HA := hid ha; have HB := hid hb
    clear ha hb
    obtain ⟨hv1,hv2,hv6,hv7⟩ := HWK.out; obtain ⟨hw1,hw2⟩ := HWI.out
    go_wp2_with fail
    refine (rhex_any a _ rfl _).mono ?_
    rintro e w3 ⟨rfl,rfl⟩
    go_wp2_with fail
    refine (rhex_any b _ rfl _).mono ?_
    rintro e w4 ⟨rfl,rfl⟩
    clear hia hib hv1 hv2 hv6 hv7 hw1 hw2
    by_cases hx : 0 ≤ hexI a
    ·obtain ⟨x,hxa,hxi,hx16⟩ := hexI_some hx
     rw [hxi] at hx ⊢
     by_cases hy : 0 ≤ hexI b
     ·obtain ⟨y,hyb,hyi,hy16⟩ := hexI_some hy
      rw [hyi] at hy ⊢
      have hu := unqR_hex (k := k) (by rw [HC.out,hc92]) HA.out HB.out hxa hyb
      obtain ⟨hv4,hv5⟩ := wrap_xy x y hx16 hy16
      obtain ⟨hxy0,hxy1,hxy2⟩ := xy_in x y hx16 hy16
      have HXY := hid (show x < 16 ∧ y < 16 from ⟨hx16,hy16⟩)
      clear hxi hyi hxa hyb hc92 hx16 hy16
      have HU := hid hu
      clear hu
      obtain ⟨hv1,hv2,hv6,hv7⟩ := HWK.out; obtain ⟨hw1,hw2⟩ := HWI.out
      go_wp2_with (at_builtin; refine qaz rfl _ _ 55 rfl 5 1 1 Tryz.underlying55 infoB rfl (qcd HP.out.own (qag.alloc _ _)) (news := [.int .u8 (16 * (x : Int) + (y : Int))]) rfl (qcp (by simp)) rfl ?c0 ?c1 ?c2 ?c3 ?_)
      case c0 => first | rfl | (intro u hu; simp only [List.mem_cons,List.not_mem_nil,or_false] at hu; subst hu; rfl)
      case c1 => clear hv1 hv2 hv6 hv7 hw1 hw2 hv4 hv5; have := HL.out; have := HS.out; omega
      case c2 => clear hv1 hv2 hv6 hv7 hw1 hw2 hv4 hv5; have := HL.out; have := HS.out; unfold maxLen; omega
      case c3 => clear hv1 hv2 hv6 hv7 hw1 hw2 hv4 hv5; have := HP.out.keep.size; first | (simp only [World.size_alloc]; omega) | omega
      intro v7 w7 hA7
      clear hv1 hv2 hv6 hv7 hw1 hw2 hv4 hv5
      have hp7 : Put 5 _ w.heap.size v (done ++ [UInt8.ofNat (16 * x + y)]) v7 w7 := Put.of_appended hA7 (by simp) (by have := HXY.out; simp [qbd]; omega)
      have HP7 := hid (HP.out.trans (Put.ahead (qag.alloc _ _) hp7))
      clear hA7 hp7
      obtain ⟨hv1,hv2,hv6,hv7⟩ := HWK.out; obtain ⟨hw1,hw2⟩ := HWI.out
      go_wp2_with fail
      clear hv1 hv2 hv6 hv7 hw1 hw2
      refine Round.mk' HR1.out Hmu1.out rfl ?_ ?_
      ·refine ⟨k + 3,done ++ [UInt8.ofNat (16 * x + y)],v7,congrArg (Value.int .i64) HW3.out,rfl,HP7.out,?_,?_,?_⟩
       ·rw [List.append_assoc]; exact (congrArg (done ++ ·) HU.out).symm.trans HD.out
       ·have := HL.out; simp only [List.length_append,List.length_cons,List.length_nil] at this ⊢; omega
       ·omega
      ·exact len_less (congrArg (Value.int .i64) HW3.out) Hh4.out (Nat.lt_add_of_pos_right (by decide)) hlt
     ·have hu := unqR_one (k := k) HC.out (.inr (.inr (.inr ⟨b,HB.out,hexI_none hy⟩)))
      have hy' : hexI b < 0 := by omega
      clear hxi hxa hc92 hy
      have HU := hid hu
      clear hu
      obtain ⟨hv1,hv2,hv6,hv7⟩ := HWK.out; obtain ⟨hw1,hw2⟩ := HWI.out
      go_wp2_with (at_builtin; refine qaz rfl _ _ 55 rfl 5 1 1 Tryz.underlying55 infoB rfl (qcd HP.out.own (qag.alloc _ _)) (news := [.int .u8 (92)]) rfl (qcp (by simp)) rfl ?c0 ?c1 ?c2 ?c3 ?_)
      case c0 => first | rfl | (intro u hu; simp only [List.mem_cons,List.not_mem_nil,or_false] at hu; subst hu; rfl)
      case c1 => clear hv1 hv2 hv6 hv7 hw1 hw2; have := HL.out; have := HS.out; omega
      case c2 => clear hv1 hv2 hv6 hv7 hw1 hw2; have := HL.out; have := HS.out; unfold maxLen; omega
      case c3 => clear hv1 hv2 hv6 hv7 hw1 hw2; have := HP.out.keep.size; first | (simp only [World.size_alloc]; omega) | omega
      intro v7 w7 hA7
      clear hv1 hv2 hv6 hv7 hw1 hw2
      have hp7 : Put 5 _ w.heap.size v (done ++ [c]) v7 w7 := Put.of_appended hA7 (by simp) (by have h := HM.out; simp [qbd,← h])
      have HP7 := hid (HP.out.trans (Put.ahead (qag.alloc _ _) hp7))
      clear hA7 hp7
      obtain ⟨hv1,hv2,hv6,hv7⟩ := HWK.out; obtain ⟨hw1,hw2⟩ := HWI.out
      go_wp2_with fail
      clear hv1 hv2 hv6 hv7 hw1 hw2
      refine Round.mk' HR1.out Hmu1.out rfl ?_ ?_
      ·refine ⟨k + 1,done ++ [c],v7,by go_num,rfl,HP7.out,?_,?_,?_⟩
       ·rw [List.append_assoc]; exact (congrArg (done ++ ·) HU.out).symm.trans HD.out
       ·have := HL.out; simp only [List.length_append,List.length_cons,List.length_nil] at this ⊢; omega
       ·omega
      ·exact len_less (j := k + 1) (by go_num) Hh4.out (Nat.lt_succ_self k) hlt
    ·have hu := unqR_one (k := k) HC.out (.inr (.inr (.inl ⟨a,HA.out,hexI_none hx⟩)))
     have hx' : hexI a < 0 := by omega
     clear hc92 hx
     have HU := hid hu
     clear hu
     obtain ⟨hv1,hv2,hv6,hv7⟩ := HWK.out; obtain ⟨hw1,hw2⟩ := HWI.out
     go_wp2_with (at_builtin; refine qaz rfl _ _ 55 rfl 5 1 1 Tryz.underlying55 infoB rfl (qcd HP.out.own (qag.alloc _ _)) (news := [.int .u8 (92)]) rfl (qcp (by simp)) rfl ?c0 ?c1 ?c2 ?c3 ?_)
     case c0 => first | rfl | (intro u hu; simp only [List.mem_cons,List.not_mem_nil,or_false] at hu; subst hu; rfl)
     case c1 => clear hv1 hv2 hv6 hv7 hw1 hw2; have := HL.out; have := HS.out; omega
     case c2 => clear hv1 hv2 hv6 hv7 hw1 hw2; have := HL.out; have := HS.out; unfold maxLen; omega
     case c3 => clear hv1 hv2 hv6 hv7 hw1 hw2; have := HP.out.keep.size; first | (simp only [World.size_alloc]; omega) | omega
     intro v7 w7 hA7
     clear hv1 hv2 hv6 hv7 hw1 hw2
     have hp7 : Put 5 _ w.heap.size v (done ++ [c]) v7 w7 := Put.of_appended hA7 (by simp) (by have h := HM.out; simp [qbd,← h])
     have HP7 := hid (HP.out.trans (Put.ahead (qag.alloc _ _) hp7))
     clear hA7 hp7
     obtain ⟨hv1,hv2,hv6,hv7⟩ := HWK.out; obtain ⟨hw1,hw2⟩ := HWI.out
     go_wp2_with fail
     clear hv1 hv2 hv6 hv7 hw1 hw2
     refine Round.mk' HR1.out Hmu1.out rfl ?_ ?_
     ·refine ⟨k + 1,done ++ [c],v7,by go_num,rfl,HP7.out,?_,?_,?_⟩
      ·rw [List.append_assoc]; exact (congrArg (done ++ ·) HU.out).symm.trans HD.out
      ·have := HL.out; simp only [List.length_append,List.length_cons,List.length_nil] at this ⊢; omega
      ·omega
     ·exact len_less (j := k + 1) (by go_num) Hh4.out (Nat.lt_succ_self k) hlt
   ·have hu := unqR_one (k := k) HC.out (.inr (.inl (by omega)))
    have h2' : ¬ (k : Int) + 2 < l.length := by omega
    clear hc92
    have HU := hid hu
    clear hu
    obtain ⟨hv1,hv2,hv6,hv7⟩ := HWK.out; obtain ⟨hw1,hw2⟩ := HWI.out
    go_wp2_with (at_builtin; refine qaz rfl _ _ 55 rfl 5 1 1 Tryz.underlying55 infoB rfl (qcd HP.out.own (qag.alloc _ _)) (news := [.int .u8 (92)]) rfl (qcp (by simp)) rfl ?c0 ?c1 ?c2 ?c3 ?_)
    case c0 => first | rfl | (intro u hu; simp only [List.mem_cons,List.not_mem_nil,or_false] at hu; subst hu; rfl)
    case c1 => clear hv1 hv2 hv6 hv7 hw1 hw2; have := HL.out; have := HS.out; omega
    case c2 => clear hv1 hv2 hv6 hv7 hw1 hw2; have := HL.out; have := HS.out; unfold maxLen; omega
    case c3 => clear hv1 hv2 hv6 hv7 hw1 hw2; have := HP.out.keep.size; first | (simp only [World.size_alloc]; omega) | omega
    intro v7 w7 hA7
    clear hv1 hv2 hv6 hv7 hw1 hw2
    have hp7 : Put 5 _ w.heap.size v (done ++ [c]) v7 w7 := Put.of_appended hA7 (by simp) (by have h := HM.out; simp [qbd,← h])
    have HP7 := hid (HP.out.trans (Put.ahead (qag.alloc _ _) hp7))
    clear hA7 hp7
    obtain ⟨hv1,hv2,hv6,hv7⟩ := HWK.out; obtain ⟨hw1,hw2⟩ := HWI.out
    go_wp2_with fail
    clear hv1 hv2 hv6 hv7 hw1 hw2
    refine Round.mk' HR1.out Hmu1.out rfl ?_ ?_
    ·refine ⟨k + 1,done ++ [c],v7,by go_num,rfl,HP7.out,?_,?_,?_⟩
     ·rw [List.append_assoc]; exact (congrArg (done ++ ·) HU.out).symm.trans HD.out
     ·have := HL.out; simp only [List.length_append,List.length_cons,List.length_nil] at this ⊢; omega
     ·omega
    ·exact len_less (j := k + 1) (by go_num) Hh4.out (Nat.lt_succ_self k) hlt
  ·have hu := unqR_one (k := k) HC.out (.inl (by rintro rfl; exact h92 (by rw [HM.out]; rfl)))
   have h92' : ¬ (m : Int) = 92 := by omega
   clear h92
   have HU := hid hu
   clear hu
   obtain ⟨hv1,hv2,hv6,hv7⟩ := HWK.out; obtain ⟨hw1,hw2⟩ := HWI.out
   go_wp2_with (at_builtin; refine qaz rfl _ _ 55 rfl 5 1 1 Tryz.underlying55 infoB rfl (qcd HP.out.own (qag.alloc _ _)) (news := [.int .u8 ((m : Int))]) rfl (qcp (by simp)) rfl ?c0 ?c1 ?c2 ?c3 ?_)
   case c0 => first | rfl | (intro u hu; simp only [List.mem_cons,List.not_mem_nil,or_false] at hu; subst hu; rfl)
   case c1 => clear hv1 hv2 hv6 hv7 hw1 hw2; have := HL.out; have := HS.out; omega
   case c2 => clear hv1 hv2 hv6 hv7 hw1 hw2; have := HL.out; have := HS.out; unfold maxLen; omega
   case c3 => clear hv1 hv2 hv6 hv7 hw1 hw2; have := HP.out.keep.size; first | (simp only [World.size_alloc]; omega) | omega
   intro v7 w7 hA7
   clear hv1 hv2 hv6 hv7 hw1 hw2
   have hp7 : Put 5 _ w.heap.size v (done ++ [c]) v7 w7 := Put.of_appended hA7 (by simp) (by simp [qbd,HM.out])
   have HP7 := hid (HP.out.trans (Put.ahead (qag.alloc _ _) hp7))
   clear hA7 hp7
   obtain ⟨hv1,hv2,hv6,hv7⟩ := HWK.out; obtain ⟨hw1,hw2⟩ := HWI.out
   go_wp2_with fail
   clear hv1 hv2 hv6 hv7 hw1 hw2
   refine Round.mk' HR1.out Hmu1.out rfl ?_ ?_
   ·refine ⟨k + 1,done ++ [c],v7,by go_num,rfl,HP7.out,?_,?_,?_⟩
    ·rw [List.append_assoc]; exact (congrArg (done ++ ·) HU.out).symm.trans HD.out
    ·have := HL.out; simp only [List.length_append,List.length_cons,List.length_nil] at this ⊢; omega
    ·omega
   ·exact len_less (j := k + 1) (by go_num) Hh4.out (Nat.lt_succ_self k) hlt
 ·have hk' : k = l.length := by omega
  have HE : Hid (unqG hexR l = done) := hid (by rw [← HD.out,hk',List.drop_length]; simp [unqG])
  have hn : ¬ (k : Int) < l.length := by omega
  have hstr := (owned_bytes HP.out.own).string (src := 55) (dst := 9) Tryz.underlying55 Tryz.underlying5 Tryz.underlying9
  obtain ⟨a7,c7,rfl⟩ := ownsRow_slice HP.out.own
  have HLW := hid (HP.out.later rfl)
  clear hk'
  go_wp2_with fail
  go_ret
  exact ⟨ret_str HE.out.symm,HLW.out⟩
theorem wholeF_snoc {l : List UInt8} {k : Nat} {c : UInt8} (h : l[k]? = some c) : qek 0 (l.take (k + 1)) = if 48 ≤ c.toNat ∧ c.toNat ≤ 57 then wrap64 (wrap64 (qek 0 (l.take k) * 10) + ((c.toNat : Int) - 48)) else qek 0 (l.take k) := by
 obtain ⟨q,r⟩ := List.getElem?_eq_some_iff.1 h
 rw [List.take_succ_eq_append_getElem q,r]
 unfold qek
 rw [List.foldl_append]
 rfl
theorem rwhole_any (l : List UInt8) (w : World) (hs : l.length ≤ 140737488351232) : Calls Tryz.prog 98 #[.string (qah l)] w fun e w' => e = .returned (.int .i64 (wholeR l)) ∧ w' = w := by
 have HS := hid hs
 have hz := qax l
 clear hs
 go_enter Tryz.func98,Tryz.ntmps98
 go_wp2_with fail
 obtain ⟨R1,hR1⟩ : ∃ RR_ : (Nat → Value) → World → Prop,RR_ = (fun us wx => ∃ (k : Nat) (n : Int),us 4 = .int .i64 k ∧ us 3 = .int .i64 n ∧ wx = w ∧ Hid (n = qek 0 (l.take k)) ∧ k ≤ l.length) := ⟨_,rfl⟩
 obtain ⟨mu1,hmu1⟩ : ∃ mu : (Nat → Value) → World → Nat,mu = (fun us _ => l.length - (intOf (us 4)).toNat) := ⟨_,rfl⟩
 have HR1 := hid hR1; have Hmu1 := hid hmu1; clear hR1 hmu1
 refine qal [ff,ff,ff,true,true,true,true,true,true,true,true,true,true,true,true,true,true,true,true,true,true,true,true,true,true,true,true,true,true] R1 _ mu1 HR1.out ?_ ?_
 ·exact ⟨0,0,rfl,rfl,rfl,hid rfl,Nat.zero_le _⟩
 intro us1 wx hrel
 obtain ⟨k,n,h4,h3,rfl,hn,hk⟩ := hrel
 simp only [qao,Nat.reduceAdd,h4,h3]
 have Hh4 := hid h4; clear h4
 have Hh3 := hid h3; clear h3
 by_cases hlt : k < l.length
 ·have HK := hid hk
  obtain ⟨c,hc⟩ : ∃ c,l[k]? = some c := ⟨_,List.getElem?_eq_getElem hlt⟩
  have hix := fun w => run_idx w l k k rfl c hc
  have HU := hid (wholeF_snoc hc)
  obtain ⟨m,hm⟩ : ∃ m,m = c.toNat := ⟨_,rfl⟩
  have hm8 : m < 256 := by rw [hm]; exact c.toNat_lt
  rw [← hm] at hix HU
  have hk0 : (0 : Int) ≤ k := by omega
  have hkl : (k : Int) < l.length := by omega
  have HWN : Hid (wrap64 ((k : Int) + 1) = ((k + 1 : Nat) : Int)) := hid (by rw [(wrap_k k (Nat.le_trans hk HS.out)).1]; rfl)
  have HW1 := hid (wrap_k k (Nat.le_trans hk HS.out)).1
  clear hm hc hk
  by_cases d0 : 48 ≤ m
  ·have d0' : (48 : Int) ≤ m := by omega
   by_cases d1 : m ≤ 57
   ·have d1' : (m : Int) ≤ 57 := by omega
    have HN : Hid (wrap64 (wrap64 (n * 10) + ((m : Int) - 48)) = qek 0 (l.take (k + 1))) := hid (by rw [HU.out,if_pos ⟨d0,d1⟩,hn.out])
    have hw := HW1.out
    go_wp2_with fail
    clear hw
    refine Round.mk' HR1.out Hmu1.out rfl ?_ ?_
    ·exact ⟨k + 1,_,congrArg (Value.int .i64) HWN.out,rfl,rfl,HN,by omega⟩
    ·exact len_less (j := k + 1) (congrArg (Value.int .i64) HWN.out) Hh4.out (Nat.lt_succ_self k) hlt
   ·have d1' : ¬ (m : Int) ≤ 57 := by omega
    have HN : Hid (n = qek 0 (l.take (k + 1))) := hid (by rw [HU.out,if_neg (fun h => d1 h.2),hn.out])
    have hw := HW1.out
    go_wp2_with fail
    clear hw
    refine Round.mk' HR1.out Hmu1.out rfl ?_ ?_
    ·exact ⟨k + 1,_,by go_num,rfl,rfl,HN,by omega⟩
    ·exact len_less (j := k + 1) (by go_num) Hh4.out (Nat.lt_succ_self k) hlt
  ·have d0' : ¬ (48 : Int) ≤ m := by omega
   have HN : Hid (n = qek 0 (l.take (k + 1))) := hid (by rw [HU.out,if_neg (fun h => d0 h.1),hn.out])
   have hw := HW1.out
   go_wp2_with fail
   clear hw
   refine Round.mk' HR1.out Hmu1.out rfl ?_ ?_
   ·exact ⟨k + 1,_,by go_num,rfl,rfl,HN,by omega⟩
   ·exact len_less (j := k + 1) (by go_num) Hh4.out (Nat.lt_succ_self k) hlt
 ·have hk' : k = l.length := by omega
  have HN : Hid (n = qek 0 l) := hid (by rw [hn.out,hk',List.take_length])
  have hnl : ¬ (k : Int) < l.length := by omega
  clear hn hk
  cases l with
  | nil =>
    have HR : Hid (wholeR [] = n) := hid (by rw [HN.out]; rfl)
    clear hk'
    go_wp2_with fail
    go_ret
    exact ⟨congrArg (fun x => Ending.returned (Value.int .i64 x)) HR.out.symm,rfl⟩
  | cons c r =>
    have hix := fun w => run_idx w (c :: r) 0 0 rfl c rfl
    obtain ⟨m,hm⟩ : ∃ m,m = c.toNat := ⟨_,rfl⟩
    have HM := hid hm
    rw [← hm] at hix
    have hl0 : (0 : Int) < ((c :: r).length : Int) := by simp only [List.length_cons]; omega
    clear hm hk'
    by_cases h45 : m = 45
    ·have HR : Hid (wholeR (c :: r) = wrap64 (-n)) := hid (by
      have hc : c = 45 := UInt8.toNat_inj.1 (by rw [← HM.out,h45]; rfl)
      unfold wholeR
      rw [if_pos (by rw [hc]; rfl),HN.out])
     subst h45
     go_wp2_with fail
     go_ret
     exact ⟨congrArg (fun x => Ending.returned (Value.int .i64 x)) HR.out.symm,rfl⟩
    ·have HR : Hid (wholeR (c :: r) = n) := hid (by
      unfold wholeR
      rw [if_neg (fun h => h45 (by rw [HM.out]; simp only [List.head?_cons,Option.some.injEq] at h; rw [h]; rfl)),HN.out])
     have h45' : ¬ (m : Int) = 45 := by omega
     go_wp2_with fail
     go_ret
     exact ⟨congrArg (fun x => Ending.returned (Value.int .i64 x)) HR.out.symm,rfl⟩
def RefVRead (w : World) (l : List UInt8) (e : Ending) (w' : World) : Prop := qag w w' ∧ e = .returned (.tuple #[((readR l).getD qaa).v,.bool (readR l).isSome])
theorem rval_ok {w w' : World} {l : List UInt8} {x : Val} (h : readR l = some x) (hL : qag w w') : RefVRead w l (.returned (.tuple #[x.v,.bool true])) w' := ⟨hL,by rw [h]; rfl⟩
theorem rval_no {w w' : World} {l : List UInt8} (h : readR l = none) (hL : qag w w') : RefVRead w l (.returned (.tuple #[qaa.v,.bool false])) w' := ⟨hL,by rw [h]; rfl⟩
def SObj (w : World) (S : Nat) (ts : List Val) : Prop := w.heap[S]? = some (.cells (qco ts).toArray 38 (0,0))
theorem SObj.at {w : World} {S : Nat} {ts : List Val} (h : SObj w S ts) (i : Nat) (hi : i < ts.length) : w.cell? ⟨S,i * 3,none⟩ = some (.int .i64 ts[i].k) ∧ w.cell? ⟨S,i * 3 + 1,none⟩ = some (.int .i64 ts[i].n) ∧ w.cell? ⟨S,i * 3 + 2,none⟩ = some (.string ts[i].t) := by
 obtain ⟨h1,h2,h3⟩ := valCells_get ts i hi
 exact ⟨qac h (by rw [List.getElem?_toArray]; exact h1),qac h (by rw [List.getElem?_toArray]; exact h2),qac h (by rw [List.getElem?_toArray]; exact h3)⟩
def isShown (s : List UInt8) (x : Val) : Bool := decide (qbs x = s ∧ s ≠ [])
theorem find_step {l : List UInt8} {i : Nat} {x : Val} (hx : (qeq l)[i]? = some x) : ((qeq l).drop i).find? (isShown l) = if isShown l x = true then some x else ((qeq l).drop (i + 1)).find? (isShown l) := by
 obtain ⟨q,r⟩ := List.getElem?_eq_some_iff.1 hx
 rw [List.drop_eq_getElem_cons q,r,List.find?_cons]
 cases isShown l x <;> rfl
theorem emp_str (l : List UInt8) : (qah l).toList.isEmpty = l.isEmpty := by
 cases l with
 | nil => decide +kernel
 | cons c r =>
   rw [← decide_eq_emptyBytes]
   exact decide_eq_false (fun h => by have := congrArg ByteArray.size h; rw [qax] at this; simp at this)
def tryL (n : Int) (t : ByteArray) : List Val := [qaa,⟨2,0,ByteArray.empty⟩,⟨2,1,ByteArray.empty⟩,⟨1,n,ByteArray.empty⟩,⟨3,0,t⟩]
theorem SObj.num {w : World} {S : Nat} {n : Int} {t : ByteArray} (h : SObj w S (tryL n t)) (k : Int) : SObj (w.setCell ⟨S,10,none⟩ (.int .i64 k)) S (tryL k t) := qak (i := 10) h (.int .i64 k)
theorem SObj.txt {w : World} {S : Nat} {n : Int} {t : ByteArray} (h : SObj w S (tryL n t)) (u : ByteArray) : SObj (w.setCell ⟨S,14,none⟩ (.string u)) S (tryL n u) := qak (i := 14) h (.string u)
theorem SObj.later {w w' : World} {S : Nat} {ts : List Val} (h : SObj w S ts) (k : qag w w') : SObj w' S ts := k.obj h
theorem qcm.other {w : World} {R S i : Nat} {y : Val} (h : qcm w R y) (hne : S ≠ R) (u : Value) : qcm (w.setCell ⟨S,i,none⟩ u) R y := ((Keeps.refl (fun b => b ≠ S) w).setCell (p := ⟨S,i,none⟩) (.inl fun h => h rfl) u).obj (fun e => hne e.symm) h
theorem rvread_any (l : List UInt8) (w : World) (hs : l.length ≤ 140737488351232) : Calls Tryz.prog 77 #[.string (qah l)] w (RefVRead w l) := by
 have HS := hid hs
 clear hs
 go_enter Tryz.func77,Tryz.ntmps77
 go_upto_region 2 with (fail)
 obtain ⟨w0,hw0⟩ : ∃ w0,w0 = (w.alloc (.cells #[.int .i64 0,.int .i64 0,.string ⟨#[]⟩] 38 (0,0))).alloc (.cells #[.int .i64 0,.int .i64 0,.string ⟨#[]⟩,.int .i64 2,.int .i64 0,.string ⟨#[]⟩,.int .i64 2,.int .i64 1,.string ⟨#[]⟩,.int .i64 1,.int .i64 0,.string ⟨#[]⟩,.int .i64 3,.int .i64 0,.string ⟨#[]⟩] 38 (0,0)) := ⟨_,rfl⟩
 obtain ⟨R,hR⟩ : ∃ R,R = w.heap.size := ⟨_,rfl⟩
 obtain ⟨S,hV⟩ : ∃ S,S = w.heap.size + 1 := ⟨_,rfl⟩
 have HL0 : Hid (qag w w0) := hid (by rw [hw0]; exact (qag.alloc _ _).alloc' _)
 have HR0 : Hid (qcm w0 R qaa) := hid (by rw [hw0,hR]; exact (qag.alloc _ _).obj (qap w _))
 have HS0 : Hid (SObj w0 S (tryL 0 ByteArray.empty)) := hid (by
  have h := qap (w.alloc (.cells #[.int .i64 0,.int .i64 0,.string ⟨#[]⟩] 38 (0,0))) (.cells #[.int .i64 0,.int .i64 0,.string ⟨#[]⟩,.int .i64 2,.int .i64 0,.string ⟨#[]⟩,.int .i64 2,.int .i64 1,.string ⟨#[]⟩,.int .i64 1,.int .i64 0,.string ⟨#[]⟩,.int .i64 3,.int .i64 0,.string ⟨#[]⟩] 38 (0,0))
  rw [World.size_alloc,← hV,← hw0] at h
  exact h)
 have HRlt : Hid (w.heap.size ≤ S ∧ w.heap.size ≤ R ∧ S ≠ R) := hid ⟨by omega,by omega,by omega⟩
 rw [← hw0,← hV,← hR]
 clear hw0 hV hR
 go_wp2_with fail
 refine (rwhole_any l w0 HS.out).mono ?_
 rintro e w1 ⟨rfl,rfl⟩
 have q0 : w1.cell? ⟨S,10,none⟩ = some (.int .i64 0) := (HS0.out.at 3 (by decide)).2.1
 have f0 : w1.frozen? ⟨S,10,none⟩ = false := qaq HS0.out
 have hltS := qad q0
 go_upto_region 3 with (fail)
 obtain ⟨w2,hw2⟩ : ∃ w2,w2 = w1.setCell ⟨S,10,none⟩ (.int .i64 (wholeR l)) := ⟨_,rfl⟩
 have HL2 : Hid (qag w w2) := hid (by rw [hw2]; exact HL0.out.new (p := ⟨S,10,none⟩) HRlt.out.1 _)
 have HR2 : Hid (qcm w2 R qaa) := hid (by rw [hw2]; exact HR0.out.other HRlt.out.2.2 _)
 have HS2 : Hid (SObj w2 S (tryL (wholeR l) ByteArray.empty)) := hid (by rw [hw2]; exact HS0.out.num _)
 rw [← hw2]
 clear hw2 q0 f0 hltS HL0 HR0 HS0
 have hz := qax l
 go_upto_if 20 with (fail)
 obtain ⟨R9,hR9⟩ : ∃ RR_ : (Nat → Value) → World → Prop,RR_ = (fun us wy => qag w wy ∧ qcm wy R qaa ∧ SObj wy S (qeq l)) := ⟨_,rfl⟩
 have HR9 := hid hR9; clear hR9
 refine qau [ff,ff,ff,ff,ff,ff,ff,ff,ff,ff,ff,ff,ff,ff,ff,ff,ff,ff,ff,ff,true,true,true,true,true,true,true,true,true,true] R9 _ HR9.out ?_ ?_
 ·by_cases h1 : 1 < l.length
  ·have h1' : (1 : Int) < l.length := by omega
   have hw : wrap64 ((l.length : Int) - 1) = ((l.length - 1 : Nat) : Int) := by have := HS.out; unfold wrap64; omega
   have hr1 : 1 ≤ ((l.length - 1 : Nat) : Int) := by omega
   have hr2 : ((l.length - 1 : Nat) : Int) ≤ (l.length : Int) := by omega
   have hex : (qah l).extract 1 (l.length - 1) = qah (qcv l) := by rw [qdi]; unfold qcv; congr 2
   have HT : Hid (qeq l = tryL (wholeR l) (qah (unqG hexR (qcv l)))) := hid (by unfold qeq tryL; rw [if_pos h1])
   clear h1
   go_wp2_with fail
   refine (runq_any (qcv l) _ (by unfold qcv; rw [List.length_take]; have := HS.out; omega)).mono ?_
   rintro e w3 ⟨rfl,hL3⟩
   have HL3 := hid (qag.trans _ _ _ HL2.out hL3)
   have HR3 := hid (HR2.out.later hL3)
   have HS3 := hid (HS2.out.later hL3)
   have q0 : w3.cell? ⟨S,14,none⟩ = some (.string ByteArray.empty) := (HS3.out.at 4 (by show 4 < 5; omega)).2.2
   have f0 : w3.frozen? ⟨S,14,none⟩ = false := qaq HS3.out
   have hltS := qad q0
   clear hL3 hex hr1 hr2 hw
   go_wp2_with fail
   refine Meet.mk' HR9.out rfl ?_
   exact ⟨HL3.out.new (p := ⟨S,14,none⟩) HRlt.out.1 _,HR3.out.other HRlt.out.2.2 _,by rw [HT.out]; exact HS3.out.txt _⟩
  ·have HT : Hid (qeq l = tryL (wholeR l) ByteArray.empty) := hid (by unfold qeq tryL; rw [if_neg h1])
   have h1' : ¬ (1 : Int) < l.length := by omega
   clear h1
   go_wp2_with fail
   refine Meet.mk' HR9.out rfl ?_
   exact ⟨HL2.out,HR2.out,by rw [HT.out]; exact HS2.out⟩
 intro us2 wy hrel
 obtain ⟨hL,hR,hS⟩ := hrel
 simp only [qao,Nat.reduceAdd]
 have HLY := hid hL; have HRY := hid hR; have HSY := hid hS
 clear hL hR hS
 have hlen : (qeq l).length = 5 := rfl
 have HLEN := hid hlen
 clear hlen
 go_wp2_with fail
 obtain ⟨R1,hR1⟩ : ∃ RR_ : (Nat → Value) → World → Prop,RR_ = (fun us wx => ∃ i : Nat,us 5 = .int .i64 i ∧ us 3 = .bool false ∧ i ≤ 5 ∧ qag wy wx ∧ Hid (readR l = ((qeq l).drop i).find? (isShown l))) := ⟨_,rfl⟩
 obtain ⟨mu1,hmu1⟩ : ∃ mu : (Nat → Value) → World → Nat,mu = (fun us _ => 5 - (intOf (us 5)).toNat) := ⟨_,rfl⟩
 have HR1 := hid hR1; have Hmu1 := hid hmu1; clear hR1 hmu1
 refine qal [ff,ff,ff,true,ff,true,true,ff,ff,ff,ff,ff,ff,ff,ff,ff,ff,ff,ff,ff,ff,ff,ff,ff,ff,ff,ff,ff,ff,ff,true,true,true,true,true,true,true,true,true,true,true,true,true,true,true,true,true,true,true,true,true,true] R1 _ mu1 HR1.out ?_ ?_
 ·exact ⟨0,rfl,rfl,by omega,qag.refl _,hid rfl⟩
 intro us1 wx hrel
 obtain ⟨i,h5,h3,hi,hLx,hrd⟩ := hrel
 simp only [qao,Nat.reduceAdd,h5,h3]
 have Hh5 := hid h5; clear h5
 have Hh3 := hid h3; clear h3
 have HLX0 := hid hLx
 have HLX := hid (qag.trans _ _ _ HLY.out hLx)
 have HRX := hid (HRY.out.later hLx)
 have HSX := hid (HSY.out.later hLx)
 clear hLx
 by_cases hi5 : i < 5
 ·obtain ⟨x,hx⟩ : ∃ x,(qeq l)[i]? = some x := ⟨_,List.getElem?_eq_getElem (by rw [HLEN.out]; exact hi5)⟩
  have HX := hid hx
  obtain ⟨q,r⟩ := List.getElem?_eq_some_iff.1 hx
  have hxo : qdr x := tries_ok l x (r ▸ List.getElem_mem q)
  obtain ⟨c0,c1,c2⟩ := HSX.out.at i q
  rw [r] at c0 c1 c2
  have HFS := hid (find_step hx)
  have hw1 : wrap64 ((i : Int) + 1) = ((i + 1 : Nat) : Int) := by unfold wrap64; omega
  have HW1 := hid hw1
  clear hx q r hw1
  have hlt := qad c0
  go_wp2_with fail
  refine (rshow_any x _ (lit_ok hxo)).mono ?_
  rintro e w4 ⟨rfl,hL4⟩
  have HL40 := hid hL4
  have HL4 := hid (qag.trans _ _ _ HLX.out hL4)
  have HR4 := hid (HRX.out.later hL4)
  replace c0 := hL4.cell c0
  replace c1 := hL4.cell c1
  replace c2 := hL4.cell c2
  have p0 := HR4.out.c0; have p1 := HR4.out.c1; have p2 := HR4.out.c2
  have f0 := HR4.out.free 0; have f1 := HR4.out.free 1; have f2 := HR4.out.free 2
  have hltR := qad p0
  have hltS := qad c0
  clear hL4 hlt hxo
  by_cases hsh : qbs x = l
  ·have hst := str_eq hsh
   by_cases hne : l = []
   ·have HNS : Hid (isShown l x = false) := hid (by unfold isShown; exact decide_eq_false (fun h => h.2 hne))
    have hem : (qah l).toList.isEmpty = true := by rw [emp_str,hne]; rfl
    clear hsh hne
    go_wp2_with fail
    refine Round.mk' HR1.out Hmu1.out rfl ?_ ?_
    ·exact ⟨i + 1,by go_num,rfl,hi5,qag.trans _ _ _ HLX0.out HL40.out,hid (by rw [hrd.out,HFS.out,if_neg (by rw [HNS.out]; decide)])⟩
    ·exact len_less (j := i + 1) (by go_num) Hh5.out (Nat.lt_succ_self i) hi5
   ·have HRD : Hid (readR l = some x) := hid (by rw [hrd.out,HFS.out,if_pos (by unfold isShown; exact decide_eq_true ⟨hsh,hne⟩)])
    have hem : (qah l).toList.isEmpty = false := by
     rw [emp_str]
     cases l with
     | nil => exact absurd rfl hne
     | cons c r => rfl
    clear hsh hne hrd
    go_wp2_with fail
    obtain ⟨wf,hwf⟩ : ∃ wf,wf = setV w4 R x := ⟨_,rfl⟩
    have HW := HR4.out.set x
    have HLF := qae HL4.out HRlt.out.2.1 x
    rw [← hwf] at HW HLF
    have e0 := HW.c0; have e1 := HW.c1; have e2 := HW.c2
    change bodyPost _ _ _ _ _ (setV w4 R x)
    rw [← hwf]
    clear hwf p0 p1 p2 f0 f1 f2 c0 c1 c2
    exact bodyPost_ret (v := .tuple #[Val.v x,.bool true]) (by simp [results,Tryz.results77,go_sem,e0,e1,e2] <;> rfl) rfl (rval_ok HRD.out HLF)
  ·have hst := str_ne hsh
   have HNS : Hid (isShown l x = false) := hid (by unfold isShown; exact decide_eq_false (fun h => hsh h.1))
   clear hsh
   go_wp2_with fail
   refine Round.mk' HR1.out Hmu1.out rfl ?_ ?_
   ·exact ⟨i + 1,by go_num,rfl,hi5,qag.trans _ _ _ HLX0.out HL40.out,hid (by rw [hrd.out,HFS.out,if_neg (by rw [HNS.out]; decide)])⟩
   ·exact len_less (j := i + 1) (by go_num) Hh5.out (Nat.lt_succ_self i) hi5
 ·have hi' : i = 5 := by omega
  have HRD : Hid (readR l = none) := hid (by rw [hrd.out,hi']; rfl)
  have p0 := HRX.out.c0; have p1 := HRX.out.c1; have p2 := HRX.out.c2
  have f0 := HRX.out.free 0; have f1 := HRX.out.free 1; have f2 := HRX.out.free 2
  have hltR := qad p0
  subst hi'
  clear hrd
  go_wp2_with fail
  obtain ⟨wf,hwf⟩ : ∃ wf,wf = setV wx R qaa := ⟨_,rfl⟩
  have HW := HRX.out.set qaa
  have HLF := qae HLX.out HRlt.out.2.1 qaa
  rw [← hwf] at HW HLF
  have e0 := HW.c0; have e1 := HW.c1; have e2 := HW.c2
  change bodyPost _ _ _ _ _ (setV wx R qaa)
  rw [← hwf]
  clear hwf p0 p1 p2 f0 f1 f2
  exact bodyPost_ret (v := .tuple #[Val.v qaa,.bool false]) (by simp [results,Tryz.results77,go_sem,e0,e1,e2] <;> rfl) rfl (rval_no HRD.out HLF)
end Go.Proofs.YtgajofkeidjbgaaGreatDoor
