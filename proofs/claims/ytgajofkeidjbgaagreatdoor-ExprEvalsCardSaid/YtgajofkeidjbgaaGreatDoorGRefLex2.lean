/-
  PROVED HERE: a part of the proof of ExprEvals: RefLex2.
-/
import Derived.Test.YtgajofkeidjbgaaGreatDoorShort
import Derived.Test.YtgajofkeidjbgaaGreatDoorGParText
import Derived.Test.YtgajofkeidjbgaaGreatDoorGParOk
namespace Go.Proofs.YtgajofkeidjbgaaGreatDoor
set_option linter.unusedSimpArgs false
set_option linter.unusedVariables false
set_option maxHeartbeats 4000000
set_option maxRecDepth 100000
open Go.RowKit
def qdn (w : World) (s : List UInt8) (acc : List Tok) (v : Value) (i : Nat) (wx : World) : Prop :=
 qag w wx ∧ wx.ownsRow w.heap.size 71 3 v acc.length (qbb (acc.map Tok.d)) ∧ acc.length ≤ i ∧ i ≤ s.length
theorem qdn.kept {w wx wy : World} {s : List UInt8} {acc : List Tok} {v : Value} {i : Nat} (h : qdn w s acc v i wx) (k : qag wx wy) : qdn w s acc v i wy :=
 ⟨qag.trans _ _ _ h.1 k,own_keeps h.2.1 (k.keeps fun _ => True) fun _ _ => trivial,h.2.2⟩
theorem qdn.set {w wx : World} {s : List UInt8} {acc : List Tok} {v : Value} {i K o : Nat} {u : Value} (h : qdn w s acc v i wx) (h1 : w.heap.size ≤ K) (h2 : v.ownBlock ≠ some K) : qdn w s acc v i (wx.setCell ⟨K,o,none⟩ u) :=
 ⟨h.1.new (p := ⟨K,o,none⟩) h1 _,own_set (p := ⟨K,o,none⟩) h.2.1 h2 u,h.2.2⟩
def SignsDone (s : List UInt8) (j q n : Nat) : Prop := (n = 0 ∧ ∀ i (h : i < qcj.length),i < q → (qcj[i]).isPrefixOf (s.drop j) = false) ∨ (n ≠ 0 ∧ qeh (s.drop j) = n)
theorem prefix_of {g r : List UInt8} (h : decide (r.take g.length = g) = true) : g.isPrefixOf r = true := List.isPrefixOf_iff_prefix.2 (List.prefix_iff_eq_take.2 (of_decide_eq_true h).symm)
theorem not_prefix {g r : List UInt8} (h : decide (r.take g.length = g) = false) : g.isPrefixOf r = false := by
 rw [Bool.eq_false_iff]
 intro hp
 exact of_decide_eq_false h (List.prefix_iff_eq_take.1 (List.isPrefixOf_iff_prefix.1 hp)).symm
theorem sign_first {r : List UInt8} {q : Nat} (hq : q < qcj.length) (hb : ∀ i (h : i < qcj.length),i < q → (qcj[i]).isPrefixOf r = false) (hp : (qcj[q]).isPrefixOf r = true) : qeh r = (qcj[q]).length := by
 have h : qcj.find? (fun g => g.isPrefixOf r) = some qcj[q] := List.find?_eq_some_iff_getElem.2 ⟨hp,q,hq,rfl,fun j hj => by rw [hb j (by omega) hj]; rfl⟩
 unfold qeh
 rw [h]
theorem sign_never {r : List UInt8} (hb : ∀ i (h : i < qcj.length),(qcj[i]).isPrefixOf r = false) : qeh r = 0 := by
 have h : qcj.find? (fun g => g.isPrefixOf r) = none := List.find?_eq_none.2 fun g hg => by
  obtain ⟨i,hi,rfl⟩ := List.getElem_of_mem hg
  rw [hb i hi]; simp
 unfold qeh
 rw [h]
theorem signs_len : ∀ g ∈ qcj,1 ≤ g.length ∧ g.length ≤ 2 := by decide
theorem tokAt_k {c : UInt8} {t : List UInt8} {k : UInt8} {m : Nat} (h : qds c t = some (k,m)) : k ≠ 0 := by
 unfold qds at h
 split at h
 ·simp only [Option.some.injEq,Prod.mk.injEq] at h
  rw [← h.1]
  split <;> decide
 ·split at h
  ·split at h
   ·simp only [Option.some.injEq,Prod.mk.injEq] at h
    rw [← h.1]; decide
   ·cases h
  ·split at h
   ·cases h
   ·simp only [Option.some.injEq,Prod.mk.injEq] at h
    rw [← h.1]; decide
theorem tokens_any (s : List UInt8) (w : World) (hs : s.length ≤ 1048576) : Calls Tryz.prog 21 #[.string (qah s)] w (RLexTo w s) := by
 have HS := hid hs
 clear hs
 have hss : (qah s).size = s.length := qax s
 go_enter Tryz.func21,Tryz.ntmps21
 obtain ⟨T,hT⟩ : ∃ T,T = lexX s.length 0 s := ⟨_,rfl⟩
 have HTT := hid hT
 clear hT
 go_upto_region 3 with (fail)
 obtain ⟨R1,hR1⟩ : ∃ RR_ : (Nat → Value) → World → Prop,RR_ = (fun us wx => ∃ acc v i,us 5 = .int .i64 ((i : Nat) : Int) ∧ us 4 = v ∧ LexAt s i acc T ∧ qdn w s acc v i wx) := ⟨_,rfl⟩
 obtain ⟨mu1,hmu1⟩ : ∃ mu : (Nat → Value) → World → Nat,mu = (fun us _ => s.length - (intOf (us 5)).toNat) := ⟨_,rfl⟩
 have HR1 := hid hR1; have Hmu1 := hid hmu1; clear hR1 hmu1
 refine qal [ff,ff,true,true,true,true,true,true,true,true,true,true,true,true,true,true,true,true,true,true,true,true,true,true,true,true,true,true,true,true,true,true,true,true,true,true,true,true,true,true,true,true,true,true,true,true,true,true,true,true,true,true,true,true,true,true,true,true,true,true,true,true,true,true,true,true,true,true,true,true,true,true,true,true,true,true,true,true,true,true,true,true,true,true,true,true,true,true,true,true,true,true,true,true,true,true,true,true,true,true,true,true,true,true,true,true,true,true,true,true,true,true,true,true,true,true,true,true,true,true,true,true,true,true,true,true,true,true,true,true,true,true,true,true,true,true,true,true,true,true,true,true,true,true,true,true,true,true,true,true,true,true] R1 _ mu1 HR1.out ?_ ?_
 ·refine ⟨[],.slice none 0 0,0,rfl,rfl,?_,qag.refl _,⟨rfl,.inl ⟨rfl,rfl⟩⟩,Nat.le_refl _,Nat.zero_le _⟩
  rw [HTT.out]; exact LexAt.first s
 intro us1 wz hrel
 obtain ⟨acc,v,j,h5,h4,hat,hinv⟩ := hrel
 simp only [qao,Nat.reduceAdd,h5,h4]
 have Hh5 := hid h5; clear h5
 have Hh4 := hid h4; clear h4
 have HATJ := hid hat
 have HI := hid hinv
 obtain ⟨va,vc,hv⟩ := own_sl hinv.2.1
 subst hv
 have HBX : Hid (w.heap.size ≤ wz.heap.size) := hid hinv.1.size
 have HACL : Hid (acc.length + 1 ≤ 1048578) := hid (by have := hinv.2.2; have := HS.out; omega)
 clear hat hinv
 by_cases hje : j = s.length
 ·have hje' : ¬ (j : Int) < s.length := by omega
  have HJE := hid hje
  clear hje
  go_wp2_with (at_builtin; refine qce rfl _ _ 63 rfl 71 3 32 Tryz.underlying63 rtokElem rfl (owns_at HI.out.2.1 (qag.alloc _ _)) (news := Tok.cells ⟨101,[],s.length⟩) rfl (qcp rfl) rfl (tok_ones _) ?d1 ?d2 ?d3 ?_)
  case d1 => have := HACL.out; omega
  case d2 => have := HACL.out; unfold maxLen; omega
  case d3 => have := HBX.out; simp; omega
  intro v7 w7 hA7
  have hk : qag w w7 := by
   have h0 : qag w (wz.alloc (.cells (Tok.cells ⟨101,[],s.length⟩).toArray 71)) := HI.out.1.alloc' _
   exact (((h0.keeps (fun _ => True)).under (hA7.keeps.mono fun b _ hb e => by have := (HI.out.2.1.lt b e).1; omega))).later
  have HL7 := hid hk
  have HOWN := hid hA7.own
  obtain ⟨a7,c7,rfl⟩ := own_sl HOWN.out
  have HDONE : Hid (T = .ok (acc ++ [⟨0,[],s.length⟩])) := hid (by have h := HATJ.out; rw [HJE.out] at h; exact h.done)
  clear hA7 hk
  go_wp2_with fail
  refine bodyPost_ret (v := .tuple #[.slice a7 (acc.length + 1) c7,.int .i64 (-1)]) (by simp [results,Tryz.results21,go_sem]) rfl ⟨HL7.out,?_⟩
  rw [← HTT.out,HDONE.out]
  refine ⟨_,rfl,?_⟩
  have h := HOWN.out
  have e : qbb (List.map Tok.d (acc ++ [⟨0,[],s.length⟩])) = qbb (acc.map Tok.d) ++ Tok.cells ⟨101,[],s.length⟩ := by
   rw [List.map_append]
   exact (tokCells_snoc (acc.map Tok.d) (Tok.d ⟨0,[],s.length⟩)).symm
  rw [e,List.length_append]
  exact h
 ·have hlt : j < s.length := by have := HI.out.2.2.2; omega
  have hlt' : (j : Int) < s.length := by omega
  have HLT := hid hlt
  obtain ⟨c,hc⟩ : ∃ c,s[j]'hlt = c := ⟨_,rfl⟩
  have HC := hid hc
  have hidx : ∀ (h : j < (qah s).size),(qah s)[j]'h = c := fun h => hc
  clear hc hje
  have hj0 : (0 : Int) ≤ j := by omega
  obtain ⟨b1,h1⟩ : ∃ b,((c.toNat : Int) == 32) = b := ⟨_,rfl⟩
  obtain ⟨b2,h2⟩ : ∃ b,((c.toNat : Int) == 9) = b := ⟨_,rfl⟩
  obtain ⟨b3,h3⟩ : ∃ b,((c.toNat : Int) == 10) = b := ⟨_,rfl⟩
  have HSP : Hid (spaceB c = (b1 || b2 || b3)) := hid (by
   have e1 : ((c.toNat : Int) == 32) = decide (c = 32) := qdb c 32 (by omega)
   have e2 : ((c.toNat : Int) == 9) = decide (c = 9) := qdb c 9 (by omega)
   have e3 : ((c.toNat : Int) == 10) = decide (c = 10) := qdb c 10 (by omega)
   rw [← h1,← h2,← h3,e1,e2,e3]
   unfold spaceB
   rw [Bool.eq_iff_iff]
   simp)
  by_cases hsp : spaceB c = true
  ·have HG : Hid (LexAt s (j + 1) acc T) := hid (HATJ.out.space HLT.out (by rw [HC.out]; exact hsp))
   have HWK : Hid (wrap64 ((j : Int) + 1) = ((j + 1 : Nat) : Int)) := hid (by have := HS.out; unfold wrap64; omega)
   have HNEXT : Hid (qdn w s acc (.slice va acc.length vc) (j + 1) wz) := hid ⟨HI.out.1,HI.out.2.1,by have := HI.out.2.2; omega,HLT.out⟩
   rw [HSP.out] at hsp
   cases b1 with
   | true =>
     clear hsp
     go_wp2_with fail
     try simp only [HWK.out]
     refine Round.mk' HR1.out Hmu1.out rfl ?_ ?_
     ·exact ⟨acc,_,j + 1,rfl,rfl,HG.out,HNEXT.out⟩
     ·rw [Hh5.out]; have := HLT.out; simp [intOf,qas]; omega
   | false =>
     cases b2 with
     | true =>
       clear hsp
       go_wp2_with fail
       try simp only [HWK.out]
       refine Round.mk' HR1.out Hmu1.out rfl ?_ ?_
       ·exact ⟨acc,_,j + 1,rfl,rfl,HG.out,HNEXT.out⟩
       ·rw [Hh5.out]; have := HLT.out; simp [intOf,qas]; omega
     | false =>
       obtain rfl : b3 = true := by simpa using hsp
       clear hsp
       go_wp2_with fail
       try simp only [HWK.out]
       refine Round.mk' HR1.out Hmu1.out rfl ?_ ?_
       ·exact ⟨acc,_,j + 1,rfl,rfl,HG.out,HNEXT.out⟩
       ·rw [Hh5.out]; have := HLT.out; simp [intOf,qas]; omega
  ·have HNS : Hid (spaceB c = false) := hid (by simpa using hsp)
   rw [HSP.out] at hsp
   obtain rfl : b1 = false := by cases b1 <;> simp_all
   obtain rfl : b2 = false := by cases b2 <;> simp_all
   obtain rfl : b3 = false := by cases b3 <;> simp_all
   clear hsp
   go_upto_region 8 with (fail)
   clear h1 h2 h3
   obtain ⟨wt,hwt⟩ : ∃ wt,wt = wz.alloc (.cells #[.int .u8 0,.string ⟨#[]⟩,.int .i64 (j : Int)] 71 (0,0)) := ⟨_,rfl⟩
   obtain ⟨K,hK⟩ : ∃ K,K = wz.heap.size := ⟨_,rfl⟩
   have HIT : Hid (qdn w s acc (.slice va acc.length vc) j wt) := hid (by rw [hwt]; exact HI.out.kept (qag.alloc _ _))
   have HTK : Hid (RTokObj wt K 0 [] j) := hid (by rw [hwt,hK]; exact qap _ _)
   have HKE : Hid (w.heap.size ≤ K ∧ (Value.slice va acc.length vc).ownBlock ≠ some K) := hid (by
    rw [hK]
    exact ⟨HBX.out,fun h => by have := (HI.out.2.1.lt _ h).2; omega⟩)
   rw [← hwt,← hK]
   clear hwt hK
   have hj1 : ¬ (9223372036854775807 : Int) < j + 1 := by have := HS.out; omega
   go_wp2_with fail
   refine (rletter_any c _).mono ?_
   rintro e w' ⟨rfl,hw'⟩
   subst w'
   obtain ⟨bl,hbl⟩ : ∃ b,qcs c = b := ⟨_,rfl⟩
   rw [hbl]
   go_wp2_with fail
   refine (rdigit_any c _).mono ?_
   rintro e w' ⟨rfl,hw'⟩
   subst w'
   obtain ⟨bd,hbd⟩ : ∃ b,qde c = b := ⟨_,rfl⟩
   rw [hbd]
   have HBL := hid hbl; have HBD := hid hbd
   clear hbl hbd
   go_upto_region 11 with (fail)
   clear hj1
   obtain ⟨R6,hR6⟩ : ∃ RR_ : (Nat → Value) → World → Prop,RR_ = (fun us wy => us 46 = .bool (wordB c) ∧ wy = wt) := ⟨_,rfl⟩
   have HR6 := hid hR6; clear hR6
   refine qau [ff,ff,ff,ff,ff,ff,ff,ff,ff,ff,ff,ff,ff,ff,ff,ff,ff,ff,ff,ff,ff,ff,ff,ff,ff,ff,ff,ff,ff,ff,ff,ff,ff,ff,ff,ff,ff,ff,ff,ff,ff,ff,ff,true,true,true,true] R6 _ HR6.out ?_ ?_
   ·have HWB : Hid (wordB c = (bl || bd)) := hid (by unfold wordB; rw [HBL.out,HBD.out])
    cases bl with
    | true =>
      go_wp2_with fail
      refine Meet.mk' HR6.out rfl ?_
      exact ⟨by simp [qas,HWB.out],rfl⟩
    | false =>
      go_wp2_with fail
      refine Meet.mk' HR6.out rfl ?_
      exact ⟨by simp [qas,HWB.out],rfl⟩
   intro us6 wt2 hrel
   obtain ⟨h46,hwy⟩ := hrel
   simp only [qao,Nat.reduceAdd,h46]
   have Hh46 := hid h46; clear h46
   subst hwy
   go_upto_if 46 with (fail)
   obtain ⟨R5,hR5⟩ : ∃ RR_ : (Nat → Value) → World → Prop,RR_ = (fun us wy => ∃ (k : UInt8) (m : Nat),us 10 = .int .i64 ((j + m : Nat) : Int) ∧ 1 ≤ m ∧ j + m ≤ s.length + 1 ∧ (j + m ≤ s.length → qds c (s.drop (j + 1)) = some (k,m)) ∧ (s.length < j + m → qds c (s.drop (j + 1)) = none) ∧ qdn w s acc (.slice va acc.length vc) j wy ∧ RTokObj wy K k [] j) := ⟨_,rfl⟩
   have HR5 := hid hR5; clear hR5
   refine qau [ff,ff,ff,ff,ff,ff,ff,ff,ff,ff,true,true,true,true,true,true,ff,ff,ff,ff,ff,ff,ff,ff,ff,ff,ff,ff,ff,ff,ff,ff,ff,ff,ff,ff,ff,ff,ff,ff,ff,ff,ff,ff,ff,ff,ff,true,true,true,true,true,true,true,true,true,true,true,true,true,true,true,true,true,true,true,true,true,true,true,true,true,true,true,true,true,true,true,true,true,true,true,true,true,true,true,true,true,true,true,true,true,true,true,true,true,true,true,true,true,true,true,true,true,true,true,true,true,true,true,true,true,true,true,true,true,true,true,true,true,true,true,true,true,true,true,true,true,true,true,true,true,true,true,true,true,true] R5 _ HR5.out ?_ ?_
   ·cases hw : wordB c with
    | true =>
      have HW := hid hw
      clear hw
      have z0 := qaq (i := 0) HTK.out
      have k0 : wt2.cell? ⟨K,0,none⟩ = some (.int .u8 0) := qac (i := 0) HTK.out rfl
      have kl := qad k0
      go_upto_if 48 with (fail)
      obtain ⟨w8,hw8⟩ : ∃ w8,w8 = wt2.setCell ⟨K,0,none⟩ (.int .u8 110) := ⟨_,rfl⟩
      have HI8 : Hid (qdn w s acc (.slice va acc.length vc) j w8) := hid (by rw [hw8]; exact HIT.out.set HKE.out.1 HKE.out.2)
      have HTK8 : Hid (RTokObj w8 K 110 [] j) := hid (by rw [hw8]; exact qak (i := 0) HTK.out _)
      rw [← hw8]
      clear hw8 z0 k0 kl
      obtain ⟨R7,hR7⟩ : ∃ RR_ : (Nat → Value) → World → Prop,RR_ = (fun us wy => qdn w s acc (.slice va acc.length vc) j wy ∧ RTokObj wy K (if qde c = true then 48 else 110) [] j) := ⟨_,rfl⟩
      have HR7 := hid hR7; clear hR7
      refine qau [ff,ff,ff,ff,ff,ff,ff,ff,ff,ff,ff,ff,ff,ff,ff,ff,ff,ff,ff,ff,ff,ff,ff,ff,ff,ff,ff,ff,ff,ff,ff,ff,ff,ff,ff,ff,ff,ff,ff,ff,ff,ff,ff,ff,ff,ff,ff,ff,ff,true] R7 _ HR7.out ?_ ?_
      ·have z0 := qaq (i := 0) HTK8.out
       have k0 : w8.cell? ⟨K,0,none⟩ = some (.int .u8 110) := qac (i := 0) HTK8.out rfl
       have kl := qad k0
       cases bd with
       | true =>
         go_wp2_with fail
         refine Meet.mk' HR7.out rfl ?_
         rw [if_pos HBD.out]
         exact ⟨HI8.out.set HKE.out.1 HKE.out.2,qak (i := 0) HTK8.out _⟩
       | false =>
         go_wp2_with fail
         refine Meet.mk' HR7.out rfl ?_
         rw [if_neg (by rw [HBD.out]; simp)]
         exact ⟨HI8.out,HTK8.out⟩
      intro us7 w9 hrel
      obtain ⟨hi9,ht9⟩ := hrel
      simp only [qao,Nat.reduceAdd]
      have HI9 := hid hi9; have HTK9 := hid ht9
      clear hi9 ht9
      obtain ⟨n,hn⟩ : ∃ n,n = ((s.drop (j + 1)).takeWhile wordB).length := ⟨_,rfl⟩
      have HN := hid hn
      have HNL : Hid (j + 1 + n ≤ s.length) := hid (by have := (List.takeWhile_prefix wordB (l := s.drop (j + 1))).length_le; rw [List.length_drop] at this; omega)
      clear hn
      go_upto_region 15 with (fail)
      obtain ⟨R8,hR8⟩ : ∃ RR_ : (Nat → Value) → World → Prop,RR_ = (fun us wv => ∃ p : Nat,us 10 = .int .i64 (p : Int) ∧ j + 1 ≤ p ∧ p ≤ j + 1 + n ∧ wv = w9) := ⟨_,rfl⟩
      obtain ⟨mu8,hmu8⟩ : ∃ mu : (Nat → Value) → World → Nat,mu = (fun us _ => s.length - (intOf (us 10)).toNat) := ⟨_,rfl⟩
      have HR8 := hid hR8; have Hmu8 := hid hmu8; clear hR8 hmu8
      refine qal [ff,ff,ff,ff,ff,ff,ff,ff,ff,ff,true,true,true,ff,ff,ff,ff,ff,ff,ff,ff,ff,ff,ff,ff,ff,ff,ff,ff,ff,ff,ff,ff,ff,ff,ff,ff,ff,ff,ff,ff,ff,ff,ff,ff,ff,ff,ff,ff,ff,true,true,true,true,true,true,true,true,true,true,true,true,true,true,true,true,true,true,true,true] R8 _ mu8 HR8.out ?_ ?_
      ·exact ⟨j + 1,by simp [qas],by omega,by omega,rfl⟩
      intro us8 wv hrel
      obtain ⟨p,h10,hp1,hp2,hwv⟩ := hrel
      simp only [qao,Nat.reduceAdd,h10]
      have Hh10 := hid h10; clear h10
      subst hwv
      have HP2 := hid hp2
      have hwa := while_at wordB (s := s) hp1 (by rw [← HN.out]; exact hp2)
      rw [← HN.out] at hwa
      have HTA : Hid (qds c (s.drop (j + 1)) = some (if qde c = true then 48 else 110,1 + n)) := hid (by unfold qds; rw [if_pos HW.out,HN.out])
      have HFIN : Hid (p = j + 1 + n → ∃ (k : UInt8) (m : Nat),(Value.int .i64 (p : Int)) = .int .i64 ((j + m : Nat) : Int) ∧ 1 ≤ m ∧ j + m ≤ s.length + 1 ∧ (j + m ≤ s.length → qds c (s.drop (j + 1)) = some (k,m)) ∧ (s.length < j + m → qds c (s.drop (j + 1)) = none) ∧ qdn w s acc (.slice va acc.length vc) j wv ∧ RTokObj wv K k [] j) := hid (fun hp => by
       refine ⟨_,1 + n,by rw [hp,show j + 1 + n = j + (1 + n) by omega],by omega,by have := HNL.out; omega,fun _ => HTA.out,fun h => by have := HNL.out; omega,HI9.out,HTK9.out⟩)
      rcases hwa with ⟨hpl,hwa⟩ | ⟨hpl,hpe⟩
      ·obtain ⟨d,hd⟩ : ∃ d,s[p]'hpl = d := ⟨_,rfl⟩
       rw [hd] at hwa
       have hidx2 : ∀ (h : p < (qah s).size),(qah s)[p]'h = d := fun h => hd
       have hpl' : (p : Int) < s.length := by omega
       have hp0 : (0 : Int) ≤ p := by omega
       have HWA := hid hwa
       clear hwa hd hp2 hidx
       go_wp2_with fail
       refine (rletter_any d _).mono ?_
       rintro e w' ⟨rfl,hw'⟩
       subst w'
       obtain ⟨xl,hxl⟩ : ∃ b,qcs d = b := ⟨_,rfl⟩
       rw [hxl]
       go_wp2_with fail
       refine (rdigit_any d _).mono ?_
       rintro e w' ⟨rfl,hw'⟩
       subst w'
       obtain ⟨xd,hxd⟩ : ∃ b,qde d = b := ⟨_,rfl⟩
       rw [hxd]
       have HWD : Hid (wordB d = (xl || xd)) := hid (by unfold wordB; rw [hxl,hxd])
       clear hxl hxd
       have HWK : Hid (wrap64 ((p : Int) + 1) = ((p + 1 : Nat) : Int)) := hid (by have := HS.out; unfold wrap64; omega)
       cases xl with
       | true =>
         have HPN : Hid (p + 1 ≤ j + 1 + n) := hid (by rcases HWA.out with ⟨-,h⟩ | ⟨h,-⟩; exact h; rw [HWD.out] at h; simp at h)
         go_wp2_with fail
         try simp only [HWK.out]
         refine Round.mk' HR8.out Hmu8.out rfl ?_ ?_
         ·exact ⟨p + 1,by simp [qas],by omega,HPN.out,rfl⟩
         ·rw [Hh10.out]; have := HPN.out; have := HNL.out; simp [intOf,qas]; omega
       | false =>
         cases xd with
         | true =>
           have HPN : Hid (p + 1 ≤ j + 1 + n) := hid (by rcases HWA.out with ⟨-,h⟩ | ⟨h,-⟩; exact h; rw [HWD.out] at h; simp at h)
           go_wp2_with fail
           try simp only [HWK.out]
           refine Round.mk' HR8.out Hmu8.out rfl ?_ ?_
           ·exact ⟨p + 1,by simp [qas],by omega,HPN.out,rfl⟩
           ·rw [Hh10.out]; have := HPN.out; have := HNL.out; simp [intOf,qas]; omega
         | false =>
           have HPE : Hid (p = j + 1 + n) := hid (by rcases HWA.out with ⟨h,-⟩ | ⟨-,h⟩; rw [HWD.out] at h; simp at h; exact h)
           go_wp2_with fail
           refine Meet.mk' HR5.out rfl ?_
           exact HFIN.out HPE.out
      ·have hpl' : ¬ (p : Int) < s.length := by omega
       have HPE := hid hpe
       clear hpe hp2
       go_wp2_with fail
       refine Meet.mk' HR5.out rfl ?_
       exact HFIN.out HPE.out
    | false =>
      have HW := hid hw
      clear hw
      have z0 := qaq (i := 0) HTK.out
      have k0 : wt2.cell? ⟨K,0,none⟩ = some (.int .u8 0) := qac (i := 0) HTK.out rfl
      have kl := qad k0
      by_cases hq : c = 39
      ·have HQ := hid hq
       have hcb : ((c.toNat : Int) == 39) = true := by rw [hq]; decide
       clear hq
       go_upto_region 22 with (fail)
       obtain ⟨w9,hw9⟩ : ∃ w9,w9 = wt2.setCell ⟨K,0,none⟩ (.int .u8 39) := ⟨_,rfl⟩
       have HI9 : Hid (qdn w s acc (.slice va acc.length vc) j w9) := hid (by rw [hw9]; exact HIT.out.set HKE.out.1 HKE.out.2)
       have HTK9 : Hid (RTokObj w9 K 39 [] j) := hid (by rw [hw9]; exact qak (i := 0) HTK.out _)
       rw [← hw9]
       clear hw9 z0 k0 kl hcb
       obtain ⟨n,hn⟩ : ∃ n,n = ((s.drop (j + 1)).takeWhile qdu).length := ⟨_,rfl⟩
       have HN := hid hn
       have HNL : Hid (j + 1 + n ≤ s.length) := hid (by have := (List.takeWhile_prefix qdu (l := s.drop (j + 1))).length_le; rw [List.length_drop] at this; omega)
       clear hn
       obtain ⟨R8,hR8⟩ : ∃ RR_ : (Nat → Value) → World → Prop,RR_ = (fun us wv => ∃ p : Nat,us 10 = .int .i64 (p : Int) ∧ j + 1 ≤ p ∧ p ≤ j + 1 + n ∧ wv = w9) := ⟨_,rfl⟩
       obtain ⟨mu8,hmu8⟩ : ∃ mu : (Nat → Value) → World → Nat,mu = (fun us _ => s.length - (intOf (us 10)).toNat) := ⟨_,rfl⟩
       have HR8 := hid hR8; have Hmu8 := hid hmu8; clear hR8 hmu8
       refine qal [ff,ff,ff,ff,ff,ff,ff,ff,ff,ff,true,ff,ff,ff,ff,ff,ff,ff,ff,ff,ff,ff,ff,ff,ff,ff,ff,ff,ff,ff,ff,ff,ff,ff,ff,ff,ff,ff,ff,ff,ff,ff,ff,ff,ff,ff,ff,ff,ff,ff,ff,ff,ff,ff,ff,ff,ff,ff,ff,ff,ff,ff,ff,ff,ff,ff,ff,ff,ff,ff,ff,ff,ff,true,true,true,true,true,true,true,true,true,true,true,true] R8 _ mu8 HR8.out ?_ ?_
       ·exact ⟨j + 1,by simp [qas],by omega,by omega,rfl⟩
       intro us8 wv hrel
       obtain ⟨p,h10,hp1,hp2,hwv⟩ := hrel
       simp only [qao,Nat.reduceAdd,h10]
       have Hh10 := hid h10; clear h10
       subst hwv
       have HP2 := hid hp2
       have hwa := while_at qdu (s := s) hp1 (by rw [← HN.out]; exact hp2)
       rw [← HN.out] at hwa
       have HWK : Hid (wrap64 ((p : Int) + 1) = ((p + 1 : Nat) : Int)) := hid (by have := HS.out; have := HNL.out; unfold wrap64; omega)
       have HFIN : Hid (p = j + 1 + n → ∃ (k : UInt8) (m : Nat),(Value.int .i64 ((p + 1 : Nat) : Int)) = .int .i64 ((j + m : Nat) : Int) ∧ 1 ≤ m ∧ j + m ≤ s.length + 1 ∧ (j + m ≤ s.length → qds c (s.drop (j + 1)) = some (k,m)) ∧ (s.length < j + m → qds c (s.drop (j + 1)) = none) ∧ qdn w s acc (.slice va acc.length vc) j wv ∧ RTokObj wv K k [] j) := hid (fun hp => by
        have hwd : ¬ wordB c = true := by rw [HW.out]; simp
        refine ⟨39,n + 2,by rw [hp,show j + 1 + n + 1 = j + (n + 2) by omega],by omega,by have := HNL.out; omega,fun h => ?_,fun h => ?_,HI9.out,HTK9.out⟩
        ·unfold qds
         rw [if_neg hwd,if_pos HQ.out,← HN.out,if_pos (by rw [List.length_drop]; omega)]
        ·unfold qds
         rw [if_neg hwd,if_pos HQ.out,← HN.out,if_neg (by rw [List.length_drop]; omega)])
       rcases hwa with ⟨hpl,hwa⟩ | ⟨hpl,hpe⟩
       ·obtain ⟨d,hd⟩ : ∃ d,s[p]'hpl = d := ⟨_,rfl⟩
        rw [hd] at hwa
        have hidx2 : ∀ (h : p < (qah s).size),(qah s)[p]'h = d := fun h => hd
        have hpl' : (p : Int) < s.length := by omega
        have hp0 : (0 : Int) ≤ p := by omega
        have HWA := hid hwa
        clear hwa hd hp2 hidx
        by_cases hd39 : d = 39
        ·have hcb : ((d.toNat : Int) != 39) = false := by rw [hd39]; decide
         have HPE : Hid (p = j + 1 + n) := hid (by rcases HWA.out with ⟨h,-⟩ | ⟨-,h⟩; rw [hd39] at h; exact absurd h (by decide); exact h)
         clear hd39
         go_wp2_with fail
         try simp only [HWK.out]
         refine Meet.mk' HR5.out rfl ?_
         exact HFIN.out HPE.out
        ·have hcb : ((d.toNat : Int) != 39) = true := by
          have : d.toNat ≠ 39 := fun h => hd39 (UInt8.toNat_inj.1 h)
          simp; omega
         have HPN : Hid (p + 1 ≤ j + 1 + n) := hid (by
          rcases HWA.out with ⟨-,h⟩ | ⟨h,-⟩
          ·exact h
          ·unfold qdu at h
           exact absurd (by simpa using h) hd39)
         clear hd39
         go_wp2_with fail
         try simp only [HWK.out]
         refine Round.mk' HR8.out Hmu8.out rfl ?_ ?_
         ·exact ⟨p + 1,by simp [qas],by omega,HPN.out,rfl⟩
         ·rw [Hh10.out]; have := HPN.out; have := HNL.out; simp [intOf,qas]; omega
       ·have hpl' : ¬ (p : Int) < s.length := by omega
        have HPE := hid hpe
        clear hpe hp2
        go_wp2_with fail
        try simp only [HWK.out]
        refine Meet.mk' HR5.out rfl ?_
        exact HFIN.out HPE.out
      ·have hcb : ((c.toNat : Int) == 39) = false := by
        have : c.toNat ≠ 39 := fun h => hq (UInt8.toNat_inj.1 h)
        simp; omega
       have HQ := hid hq
       clear hq
       go_upto_region 26 with (fail)
       obtain ⟨w8,hw8⟩ : ∃ w8,w8 = wt2.setCell ⟨K,0,none⟩ (.int .u8 111) := ⟨_,rfl⟩
       have HI8 : Hid (qdn w s acc (.slice va acc.length vc) j w8) := hid (by rw [hw8]; exact HIT.out.set HKE.out.1 HKE.out.2)
       have HTK8 : Hid (RTokObj w8 K 111 [] j) := hid (by rw [hw8]; exact qak (i := 0) HTK.out _)
       rw [← hw8]
       clear hw8 z0 k0 kl hcb
       go_wp2_with fail
       refine (rsigns_any _).mono ?_
       rintro e w9 ⟨bs,rfl,hstr,hL9⟩
       have HI9 := hid (HI8.out.kept hL9)
       have HTK9 : Hid (RTokObj w9 K 111 [] j) := hid (hL9.obj HTK8.out)
       have HSTR := hid hstr
       clear hstr hL9
       go_upto_region 29 with (fail)
       obtain ⟨R8,hR8⟩ : ∃ RR_ : (Nat → Value) → World → Prop,RR_ = (fun us wv => ∃ q n : Nat,us 15 = .int .i64 (q : Int) ∧ us 14 = .int .i64 (n : Int) ∧ q ≤ 15 ∧ SignsDone s j q n ∧ qdn w s acc (.slice va acc.length vc) j wv ∧ RTokObj wv K 111 [] j ∧ qdh wv bs 0 qcj) := ⟨_,rfl⟩
       obtain ⟨mu8,hmu8⟩ : ∃ mu : (Nat → Value) → World → Nat,mu = (fun us _ => 15 - (intOf (us 15)).toNat) := ⟨_,rfl⟩
       have HR8 := hid hR8; have Hmu8 := hid hmu8; clear hR8 hmu8
       refine qal [ff,ff,ff,ff,ff,ff,ff,ff,ff,ff,ff,ff,ff,ff,true,true,ff,ff,ff,ff,ff,ff,ff,ff,ff,ff,ff,ff,ff,ff,ff,ff,ff,ff,ff,ff,ff,ff,ff,ff,ff,ff,ff,ff,ff,ff,ff,ff,ff,ff,ff,ff,ff,ff,ff,ff,ff,ff,ff,ff,ff,ff,ff,ff,ff,ff,ff,ff,ff,ff,ff,ff,ff,ff,ff,ff,ff,ff,ff,ff,ff,ff,ff,ff,ff,ff,ff,ff,ff,true,true,true,true,true,true,true,true,true,true,true,true,true,true,true,true,true,true,true,true,true,true,true,true,true,true,true,true,true,true,true,true,true,true,true,true,true,true,true,true,true,true] R8 _ mu8 HR8.out ?_ ?_
       ·exact ⟨0,0,rfl,rfl,by omega,.inl ⟨rfl,fun i hi h => absurd h (by omega)⟩,HI9.out,HTK9.out,HSTR.out⟩
       clear HI9 HTK9 HSTR
       intro us8 wv hrel
       obtain ⟨q,n,h15,h14,hq15,hdone,hi9,ht9,hst9⟩ := hrel
       simp only [qao,Nat.reduceAdd,h15,h14]
       have Hh15 := hid h15; clear h15
       have Hh14 := hid h14; clear h14
       have HDN := hid hdone; have HI9 := hid hi9; have HTK9 := hid ht9; have HSTR := hid hst9
       clear hdone hi9 ht9 hst9
       by_cases hgo : q < 15 ∧ n = 0
       ·obtain ⟨hq,rfl⟩ := hgo
        have hqi : (q : Int) < 15 := by omega
        have hql : q < qcj.length := hq
        obtain ⟨g,hg⟩ : ∃ g,qcj[q]'hql = g := ⟨_,rfl⟩
        have hcg : wv.cell? ⟨bs,q,none⟩ = some (.string (qah g)) := by
         have h := HSTR.out q hql
         rw [Nat.zero_add,hg] at h
         exact h
        have hgs : (qah g).size = g.length := qax g
        have hgl := signs_len g (hg ▸ List.getElem_mem hql)
        have HGL := hid hgl
        have HG := hid hg
        have HQL := hid hql
        have hbs := qad hcg
        have HWQ : Hid (wrap64 ((q : Int) + 1) = ((q + 1 : Nat) : Int)) := hid (by unfold wrap64; omega)
        obtain ⟨M,hM⟩ : ∃ M : Nat,M = j + g.length := ⟨_,rfl⟩
        have hw1 : IntKind.i64.wrap ((j : Int) + g.length) = (M : Int) := by have := HS.out; rw [IntKind.wrap_i64]; omega
        go_upto_region 31 with (fail)
        by_cases hfit : j + g.length ≤ s.length
        ·have hfi : (M : Int) ≤ s.length := by omega
         have hcut : (qah s).extract j M = qah ((s.drop j).take g.length) := by rw [hM,qdi,Nat.add_sub_cancel_left]
         have hjg : (j : Int) ≤ (M : Int) := by omega
         have hfiN : M ≤ s.length := by omega
         have hjgN : j ≤ M := by omega
         have HM := hid hM
         clear hM hfit
         obtain ⟨bm,hbm⟩ : ∃ b,decide ((s.drop j).take g.length = g) = b := ⟨_,rfl⟩
         have heq : ((qah ((s.drop j).take g.length)).toList == (qah g).toList) = bm := (strs_eq _ _).trans hbm
         have HBM := hid hbm
         clear hbm hidx
         refine qaj (by kernel_rfl) (by kernel_rfl) qag qag.refl qag.trans (fun _ => none) (fun _ _ _ _ _ h => by cases h) ?_
         simp only [qam,Nat.reduceAdd]
         refine LexS.out ?_
         iterate 27
          first
          | (refine LexS.skip rfl ?_; simp only [Act.put,sib,List.set])
          | (refine LexS.one' rfl rfl ?_
             apply Exists.intro
             refine ⟨fun w hR hF => ?_,?_⟩
             ·have hP := hR
              repeat (first | replace hP := qag.of_drew hP | replace hP := qag.of_drewN hP | replace hP := qag.of_alloc hP)
              have hcs := hR.cells
              have zhcg := hP.cell hcg
              clear hR hF hP
              go_simp
              first | done | rfl
             simp only [Act.put,sib,List.set])
         refine LexS.nil ?_
         intro w4 hR4 hF9
         clear hF9
         repeat (first | replace hR4 := qag.of_drew hR4 | replace hR4 := qag.of_drewN hR4 | replace hR4 := qag.of_alloc hR4)
         have HR4 := hid hR4
         have HI4 := hid (HI9.out.kept hR4)
         have HTK4 : Hid (RTokObj w4 K 111 [] j) := hid (hR4.obj HTK9.out)
         have HST4 := hid (HSTR.out.later hR4)
         have hcg4 := hR4.cell hcg
         have hbs4 := qad hcg4
         clear hR4 hcg hbs
         cases bm with
         | true =>
           have HNEW : Hid (SignsDone s j (q + 1) g.length) := hid (by
            rcases HDN.out with ⟨-,h⟩ | ⟨h,-⟩
            ·refine .inr ⟨by have := HGL.out.1; omega,?_⟩
             have h2 := sign_first HQL.out h (by rw [HG.out]; exact prefix_of HBM.out)
             rw [HG.out] at h2
             exact h2
            ·exact absurd rfl h)
           go_wp2_with fail
           try simp only [HWQ.out]
           refine Round.mk' HR8.out Hmu8.out rfl ?_ ?_
           ·exact ⟨q + 1,g.length,by simp [qas],by simp [qas],by have := HQL.out; show q + 1 ≤ 15; exact this,HNEW.out,HI4.out,HTK4.out,HST4.out⟩
           ·rw [Hh15.out]; have := HQL.out; have h15 : qcj.length = 15 := rfl; simp [intOf,qas]; omega
         | false =>
           have HNEW : Hid (SignsDone s j (q + 1) 0) := hid (by
            rcases HDN.out with ⟨-,h⟩ | ⟨h,-⟩
            ·refine .inl ⟨rfl,fun i hi hiq => ?_⟩
             by_cases he : i = q
             ·subst he
              rw [HG.out]
              exact not_prefix HBM.out
             ·exact h i hi (by omega)
            ·exact absurd rfl h)
           go_wp2_with fail
           try simp only [HWQ.out]
           refine Round.mk' HR8.out Hmu8.out rfl ?_ ?_
           ·exact ⟨q + 1,0,by simp [qas],by simp [qas],by have := HQL.out; show q + 1 ≤ 15; exact this,HNEW.out,HI4.out,HTK4.out,HST4.out⟩
           ·rw [Hh15.out]; have := HQL.out; have h15 : qcj.length = 15 := rfl; simp [intOf,qas]; omega
        ·have hfi : ¬ (M : Int) ≤ s.length := by omega
         have hfiN : ¬ M ≤ s.length := by omega
         have HM := hid hM
         clear hM hfit hidx
         refine qaj (by kernel_rfl) (by kernel_rfl) qag qag.refl qag.trans (fun _ => none) (fun _ _ _ _ _ h => by cases h) ?_
         simp only [qam,Nat.reduceAdd]
         refine LexS.out ?_
         iterate 27
          first
          | (refine LexS.skip rfl ?_; simp only [Act.put,sib,List.set])
          | (refine LexS.one' rfl rfl ?_
             apply Exists.intro
             refine ⟨fun w hR hF => ?_,?_⟩
             ·have hP := hR
              repeat (first | replace hP := qag.of_drew hP | replace hP := qag.of_drewN hP | replace hP := qag.of_alloc hP)
              have hcs := hR.cells
              have zhcg := hP.cell hcg
              clear hR hF hP
              go_simp
              first | done | rfl
             simp only [Act.put,sib,List.set])
         refine LexS.nil ?_
         intro w4 hR4 hF9
         clear hF9
         repeat (first | replace hR4 := qag.of_drew hR4 | replace hR4 := qag.of_drewN hR4 | replace hR4 := qag.of_alloc hR4)
         have HR4 := hid hR4
         have HI4 := hid (HI9.out.kept hR4)
         have HTK4 : Hid (RTokObj w4 K 111 [] j) := hid (hR4.obj HTK9.out)
         have HST4 := hid (HSTR.out.later hR4)
         have HNF := hid hfiN
         clear hR4 hcg hbs hfi hfiN
         have HNEW : Hid (SignsDone s j (q + 1) 0) := hid (by
          rcases HDN.out with ⟨-,h⟩ | ⟨h,-⟩
          ·refine .inl ⟨rfl,fun i hi hiq => ?_⟩
           by_cases he : i = q
           ·subst he
            rw [HG.out,Bool.eq_false_iff]
            intro hp
            have h1 := (List.isPrefixOf_iff_prefix.1 hp).length_le
            rw [List.length_drop] at h1
            have h2 := HNF.out
            have h3 := HM.out
            omega
           ·exact h i hi (by omega)
          ·exact absurd rfl h)
         go_wp2_with fail
         try simp only [HWQ.out]
         refine Round.mk' HR8.out Hmu8.out rfl ?_ ?_
         ·exact ⟨q + 1,0,by simp [qas],by simp [qas],by have := HQL.out; show q + 1 ≤ 15; exact this,HNEW.out,HI4.out,HTK4.out,HST4.out⟩
         ·rw [Hh15.out]; have := HQL.out; have h15 : qcj.length = 15 := rfl; simp [intOf,qas]; omega
       ·have HTAT : Hid (qds c (s.drop (j + 1)) = if qeh (s.drop j) = 0 then none else some (111,qeh (s.drop j))) := hid (by
         have e : s.drop j = c :: s.drop (j + 1) := by rw [List.drop_eq_getElem_cons HLT.out,HC.out]
         unfold qds
         rw [if_neg (by rw [HW.out]; simp),if_neg HQ.out,e])
        by_cases hn0 : n = 0
        ·subst hn0
         have hq' : ¬ (q : Int) < 15 := by
          have h : ¬ q < 15 := fun h => hgo ⟨h,rfl⟩
          omega
         have HQN : Hid (q = 15) := hid (by omega)
         have HBAD : Hid (T = .error j) := hid (HATJ.out.bad HLT.out (by rw [HC.out]; exact HNS.out) (by
          rw [HC.out,HTAT.out,if_pos]
          refine sign_never fun i hi => ?_
          rcases HDN.out with ⟨-,h⟩ | ⟨h,-⟩
          ·exact h i hi (by have := HQN.out; have h15 : qcj.length = 15 := rfl; omega)
          ·exact absurd rfl h))
         clear hgo hidx
         go_wp2_with fail
         refine bodyPost_ret (v := .tuple #[.slice none 0 0,.int .i64 (j : Int)]) (by simp [results,Tryz.results21,go_sem]) rfl ⟨HI9.out.1,?_⟩
         rw [← HTT.out,HBAD.out]
        ·have hnb : ((n : Int) == 0) = false := by simp; omega
         have hsl : qeh (s.drop j) = n := by
          rcases HDN.out with ⟨h,-⟩ | ⟨-,h⟩
          ·exact absurd h hn0
          ·exact h
         have hta : qds c (s.drop (j + 1)) = some (111,n) := by rw [HTAT.out,hsl,if_neg hn0]
         have hlen := tokAt_len hta
         rw [List.length_drop] at hlen
         have HLEN := hid hlen; have HTA := hid hta
         have HWN : Hid (wrap64 ((j : Int) + n) = ((j + n : Nat) : Int)) := hid (by have := HS.out; unfold wrap64; omega)
         have HN0 := hid hn0
         clear hgo hidx hn0 hsl hta hlen
         by_cases hq : q < 15
         ·have hq' : (q : Int) < 15 := by omega
          clear hq
          go_wp2_with fail
          try simp only [HWN.out]
          refine Meet.mk' HR5.out rfl ?_
          exact ⟨111,n,by simp [qas],HLEN.out.1,by have := HLEN.out; omega,fun _ => HTA.out,fun h => by have := HLEN.out; have := HLT.out; omega,HI9.out,HTK9.out⟩
         ·have hq' : ¬ (q : Int) < 15 := by omega
          clear hq
          go_wp2_with fail
          try simp only [HWN.out]
          refine Meet.mk' HR5.out rfl ?_
          exact ⟨111,n,by simp [qas],HLEN.out.1,by have := HLEN.out; omega,fun _ => HTA.out,fun h => by have := HLEN.out; have := HLT.out; omega,HI9.out,HTK9.out⟩
   intro us5 wy hrel
   obtain ⟨k,m,h10,hm1,hm2,hta,htn,hinv,htk⟩ := hrel
   simp only [qao,Nat.reduceAdd,h10]
   have Hh10 := hid h10; clear h10
   have HM1 := hid hm1; have HM2 := hid hm2; have HTA := hid hta; have HTN := hid htn; have HIY := hid hinv; have HTKY := hid htk
   have y0 : wy.cell? ⟨K,0,none⟩ = some (.int .u8 (k.toNat : Int)) := qac (i := 0) htk rfl
   have y1 : wy.cell? ⟨K,1,none⟩ = some (.string ⟨#[]⟩) := qac (i := 1) htk rfl
   have y2 : wy.cell? ⟨K,2,none⟩ = some (.int .i64 (j : Int)) := qac (i := 2) htk rfl
   have yz := qaq (i := 1) htk
   have yl := qad y0
   clear hm1 hta htn hinv htk
   by_cases hbig : s.length < j + m
   ·have hbig' : (s.length : Int) < ((j + m : Nat) : Int) := by omega
    have HBIG := hid hbig
    have HBAD : Hid (T = .error j) := hid (HATJ.out.bad HLT.out (by rw [HC.out]; exact HNS.out) (by rw [HC.out]; exact HTN.out hbig))
    clear hbig hm2
    go_wp2_with fail
    refine bodyPost_ret (v := .tuple #[.slice none 0 0,.int .i64 (j : Int)]) (by simp [results,Tryz.results21,go_sem]) rfl ⟨HIY.out.1,?_⟩
    rw [← HTT.out,HBAD.out]
   ·have hbig' : ¬ (s.length : Int) < ((j + m : Nat) : Int) := by omega
    have HBIG := hid hbig
    clear hbig hm2
    have hjm : (j : Int) ≤ ((j + m : Nat) : Int) := by omega
    have hjm2 : ((j + m : Nat) : Int) ≤ (s.length : Int) := by have := HBIG.out; omega
    have hcut : (qah s).extract j (j + m) = qah ((s.drop j).take m) := by rw [qdi,Nat.add_sub_cancel_left]
    have HJM : Hid (j + m ≤ s.length) := hid (by have := HBIG.out; omega)
    go_upto_region 39 with (fail)
    obtain ⟨wu,hwu⟩ : ∃ wu,wu = wy.setCell ⟨K,1,none⟩ (.string (qah ((s.drop j).take m))) := ⟨_,rfl⟩
    have HIU : Hid (qdn w s acc (.slice va acc.length vc) j wu) := hid (by rw [hwu]; exact HIY.out.set HKE.out.1 HKE.out.2)
    have HTU : Hid (RTokObj wu K k ((s.drop j).take m) j) := hid (by rw [hwu]; exact qak (i := 1) HTKY.out _)
    rw [← hwu]
    have u0 : wu.cell? ⟨K,0,none⟩ = some (.int .u8 (k.toNat : Int)) := qac (i := 0) HTU.out rfl
    have u1 : wu.cell? ⟨K,1,none⟩ = some (.string (qah ((s.drop j).take m))) := qac (i := 1) HTU.out rfl
    have u2 : wu.cell? ⟨K,2,none⟩ = some (.int .i64 (j : Int)) := qac (i := 2) HTU.out rfl
    clear hwu y0 y1 y2 yz yl hcut
    go_wp2_with (at_builtin; refine qce rfl _ _ 63 rfl 71 3 32 Tryz.underlying63 rtokElem rfl (owns_at HIU.out.2.1 (qag.alloc _ _)) (news := Tok.cells ⟨k,(s.drop j).take m,j⟩) rfl (qcp rfl) rfl (tok_ones _) ?d1 ?d2 ?d3 ?_)
    case d1 => have := HACL.out; omega
    case d2 => have := HACL.out; unfold maxLen; omega
    case d3 => have := HIU.out.1.size; simp; omega
    intro v7 w7 hA7
    have hk : qag w w7 := by
     have h0 : qag w (wu.alloc (.cells (Tok.cells ⟨k,(s.drop j).take m,j⟩).toArray 71)) := HIU.out.1.alloc' _
     exact (((h0.keeps (fun _ => True)).under (hA7.keeps.mono fun b _ hb e => by have := (HIU.out.2.1.lt b e).1; omega))).later
    have HTA' := hid (HTA.out HJM.out)
    have HK0 : Hid (k ≠ 0) := hid (tokAt_k HTA'.out)
    have HNEXT : Hid (qdn w s (acc ++ [⟨k,(s.drop j).take m,j⟩]) v7 (j + m) w7) := hid ⟨hk,by
     have e : qbb (List.map Tok.d (acc ++ [⟨k,(s.drop j).take m,j⟩])) = qbb (acc.map Tok.d) ++ Tok.cells ⟨k,(s.drop j).take m,j⟩ := by
      rw [List.map_append]
      have e2 : Tok.d ⟨k,(s.drop j).take m,j⟩ = ⟨k,(s.drop j).take m,j⟩ := by unfold Tok.d; simp only; rw [if_neg HK0.out]
      have := (tokCells_snoc (acc.map Tok.d) (Tok.d ⟨k,(s.drop j).take m,j⟩)).symm
      rw [e2] at this
      show qbb (List.map Tok.d acc ++ [Tok.d ⟨k,(s.drop j).take m,j⟩]) = _
      rw [e2]
      exact this
     rw [e,List.length_append]
     exact hA7.own,by rw [List.length_append,List.length_singleton]; have := HI.out.2.2.1; have := HM1.out; omega,HJM.out⟩
    have HG : Hid (LexAt s (j + m) (acc ++ [⟨k,(s.drop j).take m,j⟩]) T) := hid (HATJ.out.tok HLT.out (by rw [HC.out]; exact HNS.out) (by rw [HC.out]; exact HTA'.out))
    obtain ⟨a7,c7,hv7⟩ := own_sl hA7.own
    subst hv7
    clear hA7 hk u0 u1 u2
    go_wp2_with fail
    refine Round.mk' HR1.out Hmu1.out rfl ?_ ?_
    ·exact ⟨_,_,j + m,rfl,rfl,HG.out,HNEXT.out⟩
    ·rw [Hh5.out]; have := HLT.out; have := HM1.out; have := HJM.out; simp [intOf,qas]; omega
end Go.Proofs.YtgajofkeidjbgaaGreatDoor
