/-
  PROVED HERE: a part of the proof of ExprEvals: ParText, ParAll, RefAll, RefLex1.
-/
import Derived.Test.YtgajofkeidjbgaaGreatDoorGParOk
import Derived.Test.YtgajofkeidjbgaaGreatDoorGRefP6
import Derived.Test.YtgajofkeidjbgaaGreatDoorGRefE
namespace Go.Proofs.YtgajofkeidjbgaaGreatDoor
set_option linter.unusedSimpArgs false
set_option linter.unusedVariables false
open Go Go.RowKit
def doneR (q : Res) : Except Fault Ex := match q with
 | .error e => .error e
 | .ok x => if (hdT x.2).k = 0 then .ok x.1 else .error (1,(hdT x.2).p)
def TextR (R : Bool) (s : List UInt8) (r : Except Fault Ex) : Prop :=
 if 200 < s.length then r = .error (5,0)
 else match lexX s.length 0 s with
  | .error p => r = .error (1,p)
  | .ok l => ∃ q,Par R (topJ R) 0 l q ∧ r = doneR q
theorem text_agree {s : List UInt8} {r r' : Except Fault Ex} (h : TextR true s r) (h' : TextR false s r') : r = r' := by
 unfold TextR at h h'
 split at h
 ·rename_i hl
  rw [if_pos hl] at h'
  rw [h,h']
 ·rename_i hl
  rw [if_neg hl] at h'
  cases hx : lexX s.length 0 s with
  | error p => rw [hx] at h h'; simp only at h h'; rw [h,h']
  | ok l =>
    rw [hx] at h h'
    obtain ⟨q,h1,rfl⟩ := h
    obtain ⟨q',h2,rfl⟩ := h'
    rw [par_agree h1 h2]
theorem lexX_ok : ∀ (n p : Nat) (s : List UInt8) (l : List Tok),lexX n p s = .ok l → (s.length ≤ n → (∀ t ∈ l,TokOk t) ∧ ∃ h : l ≠ [],(l.getLast h).k = 0)
 | n,p,[],l,h,_ => by
   unfold lexX at h
   cases h
   refine ⟨fun t ht => ?_,by simp,rfl⟩
   obtain rfl := List.mem_singleton.1 ht
   exact .inl ⟨rfl,rfl⟩
 | 0,p,c :: s,l,h,hl => absurd hl (by simp)
 | n + 1,p,c :: s,l,h,hl => by
   simp only [List.length_cons] at hl
   unfold lexX at h
   split at h
   ·exact lexX_ok n _ _ _ h (by omega)
   ·cases ht : qds c s with
    | none => rw [ht] at h; cases h
    | some x =>
      obtain ⟨k,m⟩ := x
      rw [ht] at h
      simp only at h
      have hm := tokAt_len ht
      cases hr : lexX n (p + m) ((c :: s).drop m) with
      | error e => rw [hr] at h; cases h
      | ok l' =>
        rw [hr] at h
        cases h
        have ih := lexX_ok n _ _ _ hr (by simp only [List.length_drop,List.length_cons]; omega)
        refine ⟨fun t ht' => ?_,by simp,?_⟩
        ·rcases List.mem_cons.1 ht' with rfl | h1
         ·exact tokAt_ok ht p
         ·exact ih.1 t h1
        ·rw [List.getLast_cons ih.2.1]
         exact ih.2.2
theorem text_ok {s : List UInt8} {x : Ex} (h : TextR true s (.ok x)) : qef x := by
 unfold TextR at h
 split at h
 ·cases h
 ·cases hx : lexX s.length 0 s with
  | error p => rw [hx] at h; cases h
  | ok l =>
    rw [hx] at h
    obtain ⟨q,⟨n,hn⟩,h2⟩ := h
    unfold doneR at h2
    cases q with
    | error e => cases h2
    | ok y =>
      obtain ⟨y,r⟩ := y
      simp only at h2
      split at h2
      ·cases h2
       exact (parse_ok n _ 0 l x r (lexX_ok _ _ _ _ hx (Nat.le_refl _)).1 hn trivial).1
      ·cases h2
end Go.Proofs.YtgajofkeidjbgaaGreatDoor
namespace Go.Proofs.YtgajofkeidjbgaaGreatDoor
set_option linter.unusedSimpArgs false
set_option linter.unusedVariables false
set_option maxHeartbeats 4000000
set_option maxRecDepth 100000
open Go.RowKit
attribute [local go_sem high] tok_f0 tok_f1 tok_f2
theorem lexX_short : ∀ (n p : Nat) (s : List UInt8) (l : List Tok),lexX n p s = .ok l → s.length ≤ n → (∀ t ∈ l,t.t.length ≤ s.length) ∧ l.length ≤ s.length + 1
 | n,p,[],l,h,_ => by
   unfold lexX at h
   cases h
   refine ⟨fun t ht => ?_,by simp⟩
   obtain rfl := List.mem_singleton.1 ht
   simp
 | 0,p,c :: s,l,h,hl => absurd hl (by simp)
 | n + 1,p,c :: s,l,h,hl => by
   simp only [List.length_cons] at hl
   unfold lexX at h
   split at h
   ·have ih := lexX_short n _ _ _ h (by omega)
    exact ⟨fun t ht => by have := ih.1 t ht; simp only [List.length_cons]; omega,by have := ih.2; simp only [List.length_cons]; omega⟩
   ·cases ht : qds c s with
    | none => rw [ht] at h; cases h
    | some x =>
      obtain ⟨k,m⟩ := x
      rw [ht] at h
      simp only at h
      have hm := tokAt_len ht
      cases hr : lexX n (p + m) ((c :: s).drop m) with
      | error e => rw [hr] at h; cases h
      | ok l' =>
        rw [hr] at h
        cases h
        have ih := lexX_short n _ _ _ hr (by simp only [List.length_drop,List.length_cons]; omega)
        simp only [List.length_drop,List.length_cons] at ih
        refine ⟨fun t ht' => ?_,?_⟩
        ·rcases List.mem_cons.1 ht' with rfl | h1
         ·simp only [List.length_take,List.length_cons]; omega
         ·have := ih.1 t h1; simp only [List.length_cons]; omega
        ·have := ih.2; simp only [List.length_cons]; omega
theorem parser_all (P : Nat) : ∀ (n : Nat) (l : List Tok) (d : Nat) (w : World),l.length ≤ n → n ≤ 1048576 → PAt w P d l → EndL l → d ≤ 12 → EnvP P w →
  (∀ L : Nat,L ≤ 5 → Calls Tryz.prog 39 #[.pointer (some ⟨P,0,none⟩),.int .i64 (L : Int)] w (POut w P d l (Par true (.bin L) d l))) ∧
  Calls Tryz.prog 71 #[.pointer (some ⟨P,0,none⟩)] w (POut w P d l (Par true .un d l))
 | 0,l,d,w,hn,_,_,hl,_,_ => absurd (List.eq_nil_of_length_eq_zero (Nat.le_zero.1 hn)) hl.2.1
 | n + 1,l,d,w,hn,hb,h,hl,hd,hE => by
   have ih := parser_all P n
   have hun : ∀ d w,PAt w P d l → d ≤ 12 → EnvP P w → Calls Tryz.prog 71 #[.pointer (some ⟨P,0,none⟩)] w (POut w P d l (Par true .un d l)) := by
    intro d w h hd hE
    refine unary_any P d l w h hl hd (fun d' l' w1 k hlt hd' h1 hl1 => (ih l' d' w1 (by omega) (by omega) h1 hl1 hd' (hE.kept k)).2) (fun hm w1 k h1 => ?_)
    obtain ⟨t,r,rfl,-,-⟩ := hl.cons
    simp only [List.length_cons] at hn
    exact primary_any P d t r w1 h1 hl hd hm (by omega) (hE.kept k) (fun d' l' w2 k2 hlt hd' h2 hl2 => (ih l' d' w2 (by omega) (by omega) h2 hl2 hd' ((hE.kept k).kept k2)).1 0 (by omega))
   have hbin : ∀ k L : Nat,5 ≤ L + k → L ≤ 5 → ∀ d w,PAt w P d l → d ≤ 12 → EnvP P w → Calls Tryz.prog 39 #[.pointer (some ⟨P,0,none⟩),.int .i64 (L : Int)] w (POut w P d l (Par true (.bin L) d l)) := by
    intro k
    induction k with
    | zero =>
      intro L hL hL5 d w h hd hE
      refine binary_any P d L l w hL5 h hl hd (fun L' d' l' w1 k hlt hL' hd' h1 hl1 => ?_) (fun w1 k h1 => hun d w1 h1 hd (hE.kept k))
      rcases hlt with hlt | ⟨-,hlt⟩
      ·exact (ih l' d' w1 (by omega) (by omega) h1 hl1 hd' (hE.kept k)).1 L' hL'
      ·omega
    | succ k ihk =>
      intro L hL hL5 d w h hd hE
      refine binary_any P d L l w hL5 h hl hd (fun L' d' l' w1 kk hlt hL' hd' h1 hl1 => ?_) (fun w1 k h1 => hun d w1 h1 hd (hE.kept k))
      rcases hlt with hlt | ⟨rfl,hlt⟩
      ·exact (ih l' d' w1 (by omega) (by omega) h1 hl1 hd' (hE.kept kk)).1 L' hL'
      ·exact ihk L' (by omega) hL' d' w1 h1 hd' (hE.kept kk)
   exact ⟨fun L hL => hbin 5 L (by omega) hL d w h hd hE,hun d w h hd hE⟩
def ParseTo (w : World) (s : List UInt8) (e : Ending) (w' : World) : Prop :=
 qag w w' ∧ ∃ r,TextR true s r ∧ match r with
  | .error f => qbr f.1 f.2 e
  | .ok x => ∃ v,e = .returned v ∧ qbh (fun b => w.heap.size ≤ b) w' v x
theorem later_of {w w1 w' : World} {P : Nat} (h : qag w w1) (k : Keeps (fun b => b ≠ P) w1 w') (hP : w.heap.size ≤ P) : qag w w' :=
 (((h.keeps (fun _ => True)).under (k.mono fun b _ hb => by omega))).later
theorem lex_end {s : List UInt8} (hs : s.length ≤ 1048576) {l : List Tok} (h : lexX s.length 0 s = .ok l) : EndL l ∧ l.length ≤ s.length + 1 := by
 have h1 := lexX_ok _ _ _ _ h (Nat.le_refl _)
 have h2 := lexX_short _ _ _ _ h (Nat.le_refl _)
 exact ⟨⟨fun t ht => ⟨h1.1 t ht,by have := h2.1 t ht; omega⟩,h1.2⟩,h2.2⟩
theorem parse_any (s : List UInt8) (w : World) (hE : qea w) (hT : PowTab w) (hS : qdx w) : Calls Tryz.prog 19 #[.string (qah s)] w (ParseTo w s) := by
 have HE := hid hE; have HT := hid hT; have HS := hid hS
 have hsz : (qah s).size = s.length := qax _
 clear hE hT hS
 go_enter Tryz.func19,Tryz.ntmps19
 by_cases hl : 200 < s.length
 ·have hl' : (200 : Int) < (qah s).size := by omega
  have HL := hid hl
  clear hl
  go_wp2_with fail
  refine (qbn 5 0 _).mono ?_
  rintro e w' ⟨hfl,rfl⟩
  unfold qbr at hfl
  subst hfl
  simp only [Exit.then,Exit.inBlock]
  refine ⟨rfl,qag.refl _,.error (5,0),?_,rfl⟩
  unfold TextR
  rw [if_pos HL.out]
 ·have hl' : ¬ (200 : Int) < (qah s).size := by omega
  have HL := hid hl
  clear hl hsz
  go_wp2_with fail
  refine (lex_any s w (by have := HL.out; omega) HS.out).mono ?_
  rintro e w1 ⟨hL1,hm⟩
  have HL1 := hid hL1
  clear hL1
  cases hx : lexX s.length 0 s with
  | error p =>
    rw [hx] at hm
    have HX := hid hx
    simp only at hm
    unfold qbr at hm
    subst hm
    simp only [Exit.then,Exit.inBlock]
    refine ⟨rfl,HL1.out,.error (1,p),?_,rfl⟩
    unfold TextR
    rw [if_neg HL.out,HX.out]
  | ok l =>
    rw [hx] at hm
    obtain ⟨v,rfl,hown⟩ := hm
    have HX := hid hx; have HOWN := hid hown
    obtain ⟨a,c,rfl⟩ := own_sl hown
    clear hx hown
    go_wp2_with fail
    have hle := lex_end (by have := HL.out; omega) HX.out
    have HLE := hid hle
    obtain ⟨P,hP⟩ : ∃ P,P = w1.heap.size := ⟨_,rfl⟩
    obtain ⟨w2,hw2⟩ : ∃ w2,w2 = w1.alloc (.cells #[.slice a l.length c,.int .i64 0] 99) := ⟨_,rfl⟩
    have hL2 : qag w1 w2 := hw2 ▸ qag.alloc _ _
    have hob : w2.heap[P]? = some (.cells #[.slice a l.length c,.int .i64 ((0 : Nat) : Int)] 99 (0,0)) := by rw [hw2,hP]; exact qap _ _
    have HP : Hid (PAt w2 P 0 l) := hid ⟨_,hob,toks_of_own (own_keeps HOWN.out (hL2.keeps fun _ => True) fun _ _ => trivial) fun g hg => by have := (HOWN.out.lt g hg).2; omega⟩
    have HENV : Hid (EnvP P w2) := hid ⟨w1,hL2,by omega,HE.out.later HL1.out,HT.out.later HL1.out⟩
    have HPW : Hid (w.heap.size ≤ P ∧ w2.heap.size = P + 1) := hid ⟨by rw [hP]; exact HL1.out.size,by rw [hw2,hP]; simp⟩
    have HL2 := hid (qag.trans _ _ _ HL1.out hL2)
    rw [← hw2,← hP]
    clear hw2 hP hob hL2 hle
    refine ((parser_all P l.length l 0 w2 (Nat.le_refl _) (by have := HLE.out.2; have := HL.out; omega) HP.out HLE.out.1 (by omega) HENV.out).1 0 (by omega)).mono ?_
    rintro e w3 ⟨hk3,rs,hr,hm⟩
    have HL3 := hid (later_of HL2.out hk3 HPW.out.1)
    have HK3 := hid hk3
    have HR := hid hr
    have HTX : Hid (TextR true s (doneR rs)) := hid (by
     unfold TextR
     rw [if_neg HL.out,HX.out]
     exact ⟨rs,hr,rfl⟩)
    clear hk3 hr
    cases rs with
    | error f =>
      simp only at hm
      unfold qbr at hm
      subst hm
      exact ⟨rfl,HL3.out,.error f,HTX.out,rfl⟩
    | ok x =>
      obtain ⟨v,rfl,hn,hp,he,hl⟩ := hm
      obtain ⟨x,r⟩ := x
      simp only at hn hp he hl
      obtain ⟨t2,r2,rfl,htk,-⟩ := he.cons
      have HN := hid hn; have HP3 := hid hp
      clear hn hp he hl htk
      go_wp2_with fail
      refine (qeo P 0 t2 r2 _ HP3.out).mono ?_
      rintro e w4 ⟨rfl,hL4⟩
      have HL4 := hid hL4
      clear hL4
      unfold Tok.v
      by_cases hk : t2.k = 0
      ·have e0 : ((t2.k.toNat : Int) == 0) = true := (qdb t2.k 0 (by omega)).trans (decide_eq_true hk)
       have e0' : ((t2.k.toNat : Int) != 0) = false := by rw [bne,e0]; rfl
       have HK := hid hk
       clear hk e0
       go_wp2_with fail
       refine bodyPost_ret (results_tmp rfl _ _ _) rfl ⟨qag.trans _ _ _ HL3.out HL4.out,.ok x,?_,v,rfl,qbh.mono (fun b _ h => ?_) _ _ (qbh.kept (HL4.out.keeps (fun b => b ≠ P)) (fun _ h => h.1) _ _ HN.out)⟩
       ·have h := HTX.out
        unfold doneR at h
        simp only at h
        rw [if_pos (show (hdT (t2 :: r2)).k = 0 from HK.out)] at h
        exact h
       ·have h1 := h.2
        have h2 := HPW.out
        omega
      ·have e0 : ((t2.k.toNat : Int) == 0) = false := (qdb t2.k 0 (by omega)).trans (decide_eq_false hk)
       have e0' : ((t2.k.toNat : Int) != 0) = true := by rw [bne,e0]; rfl
       have HK := hid hk
       clear hk e0
       go_wp2_with fail
       refine (qeo P 0 t2 r2 _ (HP3.out.later HL4.out)).mono ?_
       rintro e w5 ⟨rfl,hL5⟩
       have HL5 := hid hL5
       clear hL5
       unfold Tok.v
       go_wp2_with fail
       refine (qbn 1 t2.p _).mono ?_
       rintro e w' ⟨hfl,rfl⟩
       unfold qbr at hfl
       subst hfl
       simp only [Exit.then,Exit.inBlock]
       refine ⟨rfl,qag.trans _ _ _ HL3.out (qag.trans _ _ _ HL4.out HL5.out),.error (1,t2.p),?_,rfl⟩
       have h := HTX.out
       unfold doneR at h
       simp only at h
       rw [if_neg (show ¬ (hdT (t2 :: r2)).k = 0 from HK.out)] at h
       exact h
end Go.Proofs.YtgajofkeidjbgaaGreatDoor
namespace Go.Proofs.YtgajofkeidjbgaaGreatDoor
set_option linter.unusedSimpArgs false
set_option linter.unusedVariables false
open Go.RowKit
theorem reading_all (R : Nat) (K : Row3) (L : List Tok) (hL : L.length ≤ 1048576) : ∀ (n i : Nat),L.length - i ≤ n → EndL (L.drop i) → ∀ (d : Nat) (w : World),RAt w R K L i d 0 0 → d ≤ 12 →
  Calls Tryz.prog 46 #[.pointer (some ⟨R,0,none⟩)] w (ROut w R K L i d (Par false .un d (L.drop i))) ∧
  ∀ q : Nat,q ≤ 10 → Calls Tryz.prog 22 #[.pointer (some ⟨R,0,none⟩),.int .i64 (q : Int)] w (ROut w R K L i d (Par false (.climb q) d (L.drop i)))
 | 0,i,hn,hE => absurd (List.drop_eq_nil_of_le (by omega)) hE.2.1
 | n + 1,i,hn,hE => by
   have ih := reading_all R K L hL n
   have hi : i < L.length := by
    rcases Nat.lt_or_ge i L.length with h | h
    ·exact h
    ·exact absurd (List.drop_eq_nil_of_le h) hE.2.1
   have hF : ∀ (d : Nat) (w : World),RAt w R K L i d 0 0 → d ≤ 12 → Calls Tryz.prog 46 #[.pointer (some ⟨R,0,none⟩)] w (ROut w R K L i d (Par false .un d (L.drop i))) := fun d w h hd =>
    rfirst_any R K L i d w h hE hd hL (fun i' d' w1 _ hlt h1 hE1 hd1 => (ih i' (by omega) hE1 d' w1 h1 hd1).1) (fun q' i' d' w1 hq _ hlt h1 hE1 hd1 => (ih i' (by omega) hE1 d' w1 h1 hd1).2 q' hq)
   intro d w h hd
   exact ⟨hF d w h hd,fun q hq => rclimb_any R K L i d q w h hE hd hL hq (fun w1 _ h1 => hF d w1 h1 hd) (fun q' i' d' w1 hq' _ hlt h1 hE1 hd1 => (ih i' (by omega) hE1 d' w1 h1 hd1).2 q' hq')⟩
theorem rtoks_own {w : World} {B : Nat} {v : Value} {l : List Tok} (h : w.ownsRow B 71 3 v l.length (qbb (l.map Tok.d))) (hl : l ≠ []) : ∃ g c,v = .slice (some ⟨g,0,none⟩) l.length c ∧ g < w.heap.size ∧ ∀ j (hj : j < l.length),TokAt w g (0 + j * 3) l[j].d := by
 rcases h.2 with ⟨hv,h0⟩ | ⟨g,cap,cur,hv,hb,hg,hnc,hcm,hcs,htake⟩
 ·exact absurd (List.eq_nil_of_length_eq_zero h0) hl
 ·have hc := h.cells (g := g) (by rw [hv]; rfl)
  refine ⟨g,cap,hv,qch hg,fun i hi => ?_⟩
  have hi' : i < (l.map Tok.d).length := by rw [List.length_map]; exact hi
  have hgi : (l.map Tok.d)[i] = l[i].d := by rw [List.getElem_map]
  have at_ : ∀ c u,c < 3 → (l[i].d.cells)[c]? = some u → w.cell? ⟨g,0 + i * 3 + c,none⟩ = some u := fun c u h3 hu => by
   have := hc (i * 3 + c) u (by rw [tokCells_at (l.map Tok.d) i hi' c h3,hgi]; exact hu)
   rw [qeg rfl] at this
   rw [Nat.zero_add]
   simpa using this
  exact ⟨at_ 0 _ (by omega) rfl,at_ 1 _ (by omega) rfl,at_ 2 _ (by omega) rfl⟩
theorem rletter_any (c : UInt8) (w : World) : Calls Tryz.prog 41 #[.int .u8 (c.toNat : Int)] w fun e w' => e = .returned (.bool (qcs c)) ∧ w' = w := by
 go_enter Tryz.func41,Tryz.ntmps41
 unfold qcs
 generalize c.toNat = n
 by_cases h2 : 97 ≤ n
 ·have h2' : (97 : Int) ≤ n := by omega
  by_cases h3 : n ≤ 122
  ·have h3' : (n : Int) ≤ 122 := by omega
   go_wp2_with fail
   go_ret
   exact ⟨qbu (by simp [h2,h3]),rfl⟩
  ·have h3' : ¬ (n : Int) ≤ 122 := by omega
   have h4' : (65 : Int) ≤ n := by omega
   have h5' : ¬ (n : Int) ≤ 90 := by omega
   have h1' : ((n : Int) == 95) = false := by simp; omega
   have h1b : (n == 95) = false := by simp; omega
   go_wp2_with fail
   go_ret
   exact ⟨qbu (by simp [h1b,h2,h3]; omega),rfl⟩
 ·have h2' : ¬ (97 : Int) ≤ n := by omega
  by_cases h3 : 65 ≤ n
  ·have h3' : (65 : Int) ≤ n := by omega
   by_cases h4 : n ≤ 90
   ·have h4' : (n : Int) ≤ 90 := by omega
    go_wp2_with fail
    go_ret
    exact ⟨qbu (by simp [h2,h3,h4]),rfl⟩
   ·have h4' : ¬ (n : Int) ≤ 90 := by omega
    obtain ⟨b,hb⟩ : ∃ b,((n : Int) == 95) = b := ⟨_,rfl⟩
    have hbb : (n == 95) = b := by rw [← hb,Bool.eq_iff_iff]; simp; omega
    go_wp2_with fail
    go_ret
    exact ⟨qbu (by simp [h2,h3,h4,hbb]),rfl⟩
  ·have h3' : ¬ (65 : Int) ≤ n := by omega
   have h1' : ((n : Int) == 95) = false := by simp; omega
   have h1b : (n == 95) = false := by simp; omega
   go_wp2_with fail
   go_ret
   exact ⟨qbu (by simp [h1b,h2,h3]),rfl⟩
theorem rdigit_any (c : UInt8) (w : World) : Calls Tryz.prog 42 #[.int .u8 (c.toNat : Int)] w fun e w' => e = .returned (.bool (qde c)) ∧ w' = w := by
 go_enter Tryz.func42,Tryz.ntmps42
 unfold qde
 generalize c.toNat = n
 by_cases h1 : 48 ≤ n
 ·have h1' : (48 : Int) ≤ n := by omega
  by_cases h2 : n ≤ 57
  ·have h2' : (n : Int) ≤ 57 := by omega
   go_wp2_with fail
   go_ret
   exact ⟨by simp [h1,h2],rfl⟩
  ·have h2' : ¬ (n : Int) ≤ 57 := by omega
   go_wp2_with fail
   go_ret
   exact ⟨by simp [h1,h2],rfl⟩
 ·have h1' : ¬ (48 : Int) ≤ n := by omega
  go_wp2_with fail
  go_ret
  exact ⟨by simp [h1],rfl⟩
theorem rsigns_any (w : World) : Calls Tryz.prog 43 #[] w fun e w' => ∃ b,e = .returned (.slice (some ⟨b,0,none⟩) 15 15) ∧ qdh w' b 0 qcj ∧ qag w w' := by
 go_enter Tryz.func43,Tryz.ntmps43
 go_wp2_with fail
 refine bodyPost_ret (results_tmp rfl _ _ _) rfl ⟨w.heap.size,rfl,strs_new w qcj _ _ rfl,qag.alloc _ _⟩
def RTokObj (w : World) (K : Nat) (k : UInt8) (t : List UInt8) (j : Nat) : Prop := w.heap[K]? = some (.cells #[.int .u8 (k.toNat : Int),.string (qah t),.int .i64 (j : Int)] 71 (0,0))
theorem rtokElem : ElemInfo Tryz.prog 71 3 32 := ElemInfo.of (z := .agg #[.int .u8 0,.string ⟨#[]⟩,.int .i64 0]) (by kernel_rfl) rfl (by decide)
def RLexTo (w : World) (s : List UInt8) (e : Ending) (w' : World) : Prop :=
 qag w w' ∧ match lexX s.length 0 s with
  | .error p => e = .returned (.tuple #[.slice none 0 0,.int .i64 (p : Int)])
  | .ok l => ∃ v,e = .returned (.tuple #[v,.int .i64 (-1)]) ∧ w'.ownsRow w.heap.size 71 3 v l.length (qbb (l.map Tok.d))
end Go.Proofs.YtgajofkeidjbgaaGreatDoor
