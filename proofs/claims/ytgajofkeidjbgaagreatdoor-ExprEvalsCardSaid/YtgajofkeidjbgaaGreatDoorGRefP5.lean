/-
  PROVED HERE: a part of the proof of ExprEvals: RefP5.
-/
import Derived.Test.YtgajofkeidjbgaaGreatDoorShort
import Derived.Test.YtgajofkeidjbgaaGreatDoorGRefP3
import Derived.Test.YtgajofkeidjbgaaGreatDoorGRefPar
namespace Go.Proofs.YtgajofkeidjbgaaGreatDoor
set_option linter.unusedSimpArgs false
set_option linter.unusedVariables false
set_option maxHeartbeats 4000000
set_option maxRecDepth 100000
open Go.RowKit
def placeOf (w : World) (R : Nat) : Nat := match w.cell? ⟨R,1,none⟩ with
 | some (.int _ n) => n.toNat
 | _ => 0
theorem RAt.place {w : World} {R : Nat} {K : Row3} {L : List Tok} {i d bad : Nat} {e : Int} (h : RAt w R K L i d e bad) : placeOf w R = i := by
 unfold placeOf
 rw [h.cells.2.1]
 simp
theorem objs2 {w w4 : World} {o1 o2 : Obj} (h : w4 = (w.alloc o1).alloc o2) : qag w w4 ∧ w4.heap[w.heap.size]? = some o1 ∧ w4.heap[w.heap.size + 1]? = some o2 := by
 subst h
 have l2 := qag.alloc (w.alloc o1) o2
 refine ⟨(qag.alloc w o1).alloc' _,l2.obj (qap _ _),?_⟩
 have h := qap (w.alloc o1) o2
 rw [World.size_alloc] at h
 exact h
theorem kids2 {S : Nat → Prop} {w : World} {K : Nat} {u1 u2 : Value} {T : TypeId} (hK : S K) (h : w.heap[K]? = some (.cells #[u1,u2] T (0,0))) : KidsIn S w (.slice (some ⟨K,0,none⟩) 2 2) [u1,u2] := by
 refine ⟨_,2,rfl,by simp,by decide,by simp,fun i hi => ⟨K,0,rfl,hK,?_⟩⟩
 match i,hi with
 | 0,_ => exact qac (i := 0) h rfl
 | 1,_ => exact qac (i := 1) h rfl
 | n + 2,h => exact absurd h (by simp)
theorem kids1 {S : Nat → Prop} {w : World} {K : Nat} {u1 : Value} {T : TypeId} (hK : S K) (h : w.heap[K]? = some (.cells #[u1] T (0,0))) : KidsIn S w (.slice (some ⟨K,0,none⟩) 1 1) [u1] := by
 refine ⟨_,1,rfl,by simp,by decide,by simp,fun i hi => ⟨K,0,rfl,hK,?_⟩⟩
 match i,hi with
 | 0,_ => exact qac (i := 0) h rfl
 | n + 1,h => exact absurd h (by simp)
def NotRes (R : Nat) (K : Row3) (L : List Tok) (i d q p : Nat) (w : World) (B : Nat) (w' : World) : Prop :=
 ∃ (s : Res) (j : Nat) (e : Int) (b : Nat),RAt w' R K L j (d + 1) e b ∧ match s with
   | .error f => f.1 ≠ 0 ∧ i ≤ j ∧ j < L.length ∧ e = f.1 ∧ b = f.2 ∧ Par false (.climb q) d (L.drop i) (.error f)
   | .ok y => e = 0 ∧ b = 0 ∧ EIn (fun b => b ≠ R ∧ w.heap.size ≤ b) w' (.pointer (some ⟨B,0,none⟩)) y.1 ∧ i < j ∧ L.drop j = y.2 ∧ EndL y.2 ∧ ∀ s,Par false (.cloop q 9 true (.un false p y.1)) d y.2 s → Par false (.climb q) d (L.drop i) s
theorem not_un {t : Tok} {d : Nat} {r : List Tok} {s : Res} (h : isW t notW = true) (hp : Par false .un d (t :: r) s) : s = .error (1,t.p) := by
 have h' : t.t = notW ∧ (t.k = 111 ∨ t.k = 110) := by unfold isW at h; simpa using h
 have hw : ∀ x,x ≠ notW → isW t x = false := fun x hx => by
  unfold isW
  rw [h'.1,beq_eq_false_iff_ne.2 (fun e => hx e.symm)]
  rfl
 refine hp.one (rpar_none (hw _ (by decide)) (hw _ (by decide)) ?_ ?_ ?_)
 ·rcases h'.2 with h | h <;> rw [h] <;> decide
 ·rw [h'.1]; decide
 ·rintro ⟨-,h⟩
  rw [h'.1] at h
  exact h (by decide)
def ClimbRel (w : World) (R : Nat) (K : Row3) (L : List Tok) (i d q : Nat) (B m : Nat) (f : Bool) (wx : World) : Prop :=
 Keeps (fun b => b ≠ R) w wx ∧ ((∃ x j,EIn (fun b => b ≠ R ∧ w.heap.size ≤ b) wx (.pointer (some ⟨B,0,none⟩)) x ∧ (f = true → ∃ p y,x = .un false p y) ∧ RAt wx R K L j d 0 0 ∧ EndL (L.drop j) ∧ i < j ∧ ∀ s,Par false (.cloop q m f x) d (L.drop j) s → Par false (.climb q) d (L.drop i) s) ∨
  ∃ (c : Int) (p j : Nat),RAt wx R K L j d c p ∧ c ≠ 0 ∧ i ≤ j ∧ j < L.length ∧ Par false (.climb q) d (L.drop i) (.error (c,p)))
theorem rclimb_any (R : Nat) (K : Row3) (L : List Tok) (i d q : Nat) (w : World) (h : RAt w R K L i d 0 0) (hE : EndL (L.drop i)) (hd : d ≤ 12) (hL : L.length ≤ 1048576) (hq : q ≤ 10)
  (HF : ∀ w1,Keeps (fun b => b ≠ R) w w1 → RAt w1 R K L i d 0 0 → Calls Tryz.prog 46 #[.pointer (some ⟨R,0,none⟩)] w1 (ROut w1 R K L i d (Par false .un d (L.drop i))))
  (IHC : ∀ (q' i' d' : Nat) (w1 : World),q' ≤ 10 → Keeps (fun b => b ≠ R) w w1 → i < i' → RAt w1 R K L i' d' 0 0 → EndL (L.drop i') → d' ≤ 12 → Calls Tryz.prog 22 #[.pointer (some ⟨R,0,none⟩),.int .i64 (q' : Int)] w1 (ROut w1 R K L i' d' (Par false (.climb q') d' (L.drop i')))) :
  Calls Tryz.prog 22 #[.pointer (some ⟨R,0,none⟩),.int .i64 (q : Int)] w (ROut w R K L i d (Par false (.climb q) d (L.drop i))) := by
 have HR := hid h; have HE := hid hE; have HD := hid hd; have HLL := hid hL; have HQ := hid hq; have HFI := hid HF; have HIC := hid IHC
 have hi : i < L.length := by
  rcases Nat.lt_or_ge i L.length with h | h
  ·exact h
  ·exact absurd (List.drop_eq_nil_of_le h) hE.2.1
 have HI := hid hi
 have hRw := h.cells.2.2.2.2.2.2
 have HRW := hid hRw
 obtain ⟨t,ht⟩ : ∃ t,t = L[i] := ⟨_,rfl⟩
 have HT := hid ht
 have HDROP : Hid (L.drop i = t :: L.drop (i + 1)) := hid (by
  rw [List.drop_eq_getElem_cons hi,ht]
  rfl)
 have hcons := hE.cons
 have HTK : Hid (TokOk t ∧ (t.k ≠ 0 → EndL (L.drop (i + 1)))) := hid (by
  obtain ⟨t',r',e,h1,h2⟩ := hcons
  rw [HDROP.out] at e
  obtain ⟨rfl,rfl⟩ := List.cons.inj e
  exact ⟨h1,h2⟩)
 clear h hE hd hL hq HF IHC hcons ht hRw
 go_enter Tryz.func22,Tryz.ntmps22
 go_wp2_with fail
 refine (sign_any R K L i d 0 0 notW w HR.out hi).mono ?_
 rintro en w1 ⟨hen,hL1⟩
 obtain ⟨nb,hnb⟩ : ∃ b,isW t notW = b := ⟨_,rfl⟩
 replace hen : en = .returned (.bool nb) := by
  rw [hen,← hnb,HT.out]
  simp
  rfl
 subst hen
 have HNB := hid hnb
 have HL1 := hid hL1
 have HR1 := hid (HR.out.later hL1)
 clear hL1 hnb
 go_upto_region 3 with (fail)
 obtain ⟨R6,hR6⟩ : ∃ RR_ : (Nat → Value) → World → Prop,RR_ = (fun us wy => us 18 = .bool (decide (q ≤ 3) && nb) ∧ wy = w1) := ⟨_,rfl⟩
 have HR6 := hid hR6; clear hR6
 refine qau [ff,ff,ff,ff,ff,ff,ff,ff,ff,ff,ff,ff,ff,ff,true,true,true,true,true] R6 _ HR6.out ?_ ?_
 ·by_cases hq3 : q ≤ 3
  ·have hqi : (q : Int) ≤ 3 := by omega
   have HQ3 := hid hq3
   clear hq3
   go_wp2_with fail
   refine Meet.mk' HR6.out rfl ?_
   exact ⟨by simp [qas,HQ3.out],rfl⟩
  ·have hqi : ¬ (q : Int) ≤ 3 := by omega
   have HQ3 := hid hq3
   clear hq3
   go_wp2_with fail
   refine Meet.mk' HR6.out rfl ?_
   exact ⟨by simp [qas,HQ3.out],rfl⟩
 intro us6 wy hrel
 obtain ⟨h18,hwy⟩ := hrel
 simp only [qao,Nat.reduceAdd,h18]
 have Hh18 := hid h18; clear h18
 subst hwy
 go_upto_if 18 with (fail)
 obtain ⟨R5,hR5⟩ : ∃ RR_ : (Nat → Value) → World → Prop,RR_ = (fun us wy => ∃ B,us 5 = .pointer (some ⟨B,0,none⟩) ∧ ClimbRel w R K L i d q B 9 nb wy) := ⟨_,rfl⟩
 have HR5 := hid hR5; clear hR5
 refine qau [ff,ff,ff,ff,ff,true,ff,true,ff,ff,ff,ff,ff,ff,ff,ff,ff,ff,ff,true,true,true,true,true,true,true,true,true,true,true,true,true,true,true,true,true,true,true,true,true,true,true,true,true,true,true,true,true,true,true,true,true,true,true,true,true,true,true,true] R5 _ HR5.out ?_ ?_
 ·cases hnn : (decide (q ≤ 3) && nb) with
  | true =>
    have HN : Hid (isW t notW = true ∧ q ≤ 3) := hid (by
     simp only [Bool.and_eq_true,decide_eq_true_eq] at hnn
     exact ⟨by rw [HNB.out]; exact hnn.2,hnn.1⟩)
    clear hnn
    go_wp2_with fail
    refine (rin_any R K L i d wy HR1.out hi HD.out).mono ?_
    rintro e w2 ⟨rfl,hk2,hin'⟩
    have hin : InTo R K L i d t.p w2 := by rw [HT.out]; exact hin'
    clear hin'
    have HK2 := hid hk2; have HIN := hid hin
    obtain ⟨e2,b2,hr2⟩ : ∃ e2 b2,RAt w2 R K L i (d + 1) e2 b2 := by
     unfold InTo at hin
     split at hin
     ·exact ⟨_,_,hin⟩
     ·exact ⟨_,_,hin⟩
    have HR2 := hid hr2
    have tt : TokAt w2 K.g (K.o + i * 3) t.d := by rw [HT.out]; exact hr2.2.2 i hi
    obtain ⟨c0,c1,-,-,-,-,-⟩ := hr2.cells
    obtain ⟨g,o,c⟩ := K
    simp only at tt c0
    have hii : (i : Int) < (L.length : Int) := by omega
    clear hk2 hin hr2
    go_upto_region 5 with (fail)
    refine wp_region_held_drew (S := fun w => w.cell? ⟨R,0,none⟩ = some (.slice (some ⟨g,o,none⟩) L.length c) ∧ w.cell? ⟨R,1,none⟩ = some (.int .i64 (i : Int)) ∧ w.cell? ⟨g,o + i * 3 + 2,none⟩ = some (.int .i64 (t.p : Int)))
     (by kernel_rfl) ⟨(qag.drew w2).cell c0,(qag.drew w2).cell c1,(qag.drew w2).cell tt.2.2⟩ (fun hS => ?_)
    refine tH 0 (.pointer (some ⟨R,0,none⟩)) rfl (by kernel_rfl) (fun _ _ _ h => h) ⟨by rfl,?_⟩ hS ?_
    ·intro w hS
     clear hS
     go_simp
    try simp only [Act.put,sib,List.set]
    refine tH 4 (.pointer (some ⟨R,0,none⟩)) rfl (by kernel_rfl) (fun _ _ _ h => h) ⟨by rfl,?_⟩ hS ?_
    ·intro w hS
     clear hS
     go_simp
    try simp only [Act.put,sib,List.set]
    refine tH 1 (.pointer (some ⟨R,0,none⟩)) rfl (by kernel_rfl) (fun _ _ _ h => h) ⟨by rfl,?_⟩ hS ?_
    ·rintro w ⟨h0,-⟩
     try (have := qad h0)
     go_simp
    try simp only [Act.put,sib,List.set]
    refine tH 5 (.pointer (some ⟨R,0,none⟩)) rfl (by kernel_rfl) (fun _ _ _ h => h) ⟨by rfl,?_⟩ hS ?_
    ·rintro w ⟨h0,-⟩
     try (have := qad h0)
     go_simp
    try simp only [Act.put,sib,List.set]
    refine tH 2 (.pointer (some ⟨R,0,none⟩)) rfl (by kernel_rfl) (fun _ _ _ h => h) ⟨by rfl,?_⟩ hS ?_
    ·rintro w ⟨h0,-⟩
     try (have := qad h0)
     go_simp
    try simp only [Act.put,sib,List.set]
    refine tH 6 (.pointer (some ⟨R,1,none⟩)) rfl (by kernel_rfl) (fun _ _ _ h => h) ⟨by rfl,?_⟩ hS ?_
    ·rintro w ⟨h0,-⟩
     try (have := qad h0)
     go_simp
    try simp only [Act.put,sib,List.set]
    refine tH 3 (.slice (some ⟨g,o,none⟩) L.length c) rfl (by kernel_rfl) (fun _ _ _ h => h) ⟨by rfl,?_⟩ hS ?_
    ·rintro w ⟨h0,-⟩
     try (have := qad h0)
     go_simp
    try simp only [Act.put,sib,List.set]
    refine tH 7 (.int .i64 (i : Int)) rfl (by kernel_rfl) (fun _ _ _ h => h) ⟨by rfl,?_⟩ hS ?_
    ·rintro w ⟨-,h0,-⟩
     try (have := qad h0)
     go_simp
    try simp only [Act.put,sib,List.set]
    refine tH 8 (.pointer (some ⟨g,o + i * 3,none⟩)) rfl (by kernel_rfl) (fun _ _ _ h => h) ⟨by rfl,?_⟩ hS ?_
    ·intro w hS
     clear hS
     go_simp
    try simp only [Act.put,sib,List.set]
    refine tH 9 (.pointer (some ⟨g,o + i * 3 + 2,none⟩)) rfl (by kernel_rfl) (fun _ _ _ h => h) ⟨by rfl,?_⟩ hS ?_
    ·rintro w ⟨-,-,h0⟩
     try (have := qad h0)
     go_simp
    try simp only [Act.put,sib,List.set]
    refine tH 10 (.int .i64 (t.p : Int)) rfl (by kernel_rfl) (fun _ _ _ h => h) ⟨by rfl,?_⟩ hS ?_
    ·rintro w ⟨-,-,h0⟩
     try (have := qad h0)
     go_simp
    try simp only [Act.put,sib,List.set]
    refine tH 11 (.agg #[.string ⟨#[110,111,116]⟩,.int .i64 (t.p : Int),.slice none 0 0,.int .i64 0,.int .i64 0,.string ⟨#[]⟩,.string ⟨#[]⟩]) rfl (by kernel_rfl) (fun _ _ _ h => h) ⟨by rfl,?_⟩ hS ?_
    ·intro w hS
     clear hS
     go_simp
    try simp only [Act.put,sib,List.set]
    refine wpAnyH_ready (rs := [12]) (by kernel_rfl) (by simp) (AllReadyH.cons rfl (fun K hK => ?_) AllReadyH.nil)
    go_simp
    obtain ⟨w3,hw3⟩ : ∃ w3,w3 = (w2.alloc (.cells #[.string ⟨#[110,111,116]⟩,.int .i64 (t.p : Int),.slice none 0 0,.int .i64 0,.int .i64 0,.string ⟨#[]⟩,.string ⟨#[]⟩] 77 (0,0))).drew := ⟨_,rfl⟩
    have hL3 : qag w2 w3 := by rw [hw3]; exact qag.trans _ _ _ (qag.alloc _ _) (qag.drew _)
    obtain ⟨X,hX⟩ : ∃ X,X = w2.heap.size := ⟨_,rfl⟩
    have hO3 : w3.heap[X]? = some (.cells #[.string ⟨#[110,111,116]⟩,.int .i64 (t.p : Int),.slice none 0 0,.int .i64 0,.int .i64 0,.string ⟨#[]⟩,.string ⟨#[]⟩] 77 (0,0)) := by rw [hw3,hX]; exact qap _ _
    have hXw : w.heap.size ≤ X := by rw [hX]; exact Nat.le_trans HL1.out.size HK2.out.size
    have HXR : Hid (R < X) := hid (by have := HR2.out.cells.2.2.2.2.2.2; omega)
    rw [← hw3,← hX]
    have hS3 : w3.cell? ⟨R,0,none⟩ = some (.slice (some ⟨g,o,none⟩) L.length c) ∧ w3.cell? ⟨R,1,none⟩ = some (.int .i64 (i : Int)) ∧ w3.cell? ⟨g,o + i * 3 + 2,none⟩ = some (.int .i64 (t.p : Int)) := ⟨hL3.cell c0,hL3.cell c1,hL3.cell tt.2.2⟩
    clear hw3 hX c0 c1 tt hS
    refine hK.out _ _ hS3 (fun hS => ?_)
    clear hK K
    try simp only [Act.put,sib,List.set]
    clear hS3
    refine wpAnyH_ready (rs := [13]) (by kernel_rfl) (by simp) (AllReadyH.cons rfl (fun K hK => ?_) AllReadyH.nil)
    go_simp
    refine hK.out _ _ hS (fun hS => ?_)
    clear hK K
    try simp only [Act.put,sib,List.set]
    refine wpAnyH_done (by kernel_rfl) ?_ _
    have HR3 := hid (HR2.out.later hL3)
    have HL3 := hid hL3; have HO3 := hid hO3; have HXW := hid hXw
    obtain ⟨-,k1,-,-,-,kz,kl⟩ := HR3.out.cells
    have z1 := kz 1
    have hi1 : ¬ (9223372036854775807 : Int) < i + 1 := by have := HI.out; have := HLL.out; omega
    clear hS hL3 hO3 hXw kz hii
    go_upto_region 7 with (fail)
    obtain ⟨w4,hw4⟩ : ∃ w4,w4 = w3.setCell ⟨R,1,none⟩ (.int .i64 ((i + 1 : Nat) : Int)) := ⟨_,rfl⟩
    have HR4 : Hid (RAt w4 R ⟨g,o,c⟩ L (i + 1) (d + 1) e2 b2) := hid (by rw [hw4]; exact HR3.out.set.1 (i + 1))
    have HK4 : Hid (Keeps (fun b => b ≠ R) w3 w4) := hid (by rw [hw4]; exact HR3.out.set.2.2.2.2 1 _)
    rw [show w3.setCell ⟨R,1,none⟩ (.int .i64 ((i : Int) + 1)) = w4 from hw4.symm]
    clear hw4 k1 kl z1 hi1
    have HEI : Hid (EndL (L.drop (i + 1))) := hid (HTK.out.2 (by
     have h := HN.out.1
     unfold isW at h
     intro hk
     rw [hk] at h
     simp at h))
    have HI1 : Hid (i + 1 < L.length) := hid (by
     rcases Nat.lt_or_ge (i + 1) L.length with h | h
     ·exact h
     ·exact absurd (List.drop_eq_nil_of_le h) HEI.out.2.1)
    have HCALL : Hid (Calls Tryz.prog 22 #[.pointer (some ⟨R,0,none⟩),.int .i64 ((3 : Nat) : Int)] w4 (fun e w5 => ∃ B,e = .returned (.pointer (some ⟨B,0,none⟩)) ∧ Keeps (fun b => b ≠ R) w4 w5 ∧ NotRes R ⟨g,o,c⟩ L i d q t.p w4 B w5)) := hid (by
     have hin := HIN.out
     unfold InTo at hin
     by_cases hdd : 12 < d + 1
     ·rw [if_pos hdd] at hin
      have hcell := (hin.cells.2.2.2.1).symm.trans HR2.out.cells.2.2.2.1
      have hcell' := (hin.cells.2.2.2.2.1).symm.trans HR2.out.cells.2.2.2.2.1
      simp only [Option.some.injEq,Value.int.injEq,true_and] at hcell hcell'
      refine (rclimb_err R ⟨g,o,c⟩ L (i + 1) (d + 1) b2 e2 3 w4 HR4.out (by omega) HI1.out).mono ?_
      rintro e w5 ⟨⟨B,rfl⟩,hL5⟩
      refine ⟨B,rfl,hL5.keeps _,.error (4,t.p),i + 1,e2,b2,HR4.out.later hL5,(by decide : (4 : Int) ≠ 0),by omega,HI1.out,hcell.symm,by omega,?_⟩
      rw [HDROP.out]
      exact rpar_climb_not HN.out (by rw [if_pos hdd])
     ·rw [if_neg hdd] at hin
      have hcell := (hin.cells.2.2.2.1).symm.trans HR2.out.cells.2.2.2.1
      have hcell' := (hin.cells.2.2.2.2.1).symm.trans HR2.out.cells.2.2.2.2.1
      simp only [Option.some.injEq,Value.int.injEq,true_and] at hcell hcell'
      have he2 : e2 = 0 := hcell.symm
      have hb2 : b2 = 0 := by omega
      have hr4 := HR4.out
      rw [he2,hb2] at hr4
      refine (HIC.out 3 (i + 1) (d + 1) w4 (by omega) ((HL1.out.keeps _).trans (HK2.out.trans ((HL3.out.keeps _).trans HK4.out))) (by omega) hr4 HEI.out (by omega)).mono ?_
      rintro e w5 ⟨hk5,rs,B,hp,rfl,hm⟩
      refine ⟨B,rfl,hk5,?_⟩
      cases rs with
      | error f =>
        obtain ⟨hf0,j,h1,h2,h3⟩ := hm
        refine ⟨.error f,j,f.1,f.2,h3,hf0,by omega,h2,rfl,rfl,?_⟩
        rw [HDROP.out]
        exact rpar_climb_not HN.out (by rw [if_neg hdd]; exact ⟨_,hp,rfl⟩)
      | ok y =>
        obtain ⟨hy,j,h1,h2,h3,h4⟩ := hm
        refine ⟨.ok y,j,0,0,h3,rfl,rfl,hy,by omega,h2,h4,fun s hs => ?_⟩
        rw [HDROP.out]
        exact rpar_climb_not HN.out (by rw [if_neg hdd]; exact ⟨_,hp,hs⟩))
    go_wp2_with fail
    refine HCALL.out.mono ?_
    rintro e w5 ⟨B,rfl,hk5,rs,j,e3,b3,hr5,hm⟩
    have HK5 := hid hk5; have HV5 := hid hr5; have HM := hid hm
    have hO5 := hk5.obj (by have := HXR.out; omega) (HK4.out.obj (by have := HXR.out; omega) HO3.out)
    have HO5 := hid hO5
    have x2 : w5.cell? ⟨X,2,none⟩ = some (.slice none 0 0) := qac (i := 2) hO5 rfl
    have xz := qaq (i := 2) hO5
    have xl := qad x2
    clear hk5 hr5 hm hO5 HCALL
    go_upto_region 9 with (fail)
    obtain ⟨w6,hw6⟩ : ∃ w6,w6 = (w5.setCell ⟨X,2,none⟩ (.slice (some ⟨w5.heap.size,0,none⟩) 1 1)).alloc (.cells #[.pointer (some ⟨B,0,none⟩)] 26) := ⟨_,rfl⟩
    rw [← hw6]
    have HROW : Hid (w6.heap[w5.heap.size]? = some (.cells #[.pointer (some ⟨B,0,none⟩)] 26 (0,0))) := hid (by
     have h := qap (w5.setCell ⟨X,2,none⟩ (.slice (some ⟨w5.heap.size,0,none⟩) 1 1)) (.cells #[.pointer (some ⟨B,0,none⟩)] 26)
     rw [World.size_setCell] at h
     rw [hw6]
     exact h)
    have HK6' : Hid (Keeps (fun b => b ≠ X) w5 w6) := hid (by
     rw [hw6]
     exact ((Keeps.refl _ w5).setCell (p := ⟨X,2,none⟩) (.inl fun h => h rfl) _).alloc _)
    have HKW : Hid (Keeps (fun b => b ≠ R) w w6) := hid (by
     rw [hw6]
     exact (((HL1.out.keeps _).trans (HK2.out.trans ((HL3.out.keeps _).trans (HK4.out.trans HK5.out)))).setCell (p := ⟨X,2,none⟩) (.inr HXW.out) _).alloc _)
    have HO6 : Hid (w6.heap[X]? = some (.cells #[.string ⟨#[110,111,116]⟩,.int .i64 (t.p : Int),.slice (some ⟨w5.heap.size,0,none⟩) 1 1,.int .i64 0,.int .i64 0,.string ⟨#[]⟩,.string ⟨#[]⟩] 77 (0,0))) := hid (by
     rw [hw6]
     exact (qag.alloc _ _).obj (qak (i := 2) HO5.out _))
    clear hw6 x2 xz xl
    have HR6 : Hid (RAt w6 R ⟨g,o,c⟩ L j (d + 1) e3 b3) := hid (HV5.out.kept HK6'.out (by have := HXR.out; omega) (by have := HXR.out; have := HV5.out.2.1; simp only at this ⊢; omega))
    obtain ⟨-,-,k2,-,-,kz,kl⟩ := HR6.out.cells
    have z2 := kz 2
    have hd1 : ((d + 1 : Nat) : Int) - 1 = (d : Int) := by omega
    have HDW : Hid (wrap64 (d : Int) = (d : Int)) := hid (by have := HD.out; unfold wrap64; omega)
    clear kz
    go_wp2_with fail
    try simp only [hd1,HDW.out]
    refine Meet.mk' HR5.out rfl ?_
    have hnb1 : nb = true := HNB.out.symm.trans HN.out.1
    have h8 := HR6.out.set.2.1 d
    have hk8 := HR6.out.set.2.2.2.2 2 (.int .i64 (d : Int))
    have hxr := HXR.out
    have hxw := HXW.out
    have hx3 := qch HO3.out
    have hx4 := HK4.out.size
    have hx5 := HK5.out.size
    refine ⟨X,by simp [qas],HKW.out.trans hk8,?_⟩
    cases rs with
    | error f =>
      obtain ⟨h0,h1,h2,rfl,rfl,h3⟩ := HM.out
      exact .inr ⟨f.1,f.2,j,h8,h0,h1,h2,h3⟩
    | ok y =>
      obtain ⟨rfl,rfl,hy,h1,h2,h3,h4⟩ := HM.out
      refine .inl ⟨.un false t.p y.1,j,?_,fun _ => ⟨_,_,rfl⟩,h8,by rw [h2]; exact h3,h1,fun s hs => h4 s (by rw [hnb1,h2] at hs; exact hs)⟩
      unfold EIn
      refine ⟨X,_,.pointer (some ⟨B,0,none⟩),_,_,_,_,⟨by omega,hxw⟩,rfl,hk8.obj (by show X ≠ R; omega) HO6.out,kids_kept (kids1 (S := fun b => b ≠ R ∧ w.heap.size ≤ b) ⟨by omega,by omega⟩ HROW.out) hk8 (fun _ h => h.1),?_⟩
      exact EIn.kept hk8 (fun _ h => h.1) _ _ (EIn.mono (S' := fun b => b ≠ R ∧ w.heap.size ≤ b) (fun b _ h => ⟨h.1,by have := h.2; omega⟩) _ _ (EIn.kept HK6'.out (fun b h => by have := h.2; show b ≠ X; omega) _ _ hy))
  | false =>
    have HN : Hid (¬ (isW t notW = true ∧ q ≤ 3)) := hid (fun h => by
     have e := HNB.out.symm.trans h.1
     rw [e,decide_eq_true h.2] at hnn
     cases hnn)
    clear hnn
    go_wp2_with fail
    refine (HFI.out wy (HL1.out.keeps _) HR1.out).mono ?_
    rintro e w2 ⟨hk2,rs,B,hp,rfl,hm⟩
    have HK2 := hid hk2; have HP := hid hp; have HM := hid hm
    clear hk2 hp hm
    go_wp2_with fail
    refine Meet.mk' HR5.out rfl ?_
    refine ⟨B,by simp [qas],(HL1.out.keeps _).trans HK2.out,?_⟩
    have hn : ¬ (isW (hdT (L.drop i)) notW = true ∧ q ≤ 3) := by rw [HDROP.out]; exact HN.out
    cases rs with
    | error f =>
      obtain ⟨hf0,j,h1,h2,h3⟩ := HM.out
      exact .inr ⟨f.1,f.2,j,h3,hf0,h1,h2,rpar_climb_un hn ⟨_,HP.out,rfl⟩⟩
    | ok y =>
      obtain ⟨hy,j,h1,h2,h3,h4⟩ := HM.out
      have hnb0 : nb = false := by
       cases nb with
       | false => rfl
       | true =>
         have h1 := HP.out
         rw [HDROP.out] at h1
         have := not_un HNB.out h1
         cases this
      rw [hnb0]
      refine .inl ⟨y.1,j,EIn.mono (fun b _ h => ⟨h.1,Nat.le_trans HL1.out.size h.2⟩) _ _ hy,by simp,h3,by rw [h2]; exact h4,h1,fun s hs => rpar_climb_un hn ⟨_,HP.out,?_⟩⟩
      simp only
      rw [← h2]
      exact hs
 intro us5 w5 hrel
 obtain ⟨B,h5,hrel5⟩ := hrel
 simp only [qao,Nat.reduceAdd,h5]
 have Hh5 := hid h5; clear h5
 have HREL := hid hrel5
 clear hrel5
 go_upto_region 12 with (fail)
 obtain ⟨R1,hR1⟩ : ∃ RR_ : (Nat → Value) → World → Prop,RR_ = (fun us wx => ∃ (B m : Nat) (f : Bool),us 5 = .pointer (some ⟨B,0,none⟩) ∧ us 8 = .int .i64 (m : Int) ∧ us 6 = .bool f ∧ m ≤ 9 ∧ ClimbRel w R K L i d q B m f wx) := ⟨_,rfl⟩
 obtain ⟨mu1,hmu1⟩ : ∃ mu : (Nat → Value) → World → Nat,mu = (fun _ wx => L.length - placeOf wx R) := ⟨_,rfl⟩
 have HR1 := hid hR1; have Hmu1 := hid hmu1; clear hR1 hmu1
 refine qal [ff,ff,ff,ff,ff,true,true,ff,true,true,true,true,ff,ff,ff,ff,ff,ff,ff,ff,ff,ff,ff,ff,ff,ff,ff,ff,ff,ff,ff,ff,ff,ff,ff,ff,ff,ff,ff,ff,ff,ff,ff,ff,ff,ff,ff,ff,ff,ff,ff,ff,ff,ff,ff,ff,ff,ff,ff,true,true,true,true,true,true,true,true,true,true,true,true,true,true,true,true,true,true,true,true,true,true,true,true,true,true,true,true,true,true,true,true,true,true,true,true,true,true,true,true,true,true,true,true,true,true,true,true,true,true,true,true,true,true,true,true,true,true,true,true,true,true,true,true,true,true,true,true,true,true,true,true,true,true,true,true] R1 _ mu1 HR1.out ?_ ?_
 ·exact ⟨B,9,nb,by simp [qas],by simp [qas],by simp [qas],by omega,HREL.out⟩
 clear HREL
 intro us1 wx hrel
 obtain ⟨B2,m,f,g5,g8,g6,hm9,hrel⟩ := hrel
 simp only [qao,Nat.reduceAdd,g5,g8,g6]
 have Hg5 := hid g5; clear g5
 have Hg8 := hid g8; clear g8
 have Hg6 := hid g6; clear g6
 have HM9 := hid hm9
 clear hm9
 rcases hrel with ⟨hk,⟨x,j,hx,hf,hr,he,hij,hpar⟩ | ⟨c,p,j,hr,hc,hij,hj,hpar⟩⟩
 ·have HK := hid hk; have HX := hid hx; have HF' := hid hf; have HRX := hid hr; have HEX := hid he; have HIJ := hid hij; have HPAR := hid hpar
  have c3 := hr.cells.2.2.2.1
  have rl := hr.cells.2.2.2.2.2.2
  clear hk hx hf hr he hij hpar
  go_upto_region 13 with (fail)
  have hj : j < L.length := by
   rcases Nat.lt_or_ge j L.length with h | h
   ·exact h
   ·exact absurd (List.drop_eq_nil_of_le h) HEX.out.2.1
  have HJ := hid hj
  have tt := HRX.out.2.2 j hj
  obtain ⟨c0,c1,-⟩ := HRX.out.cells
  obtain ⟨u,hu⟩ : ∃ u,u = L[j] := ⟨_,rfl⟩
  have HU := hid hu
  have tt' : TokAt wx K.g (K.o + j * 3) u.d := by rw [hu]; exact tt
  have HDJ : Hid (L.drop j = u :: L.drop (j + 1)) := hid (by
   rw [List.drop_eq_getElem_cons hj,hu]
   rfl)
  have HUK : Hid (TokOk u ∧ (u.k ≠ 0 → EndL (L.drop (j + 1)))) := hid (by
   obtain ⟨t',r',e,h1,h2⟩ := HEX.out.cons
   rw [HDJ.out] at e
   obtain ⟨rfl,rfl⟩ := List.cons.inj e
   exact ⟨h1,h2⟩)
  clear tt hu hj c3 rl
  obtain ⟨g,o,c⟩ := K
  simp only at c0 tt'
  have hii : (j : Int) < (L.length : Int) := by have := HJ.out; omega
  obtain ⟨t,htu⟩ : ∃ t,t = u := ⟨_,rfl⟩
  have tt := htu ▸ tt'
  have HTU := hid htu
  clear tt' htu
  refine wp_region_held_drew (S := fun w => w.cell? ⟨R,0,none⟩ = some (.slice (some ⟨g,o,none⟩) L.length c) ∧ w.cell? ⟨R,1,none⟩ = some (.int .i64 (j : Int)) ∧ TokAt w g (o + j * 3) t.d) (by kernel_rfl) ⟨(qag.drew wx).cell c0,(qag.drew wx).cell c1,(qag.drew wx).cell tt.1,(qag.drew wx).cell tt.2.1,(qag.drew wx).cell tt.2.2⟩ (fun hS => ?_)
  refine tH 0 (.pointer (some ⟨R,0,none⟩)) rfl (by kernel_rfl) (fun _ _ _ h => h) ⟨by rfl,?_⟩ hS ?_
  ·intro w hS
   clear hS
   go_simp
  try simp only [Act.put,sib,List.set]
  refine tH 4 (.pointer (some ⟨R,0,none⟩)) rfl (by kernel_rfl) (fun _ _ _ h => h) ⟨by rfl,?_⟩ hS ?_
  ·intro w hS
   clear hS
   go_simp
  try simp only [Act.put,sib,List.set]
  refine tH 1 (.pointer (some ⟨R,0,none⟩)) rfl (by kernel_rfl) (fun _ _ _ h => h) ⟨by rfl,?_⟩ hS ?_
  ·rintro w ⟨h0,-⟩
   try (have := qad h0)
   go_simp
  try simp only [Act.put,sib,List.set]
  refine tH 5 (.pointer (some ⟨R,0,none⟩)) rfl (by kernel_rfl) (fun _ _ _ h => h) ⟨by rfl,?_⟩ hS ?_
  ·rintro w ⟨h0,-⟩
   try (have := qad h0)
   go_simp
  try simp only [Act.put,sib,List.set]
  refine tH 2 (.pointer (some ⟨R,0,none⟩)) rfl (by kernel_rfl) (fun _ _ _ h => h) ⟨by rfl,?_⟩ hS ?_
  ·rintro w ⟨h0,-⟩
   try (have := qad h0)
   go_simp
  try simp only [Act.put,sib,List.set]
  refine tH 6 (.pointer (some ⟨R,1,none⟩)) rfl (by kernel_rfl) (fun _ _ _ h => h) ⟨by rfl,?_⟩ hS ?_
  ·rintro w ⟨h0,-⟩
   try (have := qad h0)
   go_simp
  try simp only [Act.put,sib,List.set]
  refine tH 3 (.slice (some ⟨g,o,none⟩) L.length c) rfl (by kernel_rfl) (fun _ _ _ h => h) ⟨by rfl,?_⟩ hS ?_
  ·rintro w ⟨h0,-⟩
   try (have := qad h0)
   go_simp
  try simp only [Act.put,sib,List.set]
  refine tH 7 (.int .i64 (j : Int)) rfl (by kernel_rfl) (fun _ _ _ h => h) ⟨by rfl,?_⟩ hS ?_
  ·rintro w ⟨-,h0,-⟩
   try (have := qad h0)
   go_simp
  try simp only [Act.put,sib,List.set]
  refine tH 8 (.pointer (some ⟨g,o + j * 3,none⟩)) rfl (by kernel_rfl) (fun _ _ _ h => h) ⟨by rfl,?_⟩ hS ?_
  ·intro w hS
   clear hS
   go_simp
  try simp only [Act.put,sib,List.set]
  refine tH 9 (.agg #[.int .u8 (t.d.k.toNat : Int),.string (qah t.d.t),.int .i64 (t.d.p : Int)]) rfl (by kernel_rfl) (fun _ _ _ h => h) ⟨by rfl,?_⟩ hS ?_
  ·rintro w ⟨-,-,h0,h1,h2⟩
   try (have := qad h0)
   go_simp
  try simp only [Act.put,sib,List.set]
  refine wpAnyH_ready (rs := [10]) (by kernel_rfl) (by simp) (AllReadyH.cons rfl (fun K hK => ?_) AllReadyH.nil)
  go_simp
  obtain ⟨wA_,hwA⟩ : ∃ w1,w1 = (wx.alloc (.cells #[.int .u8 0,.string ⟨#[]⟩,.int .i64 0] 71)).drew := ⟨_,rfl⟩
  have hLA : qag wx wA_ := by rw [hwA]; exact qag.trans _ _ _ (qag.alloc _ _) (qag.drew _)
  have hNA : wA_.heap[wx.heap.size]? = some (.cells #[.int .u8 0,.string ⟨#[]⟩,.int .i64 0] 71 (0,0)) := by rw [hwA]; exact qap _ _
  obtain ⟨Tw2,hTv⟩ : ∃ T,T = wx.heap.size := ⟨_,rfl⟩
  have hTww2 : wx.heap.size ≤ Tw2 := by omega
  rw [← hwA,← hTv]
  rw [← hTv] at hNA
  have k0_ : wA_.cell? ⟨Tw2,0,none⟩ = some (.int .u8 0) := qac (i := 0) hNA rfl
  have k1_ : wA_.cell? ⟨Tw2,1,none⟩ = some (.string ⟨#[]⟩) := qac (i := 1) hNA rfl
  have k2_ : wA_.cell? ⟨Tw2,2,none⟩ = some (.int .i64 0) := qac (i := 2) hNA rfl
  have z0_ := qaq (i := 0) hNA
  have z1_ := qaq (i := 1) hNA
  have z2_ := qaq (i := 2) hNA
  have kl_ := qad k0_
  have hSA : wA_.cell? ⟨R,0,none⟩ = some (.slice (some ⟨g,o,none⟩) L.length c) ∧ wA_.cell? ⟨R,1,none⟩ = some (.int .i64 (j : Int)) ∧ TokAt wA_ g (o + j * 3) t.d := ⟨hLA.cell c0,hLA.cell c1,hLA.cell tt.1,hLA.cell tt.2.1,hLA.cell tt.2.2⟩
  clear hwA hTv hS
  refine hK.out _ _ hSA (fun hS => ?_)
  clear hK K
  try simp only [Act.put,sib,List.set]
  clear hSA
  refine wpAnyH_ready (rs := [11]) (by kernel_rfl) (by simp) (AllReadyH.cons rfl (fun K hK => ?_) AllReadyH.nil)
  go_simp
  obtain ⟨w2,hwB⟩ : ∃ w2,w2 = ((wA_.setCell ⟨Tw2,0,none⟩ (.int .u8 (t.d.k.toNat : Int))).setCell ⟨Tw2,1,none⟩ (.string (qah t.d.t))).setCell ⟨Tw2,2,none⟩ (.int .i64 (t.d.p : Int)) := ⟨_,rfl⟩
  obtain ⟨hLw2,hTw2⟩ := tokvar_set hLA hNA hTww2 hwB
  rw [← hwB]
  have hSB : w2.cell? ⟨R,0,none⟩ = some (.slice (some ⟨g,o,none⟩) L.length c) ∧ w2.cell? ⟨R,1,none⟩ = some (.int .i64 (j : Int)) ∧ TokAt w2 g (o + j * 3) t.d := ⟨hLw2.cell c0,hLw2.cell c1,hLw2.cell tt.1,hLw2.cell tt.2.1,hLw2.cell tt.2.2⟩
  clear hwB k0_ k1_ k2_ z0_ z1_ z2_ kl_ hLA hNA hS
  refine hK.out _ _ hSB (fun hS => ?_)
  clear hK K
  try simp only [Act.put,sib,List.set]
  refine wpAnyH_done (by kernel_rfl) ?_ _
  clear hS hSB
  have HL2 := hid hLw2; have HT2 := hid hTw2
  have HTR : Hid (Tw2 ≠ R ∧ w.heap.size ≤ Tw2) := hid ⟨by have := qch HRX.out.1; omega,by have := HK.out.size; omega⟩
  have m0 : w2.cell? ⟨Tw2,0,none⟩ = some (.int .u8 (t.d.k.toNat : Int)) := qac (i := 0) hTw2 rfl
  have m1 : w2.cell? ⟨Tw2,1,none⟩ = some (.string (qah t.t)) := qac (i := 1) hTw2 rfl
  have ml := qad m0
  clear hLw2 hTw2 hTww2 tt c0 c1 hii
  go_wp2_with fail
  refine (qdg t.t w2).mono ?_
  rintro e w' ⟨rfl,hw'⟩
  subst w'
  obtain ⟨p,hp⟩ : ∃ p,powS t.t = p := ⟨_,rfl⟩
  rw [hp]
  have HP := hid hp
  have HP6 : Hid (p ≤ 6) := hid (by rw [← hp]; have := powS_vals t.t; omega)
  clear hp
  go_upto_region 15 with (fail)
  obtain ⟨b1,h1⟩ : ∃ b,decide (t.k = 111) = b := ⟨_,rfl⟩
  obtain ⟨b2,h2⟩ : ∃ b,decide (t.k = 110) = b := ⟨_,rfl⟩
  obtain ⟨b3,h3⟩ : ∃ b,((p : Int) == 0) = b := ⟨_,rfl⟩
  obtain ⟨b4,h4⟩ : ∃ b,decide ((p : Int) < (q : Int)) = b := ⟨_,rfl⟩
  obtain ⟨b5,h5'⟩ : ∃ b,decide ((m : Int) < (p : Int)) = b := ⟨_,rfl⟩
  have e1 : ((t.d.k.toNat : Int) != 111) = !b1 := congrArg (fun b => !b) ((byte_d t 111 (by omega) (by decide) (by decide)).trans h1)
  have e2 : ((t.d.k.toNat : Int) != 110) = !b2 := congrArg (fun b => !b) ((byte_d t 110 (by omega) (by decide) (by decide)).trans h2)
  have HBR : Hid ((!b1 && !b2 || (b3 || (b4 || b5))) = true → Halt q m f (powT t)) := hid (fun h => by
   unfold Halt powT
   have hb3 : b3 = true ↔ p = 0 := by rw [← h3]; simp
   have hb4 : b4 = true ↔ p < q := by rw [← h4]; simp
   have hb5 : b5 = true ↔ m < p := by rw [← h5']; simp
   have hb1 : b1 = true ↔ t.k = 111 := by rw [← h1]; simp
   have hb2 : b2 = true ↔ t.k = 110 := by rw [← h2]; simp
   by_cases hk : t.k = 111 ∨ t.k = 110
   ·rw [if_pos hk,HP.out]
    simp only [Bool.or_eq_true,Bool.and_eq_true,Bool.not_eq_true'] at h
    rcases h with ⟨g1,g2⟩ | h | h | h
    ·rcases hk with hk | hk
     ·rw [hb1.2 hk] at g1; cases g1
     ·rw [hb2.2 hk] at g2; cases g2
    ·exact .inl (hb3.1 h)
    ·exact .inr (.inl (hb4.1 h))
    ·exact .inr (.inr (.inl (hb5.1 h)))
   ·rw [if_neg hk]; exact .inl rfl)
  have HNB2 : Hid ((!b1 && !b2 || (b3 || (b4 || b5))) = false → powT t = p ∧ t.k ≠ 0 ∧ (¬ (f = true ∧ 2 < p) → ¬ Halt q m f (powT t))) := hid (fun h => by
   have hb3 : b3 = false ↔ p ≠ 0 := by rw [← h3]; simp
   have hb4 : b4 = false ↔ ¬ p < q := by rw [← h4]; simp
   have hb5 : b5 = false ↔ ¬ m < p := by rw [← h5']; simp
   simp only [Bool.or_eq_false_iff] at h
   have hk : t.k = 111 ∨ t.k = 110 := by
    refine Decidable.byContradiction fun hk => ?_
    have g1 : b1 = false := by rw [← h1]; exact decide_eq_false fun h => hk (.inl h)
    have g2 : b2 = false := by rw [← h2]; exact decide_eq_false fun h => hk (.inr h)
    rw [g1,g2] at h
    exact absurd h.1 (by decide)
   have hpt : powT t = p := by unfold powT; rw [if_pos hk]; exact HP.out
   refine ⟨hpt,by rcases hk with hk | hk <;> rw [hk] <;> decide,fun hf => ?_⟩
   rw [hpt]
   unfold Halt
   rintro (g | g | g | g)
   ·exact hb3.1 h.2.1 g
   ·exact hb4.1 h.2.2.1 g
   ·exact hb5.1 h.2.2.2 g
   ·exact hf g)
  clear h1 h2
  obtain ⟨R7,hR7⟩ : ∃ RR_ : (Nat → Value) → World → Prop,RR_ = (fun us wy => us 98 = .bool (!b1 && !b2 || (b3 || (b4 || b5))) ∧ wy = w2) := ⟨_,rfl⟩
  have HR7 := hid hR7; clear hR7
  refine qau [ff,ff,ff,ff,ff,ff,ff,ff,ff,ff,ff,ff,ff,ff,ff,ff,ff,ff,ff,ff,ff,ff,ff,ff,ff,ff,ff,ff,ff,ff,ff,ff,ff,ff,ff,ff,ff,ff,ff,ff,ff,ff,ff,ff,ff,ff,ff,ff,ff,ff,ff,ff,ff,ff,ff,ff,ff,ff,ff,ff,ff,ff,ff,ff,ff,ff,ff,ff,ff,ff,ff,ff,ff,ff,ff,ff,ff,true,true,true,true,true,true,true,true,true,true,true,true,true,true,true,true,true,true,true,true,true,true] R7 _ HR7.out ?_ ?_
  ·cases b1 with
   | true =>
     cases b3 with
     | true =>
       go_wp2_with fail
       refine Meet.mk' HR7.out rfl ?_
       exact ⟨by simp [qas],rfl⟩
     | false =>
       by_cases hpq : p < q
       ·have hpqi : (p : Int) < q := by omega
        have g4 : b4 = true := by rw [← h4]; exact decide_eq_true hpqi
        subst g4
        clear h4
        go_wp2_with fail
        refine Meet.mk' HR7.out rfl ?_
        exact ⟨by simp [qas],rfl⟩
       ·have hpqi : ¬ (p : Int) < q := by omega
        have g4 : b4 = false := by rw [← h4]; exact decide_eq_false hpqi
        subst g4
        clear h4
        by_cases hmp : m < p
        ·have hmpi : (m : Int) < p := by omega
         have g5 : b5 = true := by rw [← h5']; exact decide_eq_true hmpi
         subst g5
         clear h5'
         go_wp2_with fail
         refine Meet.mk' HR7.out rfl ?_
         exact ⟨by simp [qas],rfl⟩
        ·have hmpi : ¬ (m : Int) < p := by omega
         have g5 : b5 = false := by rw [← h5']; exact decide_eq_false hmpi
         subst g5
         clear h5'
         go_wp2_with fail
         refine Meet.mk' HR7.out rfl ?_
         exact ⟨by simp [qas],rfl⟩
   | false =>
     cases b2 with
     | false =>
       go_wp2_with fail
       refine Meet.mk' HR7.out rfl ?_
       exact ⟨by simp [qas],rfl⟩
     | true =>
       cases b3 with
       | true =>
         go_wp2_with fail
         refine Meet.mk' HR7.out rfl ?_
         exact ⟨by simp [qas],rfl⟩
       | false =>
         by_cases hpq : p < q
         ·have hpqi : (p : Int) < q := by omega
          have g4 : b4 = true := by rw [← h4]; exact decide_eq_true hpqi
          subst g4
          clear h4
          go_wp2_with fail
          refine Meet.mk' HR7.out rfl ?_
          exact ⟨by simp [qas],rfl⟩
         ·have hpqi : ¬ (p : Int) < q := by omega
          have g4 : b4 = false := by rw [← h4]; exact decide_eq_false hpqi
          subst g4
          clear h4
          by_cases hmp : m < p
          ·have hmpi : (m : Int) < p := by omega
           have g5 : b5 = true := by rw [← h5']; exact decide_eq_true hmpi
           subst g5
           clear h5'
           go_wp2_with fail
           refine Meet.mk' HR7.out rfl ?_
           exact ⟨by simp [qas],rfl⟩
          ·have hmpi : ¬ (m : Int) < p := by omega
           have g5 : b5 = false := by rw [← h5']; exact decide_eq_false hmpi
           subst g5
           clear h5'
           go_wp2_with fail
           refine Meet.mk' HR7.out rfl ?_
           exact ⟨by simp [qas],rfl⟩
  intro us7 wz hrel
  obtain ⟨h98,hwz⟩ := hrel
  simp only [qao,Nat.reduceAdd,h98]
  have Hh98 := hid h98; clear h98
  subst hwz
  clear e1 e2 h3 h4 h5'
  have HRZ := hid (HRX.out.later HL2.out)
  have HKZ := hid (HK.out.trans (HL2.out.keeps _))
  have HXZ := hid (EIn.kept (HL2.out.keeps (fun b => b ≠ R)) (fun _ h => h.1) _ _ HX.out)
  have HSTOP : Hid (Halt q m f (powT t) → ROut w R ⟨g,o,c⟩ L i d (Par false (.climb q) d (L.drop i)) (.returned (.pointer (some ⟨B2,0,none⟩))) wz) := hid (fun hh =>
   ⟨HKZ.out,.ok (x,L.drop j),B2,HPAR.out _ (Par.halt (by rw [HDJ.out,← HTU.out]; exact hh)),rfl,HXZ.out,j,HIJ.out,rfl,HRZ.out,HEX.out⟩)
  cases hbr : (!b1 && !b2 || (b3 || (b4 || b5))) with
  | true =>
    have HH := hid (HSTOP.out (HBR.out hbr))
    clear hbr
    go_wp2_with fail
    refine bodyPost_ret (results_tmp rfl _ _ _) rfl ?_
    exact HH.out
  | false =>
    have HNB3 := hid (HNB2.out hbr)
    clear hbr
    have hwhat := HXZ.out.what
    have hwl := qad hwhat
    go_upto_region 16 with (fail)
    obtain ⟨R8,hR8⟩ : ∃ RR_ : (Nat → Value) → World → Prop,RR_ = (fun us wy => us 110 = .bool (f && decide (2 < p)) ∧ wy = wz) := ⟨_,rfl⟩
    have HR8 := hid hR8; clear hR8
    refine qau [ff,ff,ff,ff,ff,ff,ff,ff,ff,ff,ff,ff,ff,ff,ff,ff,ff,ff,ff,ff,ff,ff,ff,ff,ff,ff,ff,ff,ff,ff,ff,ff,ff,ff,ff,ff,ff,ff,ff,ff,ff,ff,ff,ff,ff,ff,ff,ff,ff,ff,ff,ff,ff,ff,ff,ff,ff,ff,ff,ff,ff,ff,ff,ff,ff,ff,ff,ff,ff,ff,ff,ff,ff,ff,ff,ff,ff,ff,ff,ff,ff,ff,ff,ff,ff,ff,ff,ff,ff,ff,ff,ff,ff,ff,ff,ff,ff,ff,ff,true,true,true,true,true,true,true,true,true,true,true,true] R8 _ HR8.out ?_ ?_
    ·obtain ⟨bw,hbw⟩ : ∃ b,((qah (qen x)).toList == [110,111,116]) = b := ⟨_,rfl⟩
     obtain ⟨b6,h6'⟩ : ∃ b,decide ((2 : Int) < (p : Int)) = b := ⟨_,rfl⟩
     have HV : Hid ((f && decide (2 < p)) = (bw && (b6 && f))) := hid (by
      have e6 : decide (2 < p) = b6 := by rw [← h6',decide_eq_decide]; omega
      rw [e6]
      cases f with
      | false => simp
      | true =>
        obtain ⟨pp,y,rfl⟩ := HF'.out rfl
        have : bw = true := by rw [← hbw,qan]; rfl
        rw [this]; simp)
     cases bw with
     | false =>
       go_wp2_with fail
       refine Meet.mk' HR8.out rfl ?_
       exact ⟨by simp [qas,HV.out],rfl⟩
     | true =>
       by_cases hp2 : 2 < p
       ·have hp2i : (2 : Int) < (p : Int) := by omega
        have e6 : b6 = true := by rw [← h6']; exact decide_eq_true hp2i
        clear hp2 h6'
        go_wp2_with fail
        refine Meet.mk' HR8.out rfl ?_
        exact ⟨by rw [HV.out,e6]; simp [qas],rfl⟩
       ·have hp2i : ¬ (2 : Int) < (p : Int) := by omega
        have e6 : b6 = false := by rw [← h6']; exact decide_eq_false hp2i
        clear hp2 h6'
        go_wp2_with fail
        refine Meet.mk' HR8.out rfl ?_
        exact ⟨by rw [HV.out,e6]; simp [qas],rfl⟩
    intro us8 wy8 hrel
    obtain ⟨h110,hwy⟩ := hrel
    simp only [qao,Nat.reduceAdd,h110]
    have Hh110 := hid h110; clear h110
    subst hwy
    cases hnf : (f && decide (2 < p)) with
    | true =>
      have HH := hid (HSTOP.out (by
       simp only [Bool.and_eq_true,decide_eq_true_eq] at hnf
       unfold Halt
       rw [HNB3.out.1]
       exact .inr (.inr (.inr hnf))))
      clear hnf hwhat hwl
      go_wp2_with fail
      refine bodyPost_ret (results_tmp rfl _ _ _) rfl ?_
      exact HH.out
    | false =>
      have HGO : Hid (¬ Halt q m f (powT (hdT (L.drop j)))) := hid (by
       rw [HDJ.out,← HTU.out]
       refine HNB3.out.2.2 fun h => ?_
       rw [h.1,decide_eq_true h.2] at hnf
       cases hnf)
      clear hnf hwhat hwl
      obtain ⟨-,k1,-,-,-,kz,kl⟩ := HRZ.out.cells
      have z1 := kz 1
      have HWJ : Hid (wrap64 ((j : Int) + 1) = ((j + 1 : Nat) : Int)) := hid (by have := HJ.out; have := HLL.out; unfold wrap64; omega)
      have hj1 : ¬ (9223372036854775807 : Int) < j + 1 := by have := HJ.out; have := HLL.out; omega
      have hp1 : ¬ (9223372036854775807 : Int) < p + 1 := by have := HP6.out; omega
      clear kz
      go_upto_region 18 with (fail)
      obtain ⟨w3,hw3⟩ : ∃ w3,w3 = wy8.setCell ⟨R,1,none⟩ (.int .i64 ((j + 1 : Nat) : Int)) := ⟨_,rfl⟩
      have HR3 : Hid (RAt w3 R ⟨g,o,c⟩ L (j + 1) d 0 0) := hid (by rw [hw3]; exact HRZ.out.set.1 (j + 1))
      have HK3 : Hid (Keeps (fun b => b ≠ R) wy8 w3) := hid (by rw [hw3]; exact HRZ.out.set.2.2.2.2 1 _)
      rw [show wy8.setCell ⟨R,1,none⟩ (.int .i64 ((j : Int) + 1)) = w3 from hw3.symm]
      clear hw3 k1 kl z1 hj1
      have HE3 : Hid (EndL (L.drop (j + 1))) := hid (HUK.out.2 (by rw [← HTU.out]; exact HNB3.out.2.1))
      go_wp2_with fail
      rw [show ((p : Int) + 1) = ((p + 1 : Nat) : Int) by omega]
      refine (HIC.out (p + 1) (j + 1) d w3 (by have := HP6.out; omega) (HKZ.out.trans HK3.out) (by have := HIJ.out; omega) HR3.out HE3.out HD.out).mono ?_
      rintro e w4 ⟨hk4,rs,B4,hr4,rfl,hm4⟩
      have HK4 := hid hk4; have HR4 := hid hr4; have HM4 := hid hm4
      have hT4 := hk4.obj HTR.out.1 (HK3.out.obj HTR.out.1 HT2.out)
      have n1 : w4.cell? ⟨Tw2,1,none⟩ = some (.string (qah t.t)) := qac (i := 1) hT4 rfl
      have n2 : w4.cell? ⟨Tw2,2,none⟩ = some (.int .i64 (t.p : Int)) := qac (i := 2) hT4 rfl
      have nl := qad n1
      clear hk4 hr4 hm4 hT4 m0 m1 ml hp1
      go_upto_region 22 with (fail)
      obtain ⟨w5,hw5⟩ : ∃ w5,w5 = (w4.alloc (.cells #[.pointer (some ⟨B2,0,none⟩),.pointer (some ⟨B4,0,none⟩)] 26)).alloc (.cells #[.string (qah t.t),.int .i64 (t.p : Int),.slice (some ⟨w4.heap.size,0,none⟩) 2 2,.int .i64 0,.int .i64 0,.string ⟨#[]⟩,.string ⟨#[]⟩] 77) := ⟨_,rfl⟩
      rw [← hw5]
      obtain ⟨hL5,o1,o2⟩ := objs2 hw5
      have HL5 := hid hL5; have HO1 := hid o1; have HO2 := hid o2
      clear hw5 hL5 o1 o2 n1 n2 nl
      have HSZ : Hid (R < w4.heap.size ∧ w.heap.size ≤ w4.heap.size ∧ w.heap.size ≤ w3.heap.size) := hid (by
       have h1 := HRZ.out.cells.2.2.2.2.2.2
       have h2 := HK3.out.size
       have h3 := HK4.out.size
       have h4 := HKZ.out.size
       omega)
      have HREL5 : Hid (∃ j1,j < j1 ∧ placeOf w5 R = j1 ∧ ClimbRel w R ⟨g,o,c⟩ L i d q (w4.heap.size + 1) (if p = 4 then 3 else p) false w5) := hid (by
       have hKA := HKZ.out.trans (HK3.out.trans (HK4.out.trans (HL5.out.keeps _)))
       have hpw : powT (hdT (L.drop j)) = p := by rw [HDJ.out,← HTU.out]; exact HNB3.out.1
       have htl : (L.drop j).tail = L.drop (j + 1) := by rw [HDJ.out]; rfl
       have hhd : hdT (L.drop j) = t := by rw [HDJ.out,← HTU.out]; rfl
       cases rs with
       | error f =>
         obtain ⟨hf0,j1,h1,h2,h3⟩ := HM4.out
         have h3' := h3.later HL5.out
         refine ⟨j1,by omega,h3'.place,hKA,.inr ⟨f.1,f.2,j1,h3',hf0,by have := HIJ.out; omega,h2,HPAR.out _ (Par.bad HGO.out ?_)⟩⟩
         rw [hpw,htl]
         exact HR4.out
       | ok y =>
         obtain ⟨hy,j1,h1,h2,h3,h4⟩ := HM4.out
         have h3' := h3.later HL5.out
         refine ⟨j1,by omega,h3'.place,hKA,.inl ⟨.bin t.t t.p x y.1,j1,?_,by simp,h3',by rw [h2]; exact h4,by have := HIJ.out; omega,fun s hs => HPAR.out _ (Par.go HGO.out (y := y.1) (r := y.2) ?_ ?_)⟩⟩
         ·have g1 := HSZ.out
          unfold EIn
          refine ⟨w4.heap.size + 1,_,_,_,_,_,_,_,⟨by omega,by omega⟩,rfl,HO2.out,kids2 ⟨by omega,by omega⟩ HO1.out,?_,?_⟩
          ·exact EIn.kept (HK3.out.trans (HK4.out.trans (HL5.out.keeps _))) (fun _ h => h.1) _ _ HXZ.out
          ·exact EIn.kept (HL5.out.keeps (fun _ => True)) (fun _ _ => trivial) _ _ (EIn.mono (fun b _ h => ⟨h.1,by have := h.2; omega⟩) _ _ hy)
         ·rw [hpw,htl]; exact HR4.out
         ·rw [hpw,hhd,← h2]; exact hs)
      have HPJ := hid (HRX.out.place)
      by_cases hp4 : p = 4
      ·subst hp4
       go_wp2_with fail
       refine Round.mk' HR1.out Hmu1.out rfl ?_ ?_
       ·obtain ⟨j1,h1,h2,h3⟩ := HREL5.out
        exact ⟨_,3,false,rfl,rfl,rfl,by omega,h3⟩
       ·obtain ⟨j1,h1,h2,-⟩ := HREL5.out
        rw [h2,HPJ.out]
        have := HJ.out
        omega
      ·have hp4i : ((p : Int) == 4) = false := by rw [beq_eq_false_iff_ne]; omega
       have HP4 := hid hp4
       clear hp4
       go_wp2_with fail
       refine Round.mk' HR1.out Hmu1.out rfl ?_ ?_
       ·obtain ⟨j1,h1,h2,h3⟩ := HREL5.out
        rw [if_neg HP4.out] at h3
        exact ⟨_,p,false,rfl,rfl,rfl,by have := HP6.out; omega,h3⟩
       ·obtain ⟨j1,h1,h2,-⟩ := HREL5.out
        rw [h2,HPJ.out]
        have := HJ.out
        omega
 ·have HK := hid hk; have HRX := hid hr; have HPAR := hid hpar; have HJ := hid (And.intro hij hj); have HC := hid hc
  have c3 := hr.cells.2.2.2.1
  have rl := hr.cells.2.2.2.2.2.2
  have hne : (c == 0) = false := by simpa using hc
  clear hk hr hpar hij hj hc
  go_wp2_with fail
  exact bodyPost_ret (results_tmp rfl _ _ _) rfl ⟨HK.out,.error (c,p),B2,HPAR.out,rfl,HC.out,j,HJ.out.1,HJ.out.2,HRX.out⟩
end Go.Proofs.YtgajofkeidjbgaaGreatDoor
