/-
  PROVED HERE: a part of the proof of ExprEvals: RefP6.
-/
import Derived.Test.YtgajofkeidjbgaaGreatDoorShort
import Derived.Test.YtgajofkeidjbgaaGreatDoorGRefCall
import Derived.Test.YtgajofkeidjbgaaGreatDoorGRefUnq
namespace Go.Proofs.YtgajofkeidjbgaaGreatDoor
set_option linter.unusedSimpArgs false
set_option linter.unusedVariables false
set_option maxHeartbeats 4000000
set_option maxRecDepth 100000
open Go.RowKit
def DeepRes (R : Nat) (K : Row3) (L : List Tok) (i d p : Nat) (J : Job) (w : World) (B : Nat) (w' : World) : Prop :=
 ∃ (s : Res) (j : Nat) (e : Int) (b : Nat),RAt w' R K L j (d + 1) e b ∧ (if 12 < d + 1 then s = .error (4,p) else Par false J (d + 1) (L.drop (i + 1)) s) ∧ match s with
   | .error f => f.1 ≠ 0 ∧ i < j ∧ j < L.length ∧ e = f.1 ∧ b = f.2
   | .ok y => e = 0 ∧ b = 0 ∧ EIn (fun b => b ≠ R ∧ w.heap.size ≤ b) w' (.pointer (some ⟨B,0,none⟩)) y.1 ∧ i + 1 < j ∧ L.drop j = y.2 ∧ EndL y.2
def DeepTo (R : Nat) (K : Row3) (L : List Tok) (i d p : Nat) (J : Job) (w : World) (e : Ending) (w' : World) : Prop :=
 ∃ B,e = .returned (.pointer (some ⟨B,0,none⟩)) ∧ Keeps (fun b => b ≠ R) w w' ∧ DeepRes R K L i d p J w B w'
theorem deep_call {P : Program} {F : FuncId} {args : Array Value} {R : Nat} {K : Row3} {L : List Tok} {i d p b2 : Nat} {e2 : Int} {J : Job} {w w0 : World} (hr : RAt w R K L (i + 1) (d + 1) e2 b2) (hr0 : RAt w0 R K L i (d + 1) e2 b2) (hin : InTo R K L i d p w0) (hl : i + 1 < L.length)
  (hc : ¬ 12 < d + 1 → RAt w R K L (i + 1) (d + 1) 0 0 → Calls P F args w (ROut w R K L (i + 1) (d + 1) (Par false J (d + 1) (L.drop (i + 1)))))
  (he : e2 ≠ 0 → Calls P F args w (SomePtr w)) : Calls P F args w (DeepTo R K L i d p J w) := by
 unfold InTo at hin
 by_cases hdd : 12 < d + 1
 ·rw [if_pos hdd] at hin
  have hcell := (hin.cells.2.2.2.1).symm.trans hr0.cells.2.2.2.1
  have hcell' := (hin.cells.2.2.2.2.1).symm.trans hr0.cells.2.2.2.2.1
  simp only [Option.some.injEq,Value.int.injEq,true_and] at hcell hcell'
  refine (he (by omega)).mono ?_
  rintro e w5 ⟨⟨B,rfl⟩,hL5⟩
  exact ⟨B,rfl,hL5.keeps _,.error (4,p),i + 1,e2,b2,hr.later hL5,by rw [if_pos hdd],(by decide : (4 : Int) ≠ 0),by omega,hl,hcell.symm,by omega⟩
 ·rw [if_neg hdd] at hin
  have hcell := (hin.cells.2.2.2.1).symm.trans hr0.cells.2.2.2.1
  have hcell' := (hin.cells.2.2.2.2.1).symm.trans hr0.cells.2.2.2.2.1
  simp only [Option.some.injEq,Value.int.injEq,true_and] at hcell hcell'
  have he2 : e2 = 0 := hcell.symm
  have hb2 : b2 = 0 := by omega
  rw [he2,hb2] at hr
  refine (hc hdd hr).mono ?_
  rintro e w5 ⟨hk5,rs,B,hp,rfl,hm⟩
  refine ⟨B,rfl,hk5,?_⟩
  cases rs with
  | error f =>
    obtain ⟨hf0,j,h1,h2,h3⟩ := hm
    exact ⟨.error f,j,f.1,f.2,h3,by rw [if_neg hdd]; exact hp,hf0,by omega,h2,rfl,rfl⟩
  | ok y =>
    obtain ⟨hy,j,h1,h2,h3,h4⟩ := hm
    exact ⟨.ok y,j,0,0,h3,by rw [if_neg hdd]; exact hp,rfl,rfl,hy,h1,h2,h4⟩
def ShutRes (R : Nat) (K : Row3) (L : List Tok) (i d p : Nat) (w : World) (B : Nat) (w' : World) : Prop :=
 ∃ (s : Res) (j : Nat) (e : Int) (b : Nat),RAt w' R K L j (d + 1) e b ∧ (if 12 < d + 1 then s = .error (4,p) else ∃ s',Par false (.climb 0) (d + 1) (L.drop (i + 1)) s' ∧ s = closeR s') ∧ match s with
   | .error f => f.1 ≠ 0 ∧ i < j ∧ j < L.length ∧ e = f.1 ∧ b = f.2
   | .ok y => e = 0 ∧ b = 0 ∧ EIn (fun b => b ≠ R ∧ w.heap.size ≤ b) w' (.pointer (some ⟨B,0,none⟩)) y.1 ∧ i + 1 < j ∧ L.drop j = y.2 ∧ EndL y.2
theorem shut_of {R : Nat} {K : Row3} {L : List Tok} {i d p j b : Nat} {e : Int} {B : Nat} {s : Res} {w w1 w2 : World} 
  (hm : match s with
   | .error f => f.1 ≠ 0 ∧ i < j ∧ j < L.length ∧ e = f.1 ∧ b = f.2
   | .ok y => e = 0 ∧ b = 0 ∧ EIn (fun b => b ≠ R ∧ w.heap.size ≤ b) w1 (.pointer (some ⟨B,0,none⟩)) y.1 ∧ i + 1 < j ∧ L.drop j = y.2 ∧ EndL y.2)
  (hs : if 12 < d + 1 then s = .error (4,p) else Par false (.climb 0) (d + 1) (L.drop (i + 1)) s) (hj : j < L.length) (hk : Keeps (fun b => b ≠ R) w1 w2) (hc : CloseTo R K L j (d + 1) b e L[j] w2) : ShutRes R K L i d p w B w2 := by
 unfold CloseTo at hc
 cases s with
 | error f =>
   obtain ⟨h0,h1,h2,he,hb⟩ := hm
   rw [if_neg (by rw [he]; exact h0)] at hc
   refine ⟨.error f,j,e,b,hc,?_,h0,h1,h2,he,hb⟩
   by_cases hdd : 12 < d + 1
   ·rw [if_pos hdd] at hs ⊢; exact hs
   ·rw [if_neg hdd] at hs ⊢; exact ⟨_,hs,rfl⟩
 | ok y =>
   obtain ⟨rfl,rfl,hy,h1,h2,h3⟩ := hm
   rw [if_pos rfl] at hc
   have hdd : ¬ 12 < d + 1 := fun h => by rw [if_pos h] at hs; cases hs
   rw [if_neg hdd] at hs
   have hcons : y.2 = L[j] :: L.drop (j + 1) := by rw [← h2,List.drop_eq_getElem_cons hj]
   have hhd : hdT y.2 = L[j] := by rw [hcons]; rfl
   have htl : y.2.tail = L.drop (j + 1) := by rw [hcons]; rfl
   by_cases hw : isW L[j] qbl = true
   ·rw [if_pos hw] at hc
    have hek : EndL (L.drop (j + 1)) := by
     obtain ⟨t',r',e1,-,e2⟩ := h3.cons
     rw [hcons] at e1
     obtain ⟨rfl,rfl⟩ := List.cons.inj e1
     refine e2 fun hk => ?_
     unfold isW at hw
     rw [hk] at hw
     simp at hw
    refine ⟨.ok (y.1,y.2.tail),j + 1,0,0,hc,?_,rfl,rfl,EIn.kept hk (fun _ h => h.1) _ _ hy,by omega,htl.symm,by rw [htl]; exact hek⟩
    rw [if_neg hdd]
    refine ⟨_,hs,?_⟩
    show _ = if isW (hdT y.2) qbl = true then _ else _
    rw [hhd,if_pos hw]
   ·rw [if_neg hw] at hc
    refine ⟨.error (1,L[j].p),j,1,L[j].p,hc,?_,(by decide : (1 : Int) ≠ 0),by omega,hj,rfl,rfl⟩
    rw [if_neg hdd]
    refine ⟨_,hs,?_⟩
    show _ = if isW (hdT y.2) qbl = true then _ else _
    rw [hhd,if_neg hw]
theorem rfirst_any (R : Nat) (K : Row3) (L : List Tok) (i d : Nat) (w : World) (h : RAt w R K L i d 0 0) (hE : EndL (L.drop i)) (hd : d ≤ 12) (hL : L.length ≤ 1048576)
  (IHF : ∀ (i' d' : Nat) (w1 : World),Keeps (fun b => b ≠ R) w w1 → i < i' → RAt w1 R K L i' d' 0 0 → EndL (L.drop i') → d' ≤ 12 → Calls Tryz.prog 46 #[.pointer (some ⟨R,0,none⟩)] w1 (ROut w1 R K L i' d' (Par false .un d' (L.drop i'))))
  (IHC : ∀ (q' i' d' : Nat) (w1 : World),q' ≤ 10 → Keeps (fun b => b ≠ R) w w1 → i < i' → RAt w1 R K L i' d' 0 0 → EndL (L.drop i') → d' ≤ 12 → Calls Tryz.prog 22 #[.pointer (some ⟨R,0,none⟩),.int .i64 (q' : Int)] w1 (ROut w1 R K L i' d' (Par false (.climb q') d' (L.drop i')))) :
  Calls Tryz.prog 46 #[.pointer (some ⟨R,0,none⟩)] w (ROut w R K L i d (Par false .un d (L.drop i))) := by
 have HR := hid h; have HE := hid hE; have HD := hid hd; have HLL := hid hL; have HIF := hid IHF; have HIC := hid IHC
 have hi : i < L.length := by
  rcases Nat.lt_or_ge i L.length with h | h
  ·exact h
  ·exact absurd (List.drop_eq_nil_of_le h) hE.2.1
 have HI := hid hi
 have tt0 := h.2.2 i hi
 obtain ⟨c0,c1,-,c3,-,-,hlt⟩ := h.cells
 obtain ⟨t,ht⟩ : ∃ t,t = L[i] := ⟨_,rfl⟩
 have HT := hid ht
 have tt : TokAt w K.g (K.o + i * 3) t.d := by rw [ht]; exact tt0
 have HDROP : Hid (L.drop i = t :: L.drop (i + 1)) := hid (by
  rw [List.drop_eq_getElem_cons hi,ht]
  rfl)
 have hcons := hE.cons
 have HTK : Hid (TokOk t ∧ (t.k ≠ 0 → EndL (L.drop (i + 1)))) := hid (by
  obtain ⟨t',r',e,h1,h2⟩ := hcons
  rw [HDROP.out] at e
  obtain ⟨rfl,rfl⟩ := List.cons.inj e
  exact ⟨h1,h2⟩)
 obtain ⟨g,o,c⟩ := K
 simp only at c0 tt
 have hii : (i : Int) < (L.length : Int) := by omega
 have h00 : ((0 : Int) != 0) = false := rfl
 have HNX : Hid (t.k ≠ 0 → EndL (L.drop (i + 1)) ∧ i + 1 < L.length) := hid (fun hk => by
  have he := HTK.out.2 hk
  refine ⟨he,?_⟩
  rcases Nat.lt_or_ge (i + 1) L.length with h | h
  ·exact h
  ·exact absurd (List.drop_eq_nil_of_le h) he.2.1)
 have HKW : ∀ x,isW t x = true → t.k ≠ 0 := fun x h hk => by
  unfold isW at h
  rw [hk] at h
  simp at h
 have HKW' : Hid (∀ (u : Tok) ,isW u qbq = true → u.k ≠ 0) := hid (fun u h hk => by
  unfold isW at h
  rw [hk] at h
  simp at h)
 have HKW := hid HKW
 clear h hE hd hL IHF IHC hcons ht tt0
 go_enter Tryz.func46,Tryz.ntmps46
 go_upto_region 1 with (fail)
 refine wp_region_held_drew (S := fun w => w.cell? ⟨R,0,none⟩ = some (.slice (some ⟨g,o,none⟩) L.length c) ∧ w.cell? ⟨R,1,none⟩ = some (.int .i64 (i : Int)) ∧ TokAt w g (o + i * 3) t.d) (by kernel_rfl) ⟨(qag.drew w).cell c0,(qag.drew w).cell c1,(qag.drew w).cell tt.1,(qag.drew w).cell tt.2.1,(qag.drew w).cell tt.2.2⟩ (fun hS => ?_)
 refine tH 0 (.pointer (some ⟨R,0,none⟩)) rfl (by kernel_rfl) (fun _ _ _ h => h) ⟨by rfl,?_⟩ hS ?_
 ·intro w hS
  clear hS
  go_simp
 try simp only [Act.put,sib,List.set]
 refine tH 4 (.pointer (some ⟨R,0,none⟩)) rfl (by kernel_rfl) (fun _ _ _ h => h) ⟨by rfl,?_⟩ hS ?_
 ·intro w hS
  clear hS
  go_simp
 try simp only [Act.put,sib,List.set]
 refine tH 1 (.pointer (some ⟨R,0,none⟩)) rfl (by kernel_rfl) (fun _ _ _ h => h) ⟨by rfl,?_⟩ hS ?_
 ·rintro w ⟨h0,-⟩
  try (have := qad h0)
  go_simp
 try simp only [Act.put,sib,List.set]
 refine tH 5 (.pointer (some ⟨R,0,none⟩)) rfl (by kernel_rfl) (fun _ _ _ h => h) ⟨by rfl,?_⟩ hS ?_
 ·rintro w ⟨h0,-⟩
  try (have := qad h0)
  go_simp
 try simp only [Act.put,sib,List.set]
 refine tH 2 (.pointer (some ⟨R,0,none⟩)) rfl (by kernel_rfl) (fun _ _ _ h => h) ⟨by rfl,?_⟩ hS ?_
 ·rintro w ⟨h0,-⟩
  try (have := qad h0)
  go_simp
 try simp only [Act.put,sib,List.set]
 refine tH 6 (.pointer (some ⟨R,1,none⟩)) rfl (by kernel_rfl) (fun _ _ _ h => h) ⟨by rfl,?_⟩ hS ?_
 ·rintro w ⟨h0,-⟩
  try (have := qad h0)
  go_simp
 try simp only [Act.put,sib,List.set]
 refine tH 3 (.slice (some ⟨g,o,none⟩) L.length c) rfl (by kernel_rfl) (fun _ _ _ h => h) ⟨by rfl,?_⟩ hS ?_
 ·rintro w ⟨h0,-⟩
  try (have := qad h0)
  go_simp
 try simp only [Act.put,sib,List.set]
 refine tH 7 (.int .i64 (i : Int)) rfl (by kernel_rfl) (fun _ _ _ h => h) ⟨by rfl,?_⟩ hS ?_
 ·rintro w ⟨-,h0,-⟩
  try (have := qad h0)
  go_simp
 try simp only [Act.put,sib,List.set]
 refine tH 8 (.pointer (some ⟨g,o + i * 3,none⟩)) rfl (by kernel_rfl) (fun _ _ _ h => h) ⟨by rfl,?_⟩ hS ?_
 ·intro w hS
  clear hS
  go_simp
 try simp only [Act.put,sib,List.set]
 refine tH 9 (.agg #[.int .u8 (t.d.k.toNat : Int),.string (qah t.d.t),.int .i64 (t.d.p : Int)]) rfl (by kernel_rfl) (fun _ _ _ h => h) ⟨by rfl,?_⟩ hS ?_
 ·rintro w ⟨-,-,h0,h1,h2⟩
  try (have := qad h0)
  go_simp
 try simp only [Act.put,sib,List.set]
 refine wpAnyH_ready (rs := [10]) (by kernel_rfl) (by simp) (AllReadyH.cons rfl (fun K hK => ?_) AllReadyH.nil)
 go_simp
 obtain ⟨wA_,hwA⟩ : ∃ w1,w1 = (w.alloc (.cells #[.int .u8 0,.string ⟨#[]⟩,.int .i64 0] 71)).drew := ⟨_,rfl⟩
 have hLA : qag w wA_ := by rw [hwA]; exact qag.trans _ _ _ (qag.alloc _ _) (qag.drew _)
 have hNA : wA_.heap[w.heap.size]? = some (.cells #[.int .u8 0,.string ⟨#[]⟩,.int .i64 0] 71 (0,0)) := by rw [hwA]; exact qap _ _
 obtain ⟨Tw2,hTv⟩ : ∃ T,T = w.heap.size := ⟨_,rfl⟩
 have hTww2 : w.heap.size ≤ Tw2 := by omega
 rw [← hwA,← hTv]
 rw [← hTv] at hNA
 have k0_ : wA_.cell? ⟨Tw2,0,none⟩ = some (.int .u8 0) := qac (i := 0) hNA rfl
 have k1_ : wA_.cell? ⟨Tw2,1,none⟩ = some (.string ⟨#[]⟩) := qac (i := 1) hNA rfl
 have k2_ : wA_.cell? ⟨Tw2,2,none⟩ = some (.int .i64 0) := qac (i := 2) hNA rfl
 have z0_ := qaq (i := 0) hNA
 have z1_ := qaq (i := 1) hNA
 have z2_ := qaq (i := 2) hNA
 have kl_ := qad k0_
 have hSA : wA_.cell? ⟨R,0,none⟩ = some (.slice (some ⟨g,o,none⟩) L.length c) ∧ wA_.cell? ⟨R,1,none⟩ = some (.int .i64 (i : Int)) ∧ TokAt wA_ g (o + i * 3) t.d := ⟨hLA.cell c0,hLA.cell c1,hLA.cell tt.1,hLA.cell tt.2.1,hLA.cell tt.2.2⟩
 clear hwA hTv hS
 refine hK.out _ _ hSA (fun hS => ?_)
 clear hK K
 try simp only [Act.put,sib,List.set]
 clear hSA
 refine wpAnyH_ready (rs := [11]) (by kernel_rfl) (by simp) (AllReadyH.cons rfl (fun K hK => ?_) AllReadyH.nil)
 go_simp
 obtain ⟨w2,hwB⟩ : ∃ w2,w2 = ((wA_.setCell ⟨Tw2,0,none⟩ (.int .u8 (t.d.k.toNat : Int))).setCell ⟨Tw2,1,none⟩ (.string (qah t.d.t))).setCell ⟨Tw2,2,none⟩ (.int .i64 (t.d.p : Int)) := ⟨_,rfl⟩
 obtain ⟨hLw2,hTw2⟩ := tokvar_set hLA hNA hTww2 hwB
 rw [← hwB]
 have hSB : w2.cell? ⟨R,0,none⟩ = some (.slice (some ⟨g,o,none⟩) L.length c) ∧ w2.cell? ⟨R,1,none⟩ = some (.int .i64 (i : Int)) ∧ TokAt w2 g (o + i * 3) t.d := ⟨hLw2.cell c0,hLw2.cell c1,hLw2.cell tt.1,hLw2.cell tt.2.1,hLw2.cell tt.2.2⟩
 clear hwB k0_ k1_ k2_ z0_ z1_ z2_ kl_ hLA hNA hS
 refine hK.out _ _ hSB (fun hS => ?_)
 clear hK K
 try simp only [Act.put,sib,List.set]
 refine wpAnyH_done (by kernel_rfl) ?_ _
 clear hS hSB
 have e3 := hLw2.cell c3
 have rl := qad e3
 have HL2 := hid hLw2; have HT2 := hid hTw2
 have HR2 := hid (HR.out.later hLw2)
 have HTW := hid hTww2
 clear c0 c1 c3 tt hlt hLw2 hTw2 hTww2 hii
 go_wp2_with fail
 refine (sign_any R ⟨g,o,c⟩ L i d 0 0 qbf w2 HR2.out hi).mono ?_
 rintro en w3 ⟨hen,hL3⟩
 obtain ⟨nb,hnb⟩ : ∃ b,isW t qbf = b := ⟨_,rfl⟩
 replace hen : en = .returned (.bool nb) := by
  rw [hen,← hnb,HT.out]
  simp
  rfl
 subst hen
 have HNB := hid hnb
 have HL3 := hid hL3
 have HR3 := hid (HR2.out.later hL3)
 clear hL3 hnb e3 rl h00
 cases nb with
 | true =>
   go_wp2_with fail
   refine (rin_any R ⟨g,o,c⟩ L i d w3 HR3.out hi HD.out).mono ?_
   rintro e w4 ⟨rfl,hk4,hin'⟩
   have hin : InTo R ⟨g,o,c⟩ L i d t.p w4 := by rw [HT.out]; exact hin'
   clear hin'
   have HK4 := hid hk4; have HIN := hid hin
   obtain ⟨e2,b2,hr4⟩ : ∃ e2 b2,RAt w4 R ⟨g,o,c⟩ L i (d + 1) e2 b2 := by
    unfold InTo at hin
    split at hin
    ·exact ⟨_,_,hin⟩
    ·exact ⟨_,_,hin⟩
   have HR4 := hid hr4
   obtain ⟨-,k1,-,-,-,kz,kl⟩ := hr4.cells
   have z1 := kz 1
   have hi1 : ¬ (9223372036854775807 : Int) < i + 1 := by have := HI.out; have := HLL.out; omega
   clear hk4 hin hr4 kz
   go_upto_region 8 with (fail)
   obtain ⟨w5,hw5⟩ : ∃ w5,w5 = w4.setCell ⟨R,1,none⟩ (.int .i64 ((i + 1 : Nat) : Int)) := ⟨_,rfl⟩
   have HV5 : Hid (RAt w5 R ⟨g,o,c⟩ L (i + 1) (d + 1) e2 b2) := hid (by rw [hw5]; exact HR4.out.set.1 (i + 1))
   have HK5 : Hid (Keeps (fun b => b ≠ R) w4 w5) := hid (by rw [hw5]; exact HR4.out.set.2.2.2.2 1 _)
   rw [show w4.setCell ⟨R,1,none⟩ (.int .i64 ((i : Int) + 1)) = w5 from hw5.symm]
   clear hw5 k1 kl z1 hi1
   have HN := hid (HNX.out (HKW.out _ HNB.out))
   have HKA : Hid (Keeps (fun b => b ≠ R) w w5) := hid ((HL2.out.keeps _).trans ((HL3.out.keeps _).trans (HK4.out.trans HK5.out)))
   have HCALL := hid (deep_call (F := 46) (args := #[.pointer (some ⟨R,0,none⟩)]) (P := Tryz.prog) (J := .un) HV5.out HR4.out HIN.out HN.out.2
    (fun hdd hr => HIF.out (i + 1) (d + 1) w5 HKA.out (by omega) hr HN.out.1 (by omega)) (fun he => rfirst_err R ⟨g,o,c⟩ L (i + 1) (d + 1) b2 e2 w5 HV5.out he HN.out.2))
   go_wp2_with fail
   refine HCALL.out.mono ?_
   rintro e w6 ⟨B,rfl,hk6,rs,j,e3,b3,hr6,hs,hm⟩
   have HK6 := hid hk6; have HR6 := hid hr6; have HS := hid hs; have HM := hid hm
   clear hk6 hr6 hs hm HCALL
   obtain ⟨-,-,k2,-,-,kz,kl⟩ := HR6.out.cells
   have z2 := kz 2
   have hd1 : ((d + 1 : Nat) : Int) - 1 = (d : Int) := by omega
   clear kz
   go_upto_region 10 with (fail)
   have HDW : Hid (wrap64 (d : Int) = (d : Int)) := hid (by have := HD.out; unfold wrap64; omega)
   simp only [HDW.out]
   obtain ⟨w7,hw7⟩ : ∃ w7,w7 = w6.setCell ⟨R,2,none⟩ (.int .i64 (d : Int)) := ⟨_,rfl⟩
   rw [← hw7]
   have HR7 : Hid (RAt w7 R ⟨g,o,c⟩ L j d e3 b3) := hid (by rw [hw7]; exact HR6.out.set.2.1 d)
   have HK7 : Hid (Keeps (fun b => b ≠ R) w6 w7) := hid (by rw [hw7]; exact HR6.out.set.2.2.2.2 2 _)
   have HTR : Hid (Tw2 ≠ R) := hid (by have := HTW.out; have := HR.out.cells.2.2.2.2.2.2; omega)
   have hT7 := HK7.out.obj HTR.out (HK6.out.obj HTR.out (HK5.out.obj HTR.out (HK4.out.obj HTR.out (HL3.out.obj HT2.out))))
   have m2 : w7.cell? ⟨Tw2,2,none⟩ = some (.int .i64 (t.p : Int)) := qac (i := 2) hT7 rfl
   have ml := qad m2
   clear hw7 k2 z2 kl hd1 hT7
   go_wp2_with fail
   refine bodyPost_ret (results_tmp rfl _ _ _) rfl ?_
   obtain ⟨w8,hw8⟩ : ∃ w8,w8 = (w7.alloc (.cells #[.pointer (some ⟨B,0,none⟩)] 26)).alloc (.cells #[.string ⟨#[109,105,110,117,115]⟩,.int .i64 (t.p : Int),.slice (some ⟨w7.heap.size,0,none⟩) 1 1,.int .i64 0,.int .i64 0,.string ⟨#[]⟩,.string ⟨#[]⟩] 77) := ⟨_,rfl⟩
   rw [← hw8]
   obtain ⟨hL8,o1,o2⟩ := objs2 hw8
   have hkb := HK6.out.trans (HK7.out.trans (hL8.keeps _))
   have hk := HKA.out.trans hkb
   have h8 := HR7.out.later hL8
   have g1 := HR.out.cells.2.2.2.2.2.2
   have g2 := (HKA.out.trans (HK6.out.trans HK7.out)).size
   have g3 := HKA.out.size
   have hs := HS.out
   clear hw8 m2 ml
   refine ⟨hk,?_⟩
   rw [HDROP.out]
   cases rs with
   | error f =>
     obtain ⟨h0,h1,h2,rfl,rfl⟩ := HM.out
     refine ⟨.error f,w7.heap.size + 1,rpar_minus HNB.out ?_,rfl,h0,j,by omega,h2,h8⟩
     by_cases hdd : 12 < d + 1
     ·rw [if_pos hdd] at hs ⊢; exact hs
     ·rw [if_neg hdd] at hs ⊢; exact ⟨_,hs,rfl⟩
   | ok y =>
     obtain ⟨rfl,rfl,hy,h1,h2,h3⟩ := HM.out
     refine ⟨.ok (.un true t.p y.1,y.2),w7.heap.size + 1,rpar_minus HNB.out ?_,rfl,?_,j,by omega,h2,h8,h3⟩
     ·by_cases hdd : 12 < d + 1
      ·rw [if_pos hdd] at hs; cases hs
      ·rw [if_neg hdd] at hs ⊢; exact ⟨_,hs,rfl⟩
     ·unfold EIn
      refine ⟨w7.heap.size + 1,_,.pointer (some ⟨B,0,none⟩),_,_,_,_,⟨by omega,by omega⟩,rfl,o2,kids1 ⟨by omega,by omega⟩ o1,?_⟩
      exact EIn.mono (fun b _ h => ⟨h.1,by have := h.2; omega⟩) _ _ (EIn.kept (HK7.out.trans (hL8.keeps _)) (fun _ h => h.1) _ _ hy)
 | false =>
   go_wp2_with fail
   refine (sign_any R ⟨g,o,c⟩ L i d 0 0 qbq w3 HR3.out hi).mono ?_
   rintro en w4 ⟨hen,hL4⟩
   obtain ⟨ob,hob⟩ : ∃ b,isW t qbq = b := ⟨_,rfl⟩
   replace hen : en = .returned (.bool ob) := by
    rw [hen,← hob,HT.out]
    simp
    rfl
   subst hen
   have HOB := hid hob
   have HL4 := hid hL4
   have HR4 := hid (HR3.out.later hL4)
   clear hL4 hob
   cases ob with
   | true =>
     go_wp2_with fail
     refine (rin_any R ⟨g,o,c⟩ L i d w4 HR4.out hi HD.out).mono ?_
     rintro e wa ⟨rfl,hka,hin'⟩
     have hin : InTo R ⟨g,o,c⟩ L i d t.p wa := by rw [HT.out]; exact hin'
     clear hin'
     have HKa := hid hka; have HIN := hid hin
     obtain ⟨e2,b2,hra⟩ : ∃ e2 b2,RAt wa R ⟨g,o,c⟩ L i (d + 1) e2 b2 := by
      unfold InTo at hin
      split at hin
      ·exact ⟨_,_,hin⟩
      ·exact ⟨_,_,hin⟩
     have HRa := hid hra
     obtain ⟨-,k1,-,-,-,kz,kl⟩ := hra.cells
     have z1 := kz 1
     have hi1 : ¬ (9223372036854775807 : Int) < i + 1 := by have := HI.out; have := HLL.out; omega
     clear hka hin hra kz
     go_upto_region 15 with (fail)
     obtain ⟨wb,hwb⟩ : ∃ wb,wb = wa.setCell ⟨R,1,none⟩ (.int .i64 ((i + 1 : Nat) : Int)) := ⟨_,rfl⟩
     have HRb : Hid (RAt wb R ⟨g,o,c⟩ L (i + 1) (d + 1) e2 b2) := hid (by rw [hwb]; exact HRa.out.set.1 (i + 1))
     have HKb : Hid (Keeps (fun b => b ≠ R) wa wb) := hid (by rw [hwb]; exact HRa.out.set.2.2.2.2 1 _)
     rw [show wa.setCell ⟨R,1,none⟩ (.int .i64 ((i : Int) + 1)) = wb from hwb.symm]
     clear hwb k1 kl z1 hi1
     have HN := hid (HNX.out (HKW.out _ HOB.out))
     have HKA : Hid (Keeps (fun b => b ≠ R) w wb) := hid ((HL2.out.keeps _).trans ((HL3.out.keeps _).trans ((HL4.out.keeps _).trans (HKa.out.trans HKb.out))))
     have HCALL := hid (deep_call (F := 22) (args := #[.pointer (some ⟨R,0,none⟩),.int .i64 ((0 : Nat) : Int)]) (P := Tryz.prog) (J := .climb 0) HRb.out HRa.out HIN.out HN.out.2
      (fun hdd hr => HIC.out 0 (i + 1) (d + 1) wb (by omega) HKA.out (by omega) hr HN.out.1 (by omega)) (fun he => rclimb_err R ⟨g,o,c⟩ L (i + 1) (d + 1) b2 e2 0 wb HRb.out he HN.out.2))
     go_wp2_with fail
     refine HCALL.out.mono ?_
     rintro e wc ⟨B,rfl,hkc,rs,j,e3,b3,hrc,hs,hm⟩
     have HKc := hid hkc; have HRc := hid hrc; have HS := hid hs; have HM := hid hm
     have HJ : Hid (j < L.length) := hid (by
      cases rs with
      | error f => exact hm.2.2.1
      | ok y =>
        rcases Nat.lt_or_ge j L.length with h | h
        ·exact h
        ·have h1 := hm.2.2.2.2.2.2.1
         rw [← hm.2.2.2.2.1,List.drop_eq_nil_of_le h] at h1
         exact absurd rfl h1)
     clear hkc hrc hs hm HCALL
     go_wp2_with fail
     refine (rclose_any R ⟨g,o,c⟩ L j (d + 1) b3 e3 wc HRc.out HJ.out HLL.out).mono ?_
     rintro e wd ⟨rfl,hkd,hcl⟩
     have HKd := hid hkd
     obtain ⟨rs2,j2,e4,b4,hrd,hs2,hm2⟩ := shut_of HM.out HS.out HJ.out hkd hcl
     have HRd := hid hrd; have HS2 := hid hs2; have HM2 := hid hm2
     clear hkd hcl hrd hs2 hm2
     obtain ⟨-,-,k2,-,-,kz,kl⟩ := HRd.out.cells
     have z2 := kz 2
     have hd1 : ((d + 1 : Nat) : Int) - 1 = (d : Int) := by omega
     clear kz
     have HDW : Hid (wrap64 (d : Int) = (d : Int)) := hid (by have := HD.out; unfold wrap64; omega)
     go_wp2_with fail
     try simp only [HDW.out]
     refine bodyPost_ret (results_tmp rfl _ _ _) rfl ?_
     have hk8 := HRd.out.set.2.2.2.2 2 (.int .i64 (d : Int))
     have h8 := HRd.out.set.2.1 d
     have hs := HS2.out
     have g3 := HKA.out.size
     refine ⟨HKA.out.trans (HKc.out.trans (HKd.out.trans hk8)),?_⟩
     rw [HDROP.out]
     cases rs2 with
     | error f =>
       obtain ⟨h0,h1,h2,rfl,rfl⟩ := HM2.out
       exact ⟨.error f,B,rpar_brackets HOB.out hs,rfl,h0,j2,by omega,h2,h8⟩
     | ok y =>
       obtain ⟨rfl,rfl,hy,h1,h2,h3⟩ := HM2.out
       exact ⟨.ok y,B,rpar_brackets HOB.out hs,rfl,EIn.kept hk8 (fun _ h => h.1) _ _ (EIn.mono (fun b _ h => ⟨h.1,Nat.le_trans g3 h.2⟩) _ _ hy),j2,by omega,h2,h8,h3⟩
   | false =>
     obtain ⟨-,k1,-,-,-,kz,kl⟩ := HR4.out.cells
     have z1 := kz 1
     have hi1 : ¬ (9223372036854775807 : Int) < i + 1 := by have := HI.out; have := HLL.out; omega
     clear kz
     go_upto_region 20 with (fail)
     obtain ⟨wa,hwa⟩ : ∃ wa,wa = w4.setCell ⟨R,1,none⟩ (.int .i64 ((i + 1 : Nat) : Int)) := ⟨_,rfl⟩
     have HRa : Hid (RAt wa R ⟨g,o,c⟩ L (i + 1) d 0 0) := hid (by rw [hwa]; exact HR4.out.set.1 (i + 1))
     have HKa : Hid (Keeps (fun b => b ≠ R) w4 wa) := hid (by rw [hwa]; exact HR4.out.set.2.2.2.2 1 _)
     rw [show w4.setCell ⟨R,1,none⟩ (.int .i64 ((i : Int) + 1)) = wa from hwa.symm]
     clear hwa k1 kl z1 hi1
     have HTR : Hid (Tw2 ≠ R) := hid (by have := HTW.out; have := HR.out.cells.2.2.2.2.2.2; omega)
     have hTa := HKa.out.obj HTR.out (HL4.out.obj (HL3.out.obj HT2.out))
     have HTa := hid hTa
     have m0 : wa.cell? ⟨Tw2,0,none⟩ = some (.int .u8 (t.d.k.toNat : Int)) := qac (i := 0) hTa rfl
     have m1 : wa.cell? ⟨Tw2,1,none⟩ = some (.string (qah t.t)) := qac (i := 1) hTa rfl
     have m2 : wa.cell? ⟨Tw2,2,none⟩ = some (.int .i64 (t.p : Int)) := qac (i := 2) hTa rfl
     have ml := qad m0
     clear hTa
     have HKA : Hid (Keeps (fun b => b ≠ R) w wa) := hid ((HL2.out.keeps _).trans ((HL3.out.keeps _).trans ((HL4.out.keeps _).trans HKa.out)))
     obtain ⟨b1,h1⟩ : ∃ b,decide (t.k = 48) = b := ⟨_,rfl⟩
     obtain ⟨b2,h2⟩ : ∃ b,decide (t.k = 39) = b := ⟨_,rfl⟩
     have e1 : ((t.d.k.toNat : Int) == 48) = b1 := (byte_d t 48 (by omega) (by decide) (by decide)).trans h1
     have e2 : ((t.d.k.toNat : Int) == 39) = b2 := (byte_d t 39 (by omega) (by decide) (by decide)).trans h2
     have HB1 := hid h1; have HB2 := hid h2
     clear h1 h2
     obtain ⟨R7,hR7⟩ : ∃ RR_ : (Nat → Value) → World → Prop,RR_ = (fun us wy => us 104 = .bool (b1 || b2) ∧ wy = wa) := ⟨_,rfl⟩
     have HR7 := hid hR7; clear hR7
     refine qau [ff,ff,ff,ff,ff,ff,ff,ff,ff,ff,ff,ff,ff,ff,ff,ff,ff,ff,ff,ff,ff,ff,ff,ff,ff,ff,ff,ff,ff,ff,ff,ff,ff,ff,ff,ff,ff,ff,ff,ff,ff,ff,ff,ff,ff,ff,ff,ff,ff,ff,ff,ff,ff,ff,ff,ff,ff,ff,ff,ff,ff,ff,ff,ff,ff,ff,ff,ff,ff,ff,ff,ff,ff,ff,ff,ff,ff,ff,ff,ff,ff,ff,ff,ff,ff,ff,ff,ff,ff,ff,ff,ff,ff,ff,ff,ff,ff,true,true,true,true,true,true,true,true] R7 _ HR7.out ?_ ?_
     ·cases b1 with
      | true =>
        go_wp2_with fail
        refine Meet.mk' HR7.out rfl ?_
        exact ⟨by simp [qas],rfl⟩
      | false =>
        go_wp2_with fail
        refine Meet.mk' HR7.out rfl ?_
        exact ⟨by simp [qas],rfl⟩
     intro us7 wy hrel
     obtain ⟨h104,hwy⟩ := hrel
     simp only [qao,Nat.reduceAdd,h104]
     have Hh104 := hid h104; clear h104
     subst hwy
     clear e1 e2
     cases hlit : (b1 || b2) with
     | true =>
       have HLIT : Hid (t.k = 48 ∨ t.k = 39) := hid (by
        rw [← HB1.out,← HB2.out] at hlit
        simpa using hlit)
       have HLN : Hid (t.t.length ≤ 1048576) := hid (HE.out.short t (by rw [HDROP.out]; exact List.mem_cons_self ..))
       obtain ⟨v,hv⟩ : ∃ v,qci t.t = v := ⟨_,rfl⟩
       have HV := hid hv
       have hv' : readR t.t = v := (read_same _).symm.trans hv
       have HV' := hid hv'
       clear hlit hv hv'
       go_wp2_with fail
       refine (rvread_any t.t wy (by have := HLN.out; omega)).mono ?_
       rintro e wb ⟨hLb,he⟩
       rw [HV'.out] at he
       subst he
       have HLb := hid hLb
       have HTb := hid (hLb.obj HTa.out)
       clear hLb
       cases v with
       | some x =>
         go_upto_region 24 with (fail)
         obtain ⟨wc,hwc⟩ : ∃ wc,wc = wb.alloc (.cells #[.int .i64 x.k,.int .i64 x.n,.string x.t] 38) := ⟨_,rfl⟩
         rw [← hwc]
         have hLc : qag wb wc := hwc ▸ qag.alloc _ _
         have hOc : wc.heap[wb.heap.size]? = some (.cells #[.int .i64 x.k,.int .i64 x.n,.string x.t] 38 (0,0)) := hwc ▸ qap _ _
         have HLc := hid hLc
         have hRc := HRa.out.later (qag.trans _ _ _ HLb.out hLc)
         have HRc := hid hRc
         have HOc := hid hOc
         have hTc := hLc.obj HTb.out
         have HTc := hid hTc
         have HN := hid (HNX.out (by rcases HLIT.out with h | h <;> rw [h] <;> decide))
         have n0 : wc.cell? ⟨wb.heap.size,0,none⟩ = some (.int .i64 x.k) := qac (i := 0) hOc rfl
         have n1 : wc.cell? ⟨wb.heap.size,1,none⟩ = some (.int .i64 x.n) := qac (i := 1) hOc rfl
         have n2 : wc.cell? ⟨wb.heap.size,2,none⟩ = some (.string x.t) := qac (i := 2) hOc rfl
         have nl := qad n0
         have q2 : wc.cell? ⟨Tw2,2,none⟩ = some (.int .i64 (t.p : Int)) := qac (i := 2) hTc rfl
         have ql := qad q2
         clear hwc hLc hOc hRc hTc m0 m1 m2 ml
         go_wp2_with fail
         refine bodyPost_ret (results_tmp rfl _ _ _) rfl ?_
         have g1 := HR.out.cells.2.2.2.2.2.2
         have g2 := HKA.out.size
         have g3 := HLb.out.size
         have g4 := HLc.out.size
         refine ⟨HKA.out.trans ((qag.alloc' (qag.trans _ _ _ HLb.out HLc.out) _).keeps _),.ok (.lit x,L.drop (i + 1)),wc.heap.size,?_,rfl,?_,i + 1,by omega,rfl,HRc.out.later (qag.alloc _ _),HN.out.1⟩
         ·rw [HDROP.out]; exact rpar_lit HLIT.out HV.out
         ·unfold EIn
          exact ⟨wc.heap.size,_,_,_,⟨by omega,by omega⟩,rfl,qap _ _⟩
       | none =>
         go_upto_region 23 with (fail)
         obtain ⟨wc,hwc⟩ : ∃ wc,wc = wb.alloc (.cells #[.int .i64 qaa.k,.int .i64 qaa.n,.string qaa.t] 38) := ⟨_,rfl⟩
         rw [← hwc]
         have hLc : qag wb wc := hwc ▸ qag.alloc _ _
         have hOc : wc.heap[wb.heap.size]? = some (.cells #[.int .i64 qaa.k,.int .i64 qaa.n,.string qaa.t] 38 (0,0)) := hwc ▸ qap _ _
         have HLc := hid hLc
         have hRc := HRa.out.later (qag.trans _ _ _ HLb.out hLc)
         have HRc := hid hRc
         have HOc := hid hOc
         have hTc := hLc.obj HTb.out
         have HTc := hid hTc
         have HN := hid (HNX.out (by rcases HLIT.out with h | h <;> rw [h] <;> decide))
         have q2 : wc.cell? ⟨Tw2,2,none⟩ = some (.int .i64 (t.p : Int)) := qac (i := 2) hTc rfl
         have ql := qad q2
         clear hwc hLc hOc hRc hTc m0 m1 m2 ml
         go_wp2_with fail
         refine (rfail_any R ⟨g,o,c⟩ L (i + 1) d 0 0 1 t.p wc HRc.out (by decide)).mono ?_
         rintro e wd ⟨rfl,hkd,hrd⟩
         rw [if_pos rfl] at hrd
         have HKd := hid hkd; have HRd := hid hrd
         have hTd := hkd.obj HTR.out HTc.out
         have hOd := hkd.obj (by show wb.heap.size ≠ R; have h1 := HRa.out.cells.2.2.2.2.2.2; have h2 := HLb.out.size; omega) HOc.out
         have n0 : wd.cell? ⟨wb.heap.size,0,none⟩ = some (.int .i64 qaa.k) := qac (i := 0) hOd rfl
         have n1 : wd.cell? ⟨wb.heap.size,1,none⟩ = some (.int .i64 qaa.n) := qac (i := 1) hOd rfl
         have n2 : wd.cell? ⟨wb.heap.size,2,none⟩ = some (.string qaa.t) := qac (i := 2) hOd rfl
         have nl := qad n0
         have r2 : wd.cell? ⟨Tw2,2,none⟩ = some (.int .i64 (t.p : Int)) := qac (i := 2) hTd rfl
         have rl := qad r2
         clear hkd hrd hTd hOd q2 ql
         go_wp2_with fail
         refine bodyPost_ret (results_tmp rfl _ _ _) rfl ?_
         refine ⟨HKA.out.trans ((qag.trans _ _ _ HLb.out HLc.out).keeps _ |>.trans (HKd.out.alloc _)),.error (1,t.p),wd.heap.size,?_,rfl,(by decide : (1 : Int) ≠ 0),i + 1,by omega,HN.out.2,HRd.out.later (qag.alloc _ _)⟩
         rw [HDROP.out]; exact rpar_lit_bad HLIT.out HV.out
     | false =>
       have HLIT : Hid (¬ (t.k = 48 ∨ t.k = 39)) := hid (by
        rw [← HB1.out,← HB2.out] at hlit
        simpa using hlit)
       clear hlit
       obtain ⟨b3,h3⟩ : ∃ b,decide (t.k = 110) = b := ⟨_,rfl⟩
       obtain ⟨b4,h4⟩ : ∃ b,decide (t.t = qed) = b := ⟨_,rfl⟩
       obtain ⟨b5,h5⟩ : ∃ b,decide (t.t = qdd) = b := ⟨_,rfl⟩
       have e3 : ((t.d.k.toNat : Int) == 110) = b3 := (byte_d t 110 (by omega) (by decide) (by decide)).trans h3
       have e4 : ((qah t.t).toList == [116,114,117,101]) = b4 := by rw [qan,← h4,Bool.eq_iff_iff]; simp
       have e5 : ((qah t.t).toList == [102,97,108,115,101]) = b5 := by rw [qan,← h5,Bool.eq_iff_iff]; simp
       have HB3 := hid h3; have HB4 := hid h4; have HB5 := hid h5
       clear h3 h4 h5
       go_upto_region 25 with (fail)
       obtain ⟨R8,hR8⟩ : ∃ RR_ : (Nat → Value) → World → Prop,RR_ = (fun us wx => us 134 = .bool (b3 && (b4 || b5)) ∧ wx = wy) := ⟨_,rfl⟩
       have HR8 := hid hR8; clear hR8
       refine qau [ff,ff,ff,ff,ff,ff,ff,ff,ff,ff,ff,ff,ff,ff,ff,ff,ff,ff,ff,ff,ff,ff,ff,ff,ff,ff,ff,ff,ff,ff,ff,ff,ff,ff,ff,ff,ff,ff,ff,ff,ff,ff,ff,ff,ff,ff,ff,ff,ff,ff,ff,ff,ff,ff,ff,ff,ff,ff,ff,ff,ff,ff,ff,ff,ff,ff,ff,ff,ff,ff,ff,ff,ff,ff,ff,ff,ff,ff,ff,ff,ff,ff,ff,ff,ff,ff,ff,ff,ff,ff,ff,ff,ff,ff,ff,ff,ff,ff,ff,ff,ff,ff,ff,ff,ff,ff,ff,ff,ff,ff,ff,ff,ff,ff,ff,ff,ff,ff,ff,ff,ff,ff,true,true,true,true,true,true,true,true,true,true,true,true,true] R8 _ HR8.out ?_ ?_
       ·cases b3 with
        | true =>
          cases b4 with
          | true =>
            go_wp2_with fail
            refine Meet.mk' HR8.out rfl ?_
            exact ⟨by simp [qas],rfl⟩
          | false =>
            go_wp2_with fail
            refine Meet.mk' HR8.out rfl ?_
            exact ⟨by simp [qas],rfl⟩
        | false =>
          go_wp2_with fail
          refine Meet.mk' HR8.out rfl ?_
          exact ⟨by simp [qas],rfl⟩
       intro us8 wx hrel
       obtain ⟨h134,hwx⟩ := hrel
       simp only [qao,Nat.reduceAdd,h134]
       have Hh134 := hid h134; clear h134
       subst hwx
       clear e3 e4 e5
       cases hbool : (b3 && (b4 || b5)) with
       | true =>
         have HBL : Hid (t.k = 110 ∧ (t.t = qed ∨ t.t = qdd)) := hid (by
          rw [← HB3.out,← HB4.out,← HB5.out] at hbool
          simpa using hbool)
         have HLN : Hid (t.t.length ≤ 1048576) := hid (HE.out.short t (by rw [HDROP.out]; exact List.mem_cons_self ..))
         have HV' : Hid (readR t.t = some ⟨2,if t.t = qed then 1 else 0,⟨#[]⟩⟩) := hid (by
          rw [← read_same]
          rcases HBL.out.2 with h | h <;> rw [h] <;> first | rfl | kernel_rfl | decide +kernel)
         obtain ⟨x,hx⟩ : ∃ x : Val,x = ⟨2,if t.t = qed then 1 else 0,⟨#[]⟩⟩ := ⟨_,rfl⟩
         have HX := hid hx
         have HXV : Hid (readR t.t = some x) := hid (by rw [hx]; exact HV'.out)
         have HN := hid (HNX.out (by rw [HBL.out.1]; decide))
         clear hbool hx
         go_wp2_with fail
         refine (rvread_any t.t wx (by have := HLN.out; omega)).mono ?_
         rintro e wb ⟨hLb,he⟩
         rw [HXV.out] at he
         subst he
         have HLb := hid hLb
         have HTb := hid (hLb.obj HTa.out)
         clear hLb
         go_upto_region 27 with (fail)
         obtain ⟨wc,hwc⟩ : ∃ wc,wc = wb.alloc (.cells #[.int .i64 x.k,.int .i64 x.n,.string x.t] 38) := ⟨_,rfl⟩
         rw [← hwc]
         have hLc : qag wb wc := hwc ▸ qag.alloc _ _
         have hOc : wc.heap[wb.heap.size]? = some (.cells #[.int .i64 x.k,.int .i64 x.n,.string x.t] 38 (0,0)) := hwc ▸ qap _ _
         have HLc := hid hLc
         have HRc := hid (HRa.out.later (qag.trans _ _ _ HLb.out hLc))
         have hTc := hLc.obj HTb.out
         have n0 : wc.cell? ⟨wb.heap.size,0,none⟩ = some (.int .i64 x.k) := qac (i := 0) hOc rfl
         have n1 : wc.cell? ⟨wb.heap.size,1,none⟩ = some (.int .i64 x.n) := qac (i := 1) hOc rfl
         have n2 : wc.cell? ⟨wb.heap.size,2,none⟩ = some (.string x.t) := qac (i := 2) hOc rfl
         have nl := qad n0
         have q2 : wc.cell? ⟨Tw2,2,none⟩ = some (.int .i64 (t.p : Int)) := qac (i := 2) hTc rfl
         have ql := qad q2
         clear hwc hLc hOc hTc m0 m1 m2 ml
         go_wp2_with fail
         refine bodyPost_ret (results_tmp rfl _ _ _) rfl ?_
         have g1 := HR.out.cells.2.2.2.2.2.2
         have g2 := HKA.out.size
         have g3 := HLb.out.size
         have g4 := HLc.out.size
         refine ⟨HKA.out.trans ((qag.alloc' (qag.trans _ _ _ HLb.out HLc.out) _).keeps _),.ok (.lit x,L.drop (i + 1)),wc.heap.size,?_,rfl,?_,i + 1,by omega,rfl,HRc.out.later (qag.alloc _ _),HN.out.1⟩
         ·rw [HDROP.out,HX.out]; exact rpar_bool HLIT.out HBL.out.2
         ·unfold EIn
          exact ⟨wc.heap.size,_,_,_,⟨by omega,by omega⟩,rfl,qap _ _⟩
       | false =>
         have HNBL : Hid (¬ (t.k = 110 ∧ (t.t = qed ∨ t.t = qdd))) := hid (by
          rw [← HB3.out,← HB4.out,← HB5.out] at hbool
          simpa using hbool)
         clear hbool
         obtain ⟨bw,hbw⟩ : ∃ b,decide (t.t ∈ qes) = b := ⟨_,rfl⟩
         have HBW := hid hbw
         go_wp2_with fail
         refine (word_any t.t wx).mono ?_
         rintro e wb ⟨he,hwb⟩
         subst wb
         rw [hbw] at he
         subst he
         clear hbw
         have e3 : ((t.d.k.toNat : Int) != 110) = !b3 := congrArg (fun b => !b) ((byte_d t 110 (by omega) (by decide) (by decide)).trans HB3.out)
         go_upto_region 29 with (fail)
         obtain ⟨R9,hR9⟩ : ∃ RR_ : (Nat → Value) → World → Prop,RR_ = (fun us wz => us 154 = .bool (!b3 || bw) ∧ wz = wx) := ⟨_,rfl⟩
         have HR9 := hid hR9; clear hR9
         refine qau [ff,ff,ff,ff,ff,ff,ff,ff,ff,ff,ff,ff,ff,ff,ff,ff,ff,ff,ff,ff,ff,ff,ff,ff,ff,ff,ff,ff,ff,ff,ff,ff,ff,ff,ff,ff,ff,ff,ff,ff,ff,ff,ff,ff,ff,ff,ff,ff,ff,ff,ff,ff,ff,ff,ff,ff,ff,ff,ff,ff,ff,ff,ff,ff,ff,ff,ff,ff,ff,ff,ff,ff,ff,ff,ff,ff,ff,ff,ff,ff,ff,ff,ff,ff,ff,ff,ff,ff,ff,ff,ff,ff,ff,ff,ff,ff,ff,ff,ff,ff,ff,ff,ff,ff,ff,ff,ff,ff,ff,ff,ff,ff,ff,ff,ff,ff,ff,ff,ff,ff,ff,ff,ff,ff,ff,ff,ff,ff,ff,ff,ff,ff,ff,ff,ff,ff,ff,ff,ff,ff,ff,ff,ff,ff,ff,ff,ff,ff,ff,true,true,true,true,true,true] R9 _ HR9.out ?_ ?_
         ·cases b3 with
          | true =>
            go_wp2_with fail
            refine Meet.mk' HR9.out rfl ?_
            exact ⟨by simp [qas],rfl⟩
          | false =>
            go_wp2_with fail
            refine Meet.mk' HR9.out rfl ?_
            exact ⟨by simp [qas],rfl⟩
         intro us9 wz hrel
         obtain ⟨h154,hwz⟩ := hrel
         simp only [qao,Nat.reduceAdd,h154]
         have Hh154 := hid h154; clear h154
         subst hwz
         clear e3
         cases hno : (!b3 || bw) with
         | true =>
           have HNONE : Hid (¬ IsName t) := hid (fun hn => by
            unfold IsName at hn
            rw [← HB3.out,← HBW.out] at hno
            simp [hn.1,hn.2] at hno)
           have HT4 : Hid (¬ (t.t = qed ∨ t.t = qdd)) := hid (fun h => by
            rcases HTK.out.1 with ⟨_,h2⟩ | ⟨h1,_⟩ | ⟨h1,_⟩ | ⟨h1,_⟩ | ⟨_,h2⟩
            ·rcases h with h | h <;> rw [h] at h2 <;> cases h2
            ·exact HNBL.out ⟨h1,h⟩
            ·exact HLIT.out (.inl h1)
            ·exact HLIT.out (.inr h1)
            ·rcases h with h | h <;> rw [h] at h2 <;> exact absurd h2 (by decide))
           obtain ⟨-,k1,-,-,-,kz,kl⟩ := HRa.out.cells
           have z1 := kz 1
           have hi1 : ((i + 1 : Nat) : Int) - 1 = (i : Int) := by omega
           have HIW : Hid (wrap64 (i : Int) = (i : Int)) := hid (by have := HI.out; have := HLL.out; unfold wrap64; omega)
           clear kz hno
           go_upto_region 31 with (fail)
           try simp only [HIW.out]
           obtain ⟨wc,hwc⟩ : ∃ wc,wc = wz.setCell ⟨R,1,none⟩ (.int .i64 (i : Int)) := ⟨_,rfl⟩
           rw [← hwc]
           have HRc : Hid (RAt wc R ⟨g,o,c⟩ L i d 0 0) := hid (by rw [hwc]; exact HRa.out.set.1 i)
           have HKc : Hid (Keeps (fun b => b ≠ R) wz wc) := hid (by rw [hwc]; exact HRa.out.set.2.2.2.2 1 _)
           have hTc := HKc.out.obj HTR.out HTa.out
           have q2 : wc.cell? ⟨Tw2,2,none⟩ = some (.int .i64 (t.p : Int)) := qac (i := 2) hTc rfl
           have ql := qad q2
           clear hwc k1 z1 kl hi1 hTc m0 m1 m2 ml
           go_wp2_with fail
           refine (rfail_any R ⟨g,o,c⟩ L i d 0 0 1 t.p wc HRc.out (by decide)).mono ?_
           rintro e wd ⟨rfl,hkd,hrd⟩
           rw [if_pos rfl] at hrd
           have HKd := hid hkd; have HRd := hid hrd
           clear hkd hrd q2 ql
           go_wp2_with fail
           refine bodyPost_ret (results_tmp rfl _ _ _) rfl ?_
           refine ⟨HKA.out.trans (HKc.out.trans (HKd.out.alloc _)),.error (1,t.p),wd.heap.size,?_,rfl,(by decide : (1 : Int) ≠ 0),i,Nat.le_refl _,HI.out,HRd.out.later (qag.alloc _ _)⟩
           rw [HDROP.out]
           exact rpar_none HNB.out HOB.out HLIT.out HT4.out HNONE.out
         | false =>
           have HNM : Hid (IsName t) := hid (by
            rw [← HB3.out,← HBW.out] at hno
            unfold IsName
            simpa using hno)
           have HN := hid (HNX.out (by rw [HNM.out.1]; decide))
           have hsz : (qah t.t).size = t.t.length := qax _
           clear hno
           by_cases hlong : 12 < t.t.length
           ·have HLG := hid hlong
            have hl' : (12 : Int) < (qah t.t).size := by omega
            clear hlong hsz
            go_wp2_with fail
            refine (rfail_any R ⟨g,o,c⟩ L (i + 1) d 0 0 4 t.p wz HRa.out (by decide)).mono ?_
            rintro e wd ⟨rfl,hkd,hrd⟩
            rw [if_pos rfl] at hrd
            have HKd := hid hkd; have HRd := hid hrd
            clear hkd hrd m0 m1 m2 ml
            go_wp2_with fail
            refine bodyPost_ret (results_tmp rfl _ _ _) rfl ?_
            refine ⟨HKA.out.trans (HKd.out.alloc _),.error (4,t.p),wd.heap.size,?_,rfl,(by decide : (4 : Int) ≠ 0),i + 1,by omega,HN.out.2,HRd.out.later (qag.alloc _ _)⟩
            rw [HDROP.out]
            exact rpar_long HNM.out HTK.out.1 HLG.out
           ·have HLG := hid hlong
            have hl' : ¬ (12 : Int) < (qah t.t).size := by omega
            clear hlong hsz
            obtain ⟨u,hu⟩ : ∃ u,u = L[i + 1]'HN.out.2 := ⟨_,rfl⟩
            have HU := hid hu
            have HDROP2 : Hid (L.drop (i + 1) = u :: L.drop (i + 2)) := hid (by rw [List.drop_eq_getElem_cons HN.out.2,hu])
            have HUK : Hid (TokOk u ∧ (u.k ≠ 0 → EndL (L.drop (i + 2)))) := hid (by
             obtain ⟨t',r',e,h1,h2⟩ := HN.out.1.cons
             rw [HDROP2.out] at e
             obtain ⟨rfl,rfl⟩ := List.cons.inj e
             exact ⟨h1,h2⟩)
            obtain ⟨qb,hqb⟩ : ∃ b,isW u qbq = b := ⟨_,rfl⟩
            have HQB := hid hqb
            clear hu
            go_wp2_with fail
            refine (sign_any R ⟨g,o,c⟩ L (i + 1) d 0 0 qbq wz HRa.out HN.out.2).mono ?_
            rintro en wb ⟨hen,hLb⟩
            replace hen : en = .returned (.bool qb) := by
             rw [hen,← hqb,HU.out]
             simp <;> rfl
            subst hen
            have HLb := hid hLb
            have HRb := hid (HRa.out.later hLb)
            have hTb := hLb.obj HTa.out
            have HTb := hid hTb
            have q1 : wb.cell? ⟨Tw2,1,none⟩ = some (.string (qah t.t)) := qac (i := 1) hTb rfl
            have q2 : wb.cell? ⟨Tw2,2,none⟩ = some (.int .i64 (t.p : Int)) := qac (i := 2) hTb rfl
            have ql := qad q2
            clear hLb hqb hTb m0 m1 m2 ml
            cases qb with
            | false =>
              go_wp2_with fail
              refine bodyPost_ret (results_tmp rfl _ _ _) rfl ?_
              refine ⟨HKA.out.trans ((HLb.out.alloc' _).keeps _),.ok (.name t.t t.p,L.drop (i + 1)),wb.heap.size,?_,rfl,?_,i + 1,by omega,rfl,HRb.out.later (qag.alloc _ _),HN.out.1⟩
              ·rw [HDROP.out]
               exact rpar_name HNM.out HTK.out.1 HLG.out (by rw [HDROP2.out]; exact HQB.out)
              ·have g1 := HR.out.cells.2.2.2.2.2.2
               have g2 := HKA.out.size
               have g3 := HLb.out.size
               unfold EIn
               exact ⟨wb.heap.size,_,_,_,_,⟨by omega,by omega⟩,rfl,qap _ _⟩
            | true =>
              have HN2 : Hid (EndL (L.drop (i + 2)) ∧ i + 2 < L.length) := hid (by
               have he := HUK.out.2 (HKW'.out u HQB.out)
               refine ⟨he,?_⟩
               rcases Nat.lt_or_ge (i + 2) L.length with h | h
               ·exact h
               ·exact absurd (List.drop_eq_nil_of_le h) he.2.1)
              clear q1 q2 ql
              go_wp2_with fail
              refine (rin_any R ⟨g,o,c⟩ L (i + 1) d wb HRb.out HN.out.2 HD.out).mono ?_
              rintro e wc ⟨rfl,hkc,hin'⟩
              have hin : InTo R ⟨g,o,c⟩ L (i + 1) d u.p wc := by rw [HU.out]; exact hin'
              clear hin'
              have HKc := hid hkc; have HIN := hid hin
              obtain ⟨e2,b2,hrc⟩ : ∃ e2 b2,RAt wc R ⟨g,o,c⟩ L (i + 1) (d + 1) e2 b2 := by
               unfold InTo at hin
               split at hin
               ·exact ⟨_,_,hin⟩
               ·exact ⟨_,_,hin⟩
              have HRc := hid hrc
              obtain ⟨-,k1,-,-,-,kz,kl⟩ := hrc.cells
              have z1 := kz 1
              have hi1 : ¬ (9223372036854775807 : Int) < ((i + 1 : Nat) : Int) + 1 := by have := HI.out; have := HLL.out; omega
              clear hkc hin hrc kz
              go_upto_region 41 with (fail)
              obtain ⟨wd,hwd⟩ : ∃ wd,wd = wc.setCell ⟨R,1,none⟩ (.int .i64 ((i + 2 : Nat) : Int)) := ⟨_,rfl⟩
              have HRd : Hid (RAt wd R ⟨g,o,c⟩ L (i + 2) (d + 1) e2 b2) := hid (by rw [hwd]; exact HRc.out.set.1 (i + 2))
              have HKd : Hid (Keeps (fun b => b ≠ R) wc wd) := hid (by rw [hwd]; exact HRc.out.set.2.2.2.2 1 _)
              rw [show wc.setCell ⟨R,1,none⟩ (.int .i64 ((i : Int) + 1 + 1)) = wd from hwd.symm]
              have hTd := HKd.out.obj HTR.out (HKc.out.obj HTR.out HTb.out)
              have r1 : wd.cell? ⟨Tw2,1,none⟩ = some (.string (qah t.t)) := qac (i := 1) hTd rfl
              have r2 : wd.cell? ⟨Tw2,2,none⟩ = some (.int .i64 (t.p : Int)) := qac (i := 2) hTd rfl
              have rl := qad r2
              clear hwd k1 kl z1 hi1 hTd
              go_wp2_with fail
              obtain ⟨C,hC⟩ : ∃ C,C = wd.heap.size := ⟨_,rfl⟩
              obtain ⟨we,hwe⟩ : ∃ we,we = wd.alloc (.cells #[.string ⟨#[99,97,108,108]⟩,.int .i64 (t.p : Int),.slice none 0 0,.int .i64 0,.int .i64 0,.string ⟨#[]⟩,.string (qah t.t)] 77) := ⟨_,rfl⟩
              have hCe : we.heap[C]? = some (callO t.t t.p (.slice none 0 0)) := by rw [hwe,hC]; exact qap _ _
              have hLe : qag wd we := hwe ▸ qag.alloc _ _
              rw [← hwe,← hC]
              have HKA2 : Hid (Keeps (fun b => b ≠ R) w wd) := hid (HKA.out.trans ((HLb.out.keeps _).trans (HKc.out.trans HKd.out)))
              have HCW : Hid (w.heap.size ≤ C ∧ R < w.heap.size) := hid ⟨by rw [hC]; exact HKA2.out.size,HR.out.cells.2.2.2.2.2.2⟩
              have HREL : Hid (RCallRel w R ⟨g,o,c⟩ L i d C t.t t.p we) := hid (by
               refine ⟨HKA2.out.trans (hLe.keeps _),?_⟩
               have hin := HIN.out
               unfold InTo at hin
               by_cases hdd : 12 < d + 1
               ·rw [if_pos hdd] at hin
                have hcell := (hin.cells.2.2.2.1).symm.trans HRc.out.cells.2.2.2.1
                have hcell' := (hin.cells.2.2.2.2.1).symm.trans HRc.out.cells.2.2.2.2.1
                simp only [Option.some.injEq,Value.int.injEq,true_and] at hcell hcell'
                refine .inr ⟨e2,b2,i + 2,HRd.out.later hLe,by omega,by omega,HN2.out.2,?_⟩
                rw [HDROP.out,HDROP2.out]
                refine rpar_callq HNM.out HTK.out.1 HLG.out HQB.out ?_
                rw [if_pos hdd,← hcell,show b2 = u.p by omega]
               ·rw [if_neg hdd] at hin
                have hcell := (hin.cells.2.2.2.1).symm.trans HRc.out.cells.2.2.2.1
                have hcell' := (hin.cells.2.2.2.2.1).symm.trans HRc.out.cells.2.2.2.2.1
                simp only [Option.some.injEq,Value.int.injEq,true_and] at hcell hcell'
                have he2 : e2 = 0 := hcell.symm
                have hb2 : b2 = 0 := by omega
                have h := HRd.out.later hLe
                rw [he2,hb2] at h
                refine .inl ⟨[],[],.slice none 0 0,i + 2,hCe,World.ownsRow_nil _ _ _ _,by unfold EsIn; trivial,h,HN2.out.1,by omega,by simp,by omega,fun s hs => ?_⟩
                rw [HDROP.out,HDROP2.out]
                refine rpar_callq HNM.out HTK.out.1 HLG.out HQB.out ?_
                rw [if_neg hdd]
                exact hs)
              clear hwe hC hCe hLe r1 r2 rl
              obtain ⟨R5,hR5⟩ : ∃ RR_ : (Nat → Value) → World → Prop,RR_ = (fun us wq => RCallEnd w R ⟨g,o,c⟩ L i d C wq) := ⟨_,rfl⟩
              have HR5 := hid hR5; clear hR5
              refine wp_block_frame' [ff,ff,ff,ff,ff,ff,ff,ff,ff,ff,ff,ff,ff,ff,true,true,true,ff,ff,ff,ff,ff,ff,ff,ff,ff,ff,ff,ff,ff,ff,ff,ff,ff,ff,ff,ff,ff,ff,ff,ff,ff,ff,ff,ff,ff,ff,ff,ff,ff,ff,ff,ff,ff,ff,ff,ff,ff,ff,ff,ff,ff,ff,ff,ff,ff,ff,ff,ff,ff,ff,ff,ff,ff,ff,ff,ff,ff,ff,ff,ff,ff,ff,ff,ff,ff,ff,ff,ff,ff,ff,ff,ff,ff,ff,ff,ff,ff,ff,ff,ff,ff,ff,ff,ff,ff,ff,ff,ff,ff,ff,ff,ff,ff,ff,ff,ff,ff,ff,ff,ff,ff,ff,ff,ff,ff,ff,ff,ff,ff,ff,ff,ff,ff,ff,ff,ff,ff,ff,ff,ff,ff,ff,ff,ff,ff,ff,ff,ff,ff,ff,ff,ff,ff,ff,ff,ff,ff,ff,ff,ff,ff,ff,ff,ff,ff,ff,ff,ff,ff,ff,ff,ff,ff,ff,ff,ff,ff,ff,ff,ff,ff,ff,ff,ff,ff,ff,ff,ff,ff,ff,ff,ff,ff,ff,ff,ff,ff,ff,ff,ff,ff,ff,ff,ff,true,true,true,true,true,true,true,true,true,true,true,true,true,true,true,true,true,true,true,true,true,true,true,true,true,true,true,true,true,true,true,true,true,true,true,true,true,true,true,true,true,true,true,true,true,true,true,true,true,true,true] R5 _ HR5.out ?_ ?_
              ·
               obtain ⟨R1,hR1⟩ : ∃ RR_ : (Nat → Value) → World → Prop,RR_ = (fun us wq => RCallRel w R ⟨g,o,c⟩ L i d C t.t t.p wq) := ⟨_,rfl⟩
               obtain ⟨mu1,hmu1⟩ : ∃ mu : (Nat → Value) → World → Nat,mu = (fun _ wq => 2 * (L.length - placeOf wq R) + errOf wq R) := ⟨_,rfl⟩
               have HR1 := hid hR1; have Hmu1 := hid hmu1; clear hR1 hmu1
               refine qal [ff,ff,ff,ff,ff,ff,ff,ff,ff,ff,ff,ff,ff,ff,true,true,true,ff,ff,ff,ff,ff,ff,ff,ff,ff,ff,ff,ff,ff,ff,ff,ff,ff,ff,ff,ff,ff,ff,ff,ff,ff,ff,ff,ff,ff,ff,ff,ff,ff,ff,ff,ff,ff,ff,ff,ff,ff,ff,ff,ff,ff,ff,ff,ff,ff,ff,ff,ff,ff,ff,ff,ff,ff,ff,ff,ff,ff,ff,ff,ff,ff,ff,ff,ff,ff,ff,ff,ff,ff,ff,ff,ff,ff,ff,ff,ff,ff,ff,ff,ff,ff,ff,ff,ff,ff,ff,ff,ff,ff,ff,ff,ff,ff,ff,ff,ff,ff,ff,ff,ff,ff,ff,ff,ff,ff,ff,ff,ff,ff,ff,ff,ff,ff,ff,ff,ff,ff,ff,ff,ff,ff,ff,ff,ff,ff,ff,ff,ff,ff,ff,ff,ff,ff,ff,ff,ff,ff,ff,ff,ff,ff,ff,ff,ff,ff,ff,ff,ff,ff,ff,ff,ff,ff,ff,ff,ff,ff,ff,ff,ff,ff,ff,ff,ff,ff,ff,ff,ff,ff,ff,ff,ff,ff,ff,ff,ff,ff,ff,ff,ff,ff,ff,ff,ff,true,true,true,true,true,true,true,true,true,true,true,true,true,true,true,true,true,true,true,true,true,true,true,true,true,true,true,true,true,true,true,true,true,true,true,true,true,true,true,true,true,true,true,true,true,true,true,true,true,true,true] R1 _ mu1 HR1.out ?_ ?_
               ·exact HREL.out
               clear HREL
               intro us1 wl hrel
               obtain ⟨hky,hrel⟩ := hrel
               simp only [qao,Nat.reduceAdd]
               rcases hrel with ⟨acc,us,a,j,hC,hown,hes,hr,he,hij,hul,hd1,hpar⟩ | ⟨ce,q,j,hr,hc0,hij,hjl,hp⟩
               ·have hjl : j < L.length := by
                 rcases Nat.lt_or_ge j L.length with h | h
                 ·exact h
                 ·exact absurd (List.drop_eq_nil_of_le h) he.2.1
                obtain ⟨v,hv⟩ : ∃ v,v = L[j] := ⟨_,rfl⟩
                have HDV : Hid (L.drop j = v :: L.drop (j + 1)) := hid (by rw [List.drop_eq_getElem_cons hjl,hv])
                have HVK : Hid (TokOk v ∧ (v.k ≠ 0 → EndL (L.drop (j + 1)))) := hid (by
                 obtain ⟨t',r',e,h1,h2⟩ := he.cons
                 rw [HDV.out] at e
                 obtain ⟨rfl,rfl⟩ := List.cons.inj e
                 exact ⟨h1,h2⟩)
                obtain ⟨ao,cap,ha⟩ : ∃ ao cap,a = .slice ao us.length cap := by
                 rcases hown.2 with ⟨hv,h0⟩ | ⟨g,cap,cur,hv,_⟩
                 ·exact ⟨none,0,by rw [hv,h0]⟩
                 ·exact ⟨_,_,hv⟩
                subst ha
                have HKL := hid hky; have HCL := hid hC; have HOL := hid hown; have HESL := hid hes; have HRL := hid hr; have HEL := hid he; have HIJ := hid (And.intro hij hjl); have HUL := hid hul; have HD1 := hid hd1; have HPL := hid hpar; have HV := hid hv
                have k3 := hr.cells.2.2.2.1
                have kl := hr.cells.2.2.2.2.2.2
                have h00 : ((0 : Int) == 0) = true := rfl
                clear hky hC hown hes hr he hij hul hd1 hpar hv
                go_wp2_with fail
                refine (sign_any R ⟨g,o,c⟩ L j (d + 1) 0 0 qbl wl HRL.out HIJ.out.2).mono ?_
                rintro en w3 ⟨hen,hL3⟩
                obtain ⟨cb,hcb⟩ : ∃ b,isW v qbl = b := ⟨_,rfl⟩
                replace hen : en = .returned (.bool cb) := by
                 rw [hen,← hcb,HV.out]
                 simp <;> rfl
                subst hen
                have HCB := hid hcb
                have HL3 := hid hL3
                have HR3 := hid (HRL.out.later hL3)
                have HC3 := hid (hL3.obj HCL.out)
                have HO3 := hid (own_keeps HOL.out (hL3.keeps fun _ => True) fun _ _ => trivial)
                have HES3 := hid (EsIn.kept (hL3.keeps (fun _ => True)) (fun _ _ => trivial) _ _ HESL.out)
                have HK3 := hid (HKL.out.trans (hL3.keeps _))
                clear hcb hL3 k3 kl h00
                cases cb with
                | true =>
                  go_wp2_with fail
                  refine Meet.mk' HR5.out rfl ?_
                  have hek := HVK.out.2 (fun hk => by
                   have h := HCB.out
                   unfold isW at h
                   rw [hk] at h
                   simp at h)
                  exact ⟨HK3.out,j,0,0,HR3.out,HIJ.out.1,HIJ.out.2,.inl ⟨rfl,rfl,by rw [HDV.out]; exact HCB.out,.call t.t t.p acc,rcall_tree HCW.out.2 HCW.out.1 HO3.out HC3.out HES3.out,HPL.out _ (by rw [HDV.out]; exact rpar_args_close HCB.out),hek⟩⟩
                | false =>
                  have c2 : w3.cell? ⟨C,2,none⟩ = some (.slice ao us.length cap) := qac (i := 2) HC3.out rfl
                  have hlc := qad c2
                  have HVL := hid (es_len HESL.out)
                  go_upto_if 218 with (fail)
                  obtain ⟨R2,hR2⟩ : ∃ RR_ : (Nat → Value) → World → Prop,RR_ = (fun us wq => Keeps (fun b => b ≠ R) w3 wq ∧ RAt wq R ⟨g,o,c⟩ L (if acc = [] then j else j + 1) (d + 1) 0 0 ∧ (acc = [] ∨ isW v qdz = true)) := ⟨_,rfl⟩
                  have HR2 := hid hR2; clear hR2
                  refine qau [ff,ff,ff,ff,ff,ff,ff,ff,ff,ff,ff,ff,ff,ff,ff,true,ff,ff,ff,ff,ff,ff,ff,ff,ff,ff,ff,ff,ff,ff,ff,ff,ff,ff,ff,ff,ff,ff,ff,ff,ff,ff,ff,ff,ff,ff,ff,ff,ff,ff,ff,ff,ff,ff,ff,ff,ff,ff,ff,ff,ff,ff,ff,ff,ff,ff,ff,ff,ff,ff,ff,ff,ff,ff,ff,ff,ff,ff,ff,ff,ff,ff,ff,ff,ff,ff,ff,ff,ff,ff,ff,ff,ff,ff,ff,ff,ff,ff,ff,ff,ff,ff,ff,ff,ff,ff,ff,ff,ff,ff,ff,ff,ff,ff,ff,ff,ff,ff,ff,ff,ff,ff,ff,ff,ff,ff,ff,ff,ff,ff,ff,ff,ff,ff,ff,ff,ff,ff,ff,ff,ff,ff,ff,ff,ff,ff,ff,ff,ff,ff,ff,ff,ff,ff,ff,ff,ff,ff,ff,ff,ff,ff,ff,ff,ff,ff,ff,ff,ff,ff,ff,ff,ff,ff,ff,ff,ff,ff,ff,ff,ff,ff,ff,ff,ff,ff,ff,ff,ff,ff,ff,ff,ff,ff,ff,ff,ff,ff,ff,ff,ff,ff,ff,ff,ff,ff,ff,ff,ff,ff,ff,ff,ff,ff,ff,ff,ff,ff,true,true,true,true,true,true,true,true,true,true,true,true,true,true,true,true,true,true,true,true,true,true,true,true,true,true] R2 _ HR2.out ?_ ?_
                  ·by_cases h0 : acc = []
                   ·have hv0 : us.length = 0 := by rw [HVL.out,h0]; rfl
                    have H0 := hid h0
                    have hvi : ¬ (0 : Int) < us.length := by omega
                    clear h0 hv0
                    go_wp2_with fail
                    refine Meet.mk' HR2.out rfl ?_
                    refine ⟨Keeps.refl _ _,?_,.inl H0.out⟩
                    rw [if_pos H0.out]
                    exact HR3.out
                   ·have HN0 := hid h0
                    have hvp : 0 < us.length := by
                     rw [HVL.out]
                     exact List.length_pos_iff.2 h0
                    have hvi : (0 : Int) < us.length := by omega
                    clear h0
                    go_wp2_with fail
                    refine (sign_any R ⟨g,o,c⟩ L j (d + 1) 0 0 qdz w3 HR3.out HIJ.out.2).mono ?_
                    rintro en w4 ⟨hen,hL4⟩
                    obtain ⟨mb,hmb⟩ : ∃ b,isW v qdz = b := ⟨_,rfl⟩
                    replace hen : en = .returned (.bool mb) := by
                     rw [hen,← hmb,HV.out]
                     simp <;> rfl
                    subst hen
                    have HMB := hid hmb
                    have HL4 := hid hL4
                    have HR4 := hid (HR3.out.later hL4)
                    clear hmb hL4 hvi hvp c2 hlc
                    cases mb with
                    | true =>
                      obtain ⟨-,k1,-,-,-,kz,kl⟩ := HR4.out.cells
                      have z1 := kz 1
                      have hj1 : ¬ (9223372036854775807 : Int) < j + 1 := by have := HIJ.out.2; have := HLL.out; omega
                      have HJW : Hid (wrap64 ((j : Int) + 1) = ((j + 1 : Nat) : Int)) := hid (by have := HIJ.out.2; have := HLL.out; unfold wrap64; omega)
                      clear kz hj1
                      go_wp2_with fail
                      try simp only [HJW.out]
                      refine Meet.mk' HR2.out rfl ?_
                      refine ⟨(HL4.out.keeps _).trans (HR4.out.set.2.2.2.2 1 _),?_,.inr HMB.out⟩
                      rw [if_neg HN0.out]
                      exact HR4.out.set.1 (j + 1)
                    | false =>
                      have ht := HR4.out.2.2 j HIJ.out.2
                      rw [← HV.out] at ht
                      obtain ⟨c0,k1,-⟩ := HR4.out.cells
                      simp only at ht c0
                      have hii : (j : Int) < (L.length : Int) := by have := HIJ.out.2; omega
                      go_upto_region 48 with (fail)
                      refine wp_region_held_drew (S := fun w => w.cell? ⟨R,0,none⟩ = some (.slice (some ⟨g,o,none⟩) L.length c) ∧ w.cell? ⟨R,1,none⟩ = some (.int .i64 (j : Int)) ∧ w.cell? ⟨g,o + j * 3 + 2,none⟩ = some (.int .i64 (v.p : Int)))
                       (by kernel_rfl) ⟨(qag.drew w4).cell c0,(qag.drew w4).cell k1,(qag.drew w4).cell ht.2.2⟩ (fun hS => ?_)
                      clear c0 ht
                      refine tH 0 (.pointer (some ⟨R,0,none⟩)) rfl (by kernel_rfl) (fun _ _ _ h => h) ⟨by rfl,?_⟩ hS ?_
                      ·intro w hS
                       clear hS
                       go_simp
                      try simp only [Act.put,sib,List.set]
                      refine tH 1 (.pointer (some ⟨R,0,none⟩)) rfl (by kernel_rfl) (fun _ _ _ h => h) ⟨by rfl,?_⟩ hS ?_
                      ·intro w hS
                       clear hS
                       go_simp
                      try simp only [Act.put,sib,List.set]
                      refine tH 5 (.pointer (some ⟨R,0,none⟩)) rfl (by kernel_rfl) (fun _ _ _ h => h) ⟨by rfl,?_⟩ hS ?_
                      ·intro w hS
                       clear hS
                       go_simp
                      try simp only [Act.put,sib,List.set]
                      refine tH 2 (.pointer (some ⟨R,0,none⟩)) rfl (by kernel_rfl) (fun _ _ _ h => h) ⟨by rfl,?_⟩ hS ?_
                      ·rintro w ⟨h0,-⟩
                       try (have := qad h0)
                       go_simp
                      try simp only [Act.put,sib,List.set]
                      refine tH 6 (.pointer (some ⟨R,0,none⟩)) rfl (by kernel_rfl) (fun _ _ _ h => h) ⟨by rfl,?_⟩ hS ?_
                      ·rintro w ⟨h0,-⟩
                       try (have := qad h0)
                       go_simp
                      try simp only [Act.put,sib,List.set]
                      refine tH 3 (.pointer (some ⟨R,0,none⟩)) rfl (by kernel_rfl) (fun _ _ _ h => h) ⟨by rfl,?_⟩ hS ?_
                      ·rintro w ⟨h0,-⟩
                       try (have := qad h0)
                       go_simp
                      try simp only [Act.put,sib,List.set]
                      refine tH 7 (.pointer (some ⟨R,1,none⟩)) rfl (by kernel_rfl) (fun _ _ _ h => h) ⟨by rfl,?_⟩ hS ?_
                      ·rintro w ⟨h0,-⟩
                       try (have := qad h0)
                       go_simp
                      try simp only [Act.put,sib,List.set]
                      refine tH 4 (.slice (some ⟨g,o,none⟩) L.length c) rfl (by kernel_rfl) (fun _ _ _ h => h) ⟨by rfl,?_⟩ hS ?_
                      ·rintro w ⟨h0,-⟩
                       try (have := qad h0)
                       go_simp
                      try simp only [Act.put,sib,List.set]
                      refine tH 8 (.int .i64 (j : Int)) rfl (by kernel_rfl) (fun _ _ _ h => h) ⟨by rfl,?_⟩ hS ?_
                      ·rintro w ⟨-,h0,-⟩
                       try (have := qad h0)
                       go_simp
                      try simp only [Act.put,sib,List.set]
                      refine tH 9 (.pointer (some ⟨g,o + j * 3,none⟩)) rfl (by kernel_rfl) (fun _ _ _ h => h) ⟨by rfl,?_⟩ hS ?_
                      ·intro w hS
                       clear hS
                       go_simp
                      try simp only [Act.put,sib,List.set]
                      refine tH 10 (.pointer (some ⟨g,o + j * 3 + 2,none⟩)) rfl (by kernel_rfl) (fun _ _ _ h => h) ⟨by rfl,?_⟩ hS ?_
                      ·rintro w ⟨-,-,h0⟩
                       try (have := qad h0)
                       go_simp
                      try simp only [Act.put,sib,List.set]
                      refine tH 11 (.int .i64 (v.p : Int)) rfl (by kernel_rfl) (fun _ _ _ h => h) ⟨by rfl,?_⟩ hS ?_
                      ·rintro w ⟨-,-,h0⟩
                       try (have := qad h0)
                       go_simp
                      try simp only [Act.put,sib,List.set]
                      refine wpAnyH_ready (rs := [12]) (by kernel_rfl) (by simp) (AllReadyH.cons rfl (fun K hK => ?_) AllReadyH.nil)
                      go_simp
                      refine (rfail_any R ⟨g,o,c⟩ L j (d + 1) 0 0 1 v.p w4.drew (HR4.out.later (qag.drew w4)) (by decide)).mono ?_
                      rintro en w5 ⟨rfl,hk5,h5⟩
                      rw [if_pos rfl] at h5
                      have HK5 := hid hk5
                      have HRQ5 := hid h5
                      have ht5 := h5.2.2 j HIJ.out.2
                      rw [← HV.out] at ht5
                      have hS5 : w5.cell? ⟨R,0,none⟩ = some (.slice (some ⟨g,o,none⟩) L.length c) ∧ w5.cell? ⟨R,1,none⟩ = some (.int .i64 (j : Int)) ∧ w5.cell? ⟨g,o + j * 3 + 2,none⟩ = some (.int .i64 (v.p : Int)) := ⟨h5.cells.1,h5.cells.2.1,ht5.2.2⟩
                      clear hk5 h5 ht5 hS
                      refine hK.out _ _ hS5 (fun hS => ?_)
                      clear hK K
                      try simp only [Act.put,sib,List.set]
                      refine wpAnyH_done (by kernel_rfl) ?_ _
                      clear hS hS5 k1
                      go_wp2_with fail
                      refine Meet.mk' HR5.out rfl ?_
                      exact ⟨HK3.out.trans ((HL4.out.keeps _).trans (((qag.drew w4).keeps _).trans HK5.out)),j,1,v.p,HRQ5.out,HIJ.out.1,HIJ.out.2,.inr ⟨by decide,HPL.out _ (by rw [HDV.out]; exact rpar_args_bad HCB.out HN0.out HMB.out)⟩⟩
                  intro us2 wq hrel
                  obtain ⟨hky,hry,hcm⟩ := hrel
                  simp only [qao,Nat.reduceAdd]
                  obtain ⟨jq,hjq⟩ : ∃ jq,jq = (if acc = [] then j else j + 1) := ⟨_,rfl⟩
                  rw [← hjq] at hry
                  have HKY := hid hky; have HRY := hid hry; have HCM := hid hcm
                  have HJQ : Hid (j ≤ jq ∧ i < jq) := hid (by have := HIJ.out.1; rw [hjq]; split <;> omega)
                  have HDQ : Hid (L.drop jq = if acc = [] then v :: L.drop (j + 1) else L.drop (j + 1)) := hid (by
                   rw [hjq]
                   by_cases h0 : acc = []
                   ·rw [if_pos h0,if_pos h0]; exact HDV.out
                   ·rw [if_neg h0,if_neg h0])
                  have HELQ : Hid (EndL (L.drop jq)) := hid (by
                   rw [hjq]
                   by_cases h0 : acc = []
                   ·rw [if_pos h0]; exact HEL.out
                   ·rw [if_neg h0]
                    exact HVK.out.2 (fun hk => by
                     have h := HCM.out.resolve_left h0
                     unfold isW at h
                     rw [hk] at h
                     simp at h))
                  clear hky hry hcm hjq c2 hlc
                  go_wp2_with fail
                  refine (HIC.out 0 jq (d + 1) wq (by omega) (HK3.out.trans HKY.out) HJQ.out.2 HRY.out HELQ.out HD1.out).mono ?_
                  rintro e w5 ⟨hk5,rs,B5,hr5,rfl,hm5⟩
                  have HK5 := hid (HKY.out.trans hk5)
                  have HRS := hid hr5
                  obtain ⟨j1,e5,b5,hR5,hj1,hM5⟩ : ∃ (j1 : Nat) (e5 : Int) (b5 : Nat),RAt w5 R ⟨g,o,c⟩ L j1 (d + 1) e5 b5 ∧ jq ≤ j1 ∧ KidRes wq R L jq B5 e5 b5 j1 w5 rs := by
                   cases rs with
                   | error f =>
                     obtain ⟨h0,j1,h1,h2,h3⟩ := hm5
                     exact ⟨j1,f.1,f.2,h3,h1,h0,h2,rfl,rfl⟩
                   | ok y =>
                     obtain ⟨hy,j1,h1,h2,h3,h4⟩ := hm5
                     exact ⟨j1,0,0,h3,by omega,rfl,rfl,hy,h1,h2,h4⟩
                  have HRQ5 := hid hR5; have HJ1 := hid hj1; have HM5 := hid hM5
                  have HCR : Hid (C ≠ R) := hid (by have := HCW.out; omega)
                  have HC5 := hid (HK5.out.obj HCR.out HC3.out)
                  have hgR : ∀ G,(Value.slice ao us.length cap).ownBlock = some G → G ≠ R ∧ G < w3.heap.size := fun G hG => by
                   have h1 := HO3.out.lt G hG
                   have h2 := HCW.out.2
                   exact ⟨by omega,h1.2⟩
                  have HO5 := hid (own_keeps HO3.out HK5.out fun G hG => (hgR G hG).1)
                  have HES5 := hid (EsIn.kept HK5.out (fun b h => h.1) _ _ HES3.out)
                  have HGR := hid hgR
                  have d2 : w5.cell? ⟨C,2,none⟩ = some (.slice ao us.length cap) := qac (i := 2) HC5.out rfl
                  have hl5 := qad d2
                  clear hk5 hr5 hm5 hR5 hj1 hM5 hgR
                  obtain ⟨w6,hw6⟩ : ∃ w6,w6 = w5.alloc (.cells #[.pointer (some ⟨B5,0,none⟩)] 26 (0,0)) := ⟨_,rfl⟩
                  have hL6 : qag w5 w6 := hw6 ▸ qag.alloc _ _
                  have HN6 : Hid (w6.heap[w5.heap.size]? = some (.cells [Value.pointer (some ⟨B5,0,none⟩)].toArray 26 (0,0))) := hid (by rw [hw6]; exact qap _ _)
                  have HR6 := hid (HRQ5.out.later hL6)
                  have HC6 := hid (hL6.obj HC5.out)
                  have HO6 := hid (own_keeps HO5.out (hL6.keeps fun _ => True) fun _ _ => trivial)
                  have HK6 := hid (HK3.out.trans (HK5.out.trans (hL6.keeps _)))
                  have HES6 := hid (EsIn.kept (hL6.keeps (fun _ => True)) (fun _ _ => trivial) _ _ HES5.out)
                  have HL6 := hid hL6
                  have HU6 : Hid (us.length ≤ 1048576) := hid (by have h1 := HUL.out; have h2 := HIJ.out.2; have h3 := HLL.out; omega)
                  have HW6 := hid hw6
                  clear hL6
                  rw [hw6] at HO6 HN6
                  clear hw6
                  go_wp2_with (at_builtin; refine qce rfl _ _ 75 rfl 26 1 8 (by kernel_rfl) (ElemInfo.of (z := .pointer none) (by kernel_rfl) rfl (by omega)) rfl HO6.out (news := [.pointer (some ⟨B5,0,none⟩)]) rfl HN6.out rfl (fun u hu => by obtain rfl := List.mem_singleton.1 hu; rfl) ?c1 ?c2 ?c3 ?_)
                  case c1 => have := HU6.out; omega
                  case c2 => have := HU6.out; unfold maxLen; omega
                  case c3 => rw [← HW6.out]; exact HK6.out.size
                  intro v' w7 hA7
                  rw [← HW6.out] at HO6 HN6 hA7
                  obtain ⟨hC7,hC8,ho8,hr8,hk8,hes8⟩ := rcall_add HCW.out.2 HCW.out.1 HO6.out HC6.out HR6.out HK6.out hA7
                  obtain ⟨ao',cap',hv'⟩ : ∃ ao cap,v' = .slice ao (us.length + 1) cap := by
                   rcases hA7.own.2 with ⟨hv,h0⟩ | ⟨g,cap,cur,hv,_⟩
                   ·exact ⟨none,0,by rw [hv,h0]⟩
                   ·exact ⟨_,_,hv⟩
                  subst hv'
                  have n2 : w7.cell? ⟨C,2,none⟩ = some (.slice ao us.length cap) := qac (i := 2) hC7 rfl
                  have nz := qaq (i := 2) hC7
                  have nl := qad n2
                  have HC8 := hid hC8; have HO8 := hid ho8; have HR8 := hid hr8; have HK8 := hid hk8; have HES8 := hid hes8
                  clear hA7 hC7 hC8 ho8 hr8 hk8 hes8 d2 hl5
                  go_wp2_with fail
                  have hm := HM5.out
                  have hj := HJQ.out
                  have hj1 := HJ1.out
                  have hjl := HIJ.out.2
                  have hul := HUL.out
                  refine Round.mk' HR1.out Hmu1.out rfl ?_ ?_
                  ·refine ⟨HK8.out,?_⟩
                   cases rs with
                   | error f =>
                     obtain ⟨h0,h1,rfl,rfl⟩ := hm
                     refine .inr ⟨f.1,f.2,j1,HR8.out,h0,by omega,h1,HPL.out _ ?_⟩
                     rw [HDV.out]
                     exact rpar_args_err HCB.out HCM.out (by rw [← HDQ.out]; exact HRS.out)
                   | ok y =>
                     obtain ⟨rfl,rfl,hy,h1,h2,h3⟩ := hm
                     refine .inl ⟨acc ++ [y.1],_,_,j1,HC8.out,HO8.out,HES8.out acc y.1 HES6.out ?_,HR8.out,by rw [h2]; exact h3,by omega,by simp only [List.length_append,List.length_cons,List.length_nil]; omega,HD1.out,fun s hs => HPL.out _ ?_⟩
                     ·have g1 := HKY.out.size
                      refine EIn.mono (fun b hb h => ⟨h.1,?_,?_,fun e => ?_⟩) _ _ (EIn.kept (HL6.out.keeps (fun _ => True)) (fun _ _ => trivial) _ _ hy)
                      ·have := h.2; have := HK3.out.size; omega
                      ·have := h.2; have := qch HC3.out; omega
                      ·have := (HGR.out b e).2; have := h.2; omega
                     ·rw [HDV.out]
                      rw [h2] at hs
                      exact rpar_args_go HCB.out HCM.out (by rw [← HDQ.out]; exact HRS.out) hs
                  ·rw [HR8.out.place,HR8.out.err,HRL.out.place,HRL.out.err,if_pos rfl]
                   cases rs with
                   | error f =>
                     obtain ⟨h0,h1,-,-⟩ := hm
                     rw [if_neg h0]
                     omega
                   | ok y =>
                     obtain ⟨h0,-,-,h1,-,-⟩ := hm
                     rw [if_pos h0]
                     omega
               ·have HKL := hid hky; have HRL := hid hr; have HX := hid (And.intro hc0 (And.intro hij (And.intro hjl hp)))
                have k3 := hr.cells.2.2.2.1
                have kl := hr.cells.2.2.2.2.2.2
                have hne : (ce == 0) = false := by simpa using hc0
                clear hky hr hc0 hij hjl hp
                go_wp2_with fail
                refine Meet.mk' HR5.out rfl ?_
                exact ⟨HKL.out,j,ce,q,HRL.out,HX.out.2.1,HX.out.2.2.1,.inr ⟨HX.out.1,HX.out.2.2.2⟩⟩
              intro us5 wq hrel
              obtain ⟨hkq,j,e,b,hrq,hij,hjl,hcase⟩ := hrel
              simp only [qao,Nat.reduceAdd]
              have HKQ := hid hkq; have HRQ := hid hrq; have HJQ := hid (And.intro hij hjl); have HCASE := hid hcase
              clear hkq hrq hij hjl hcase
              go_wp2_with fail
              refine (rclose_any R ⟨g,o,c⟩ L j (d + 1) b e wq HRQ.out HJQ.out.2 HLL.out).mono ?_
              rintro e' wr ⟨rfl,hkr,hcl⟩
              have HKr := hid hkr
              obtain ⟨j2,hr2,hj2⟩ : ∃ j2,RAt wr R ⟨g,o,c⟩ L j2 (d + 1) e b ∧ ((e = 0 ∧ j2 = j + 1) ∨ (e ≠ 0 ∧ j2 = j)) := by
               unfold CloseTo at hcl
               by_cases he : e = 0
               ·rw [if_pos he] at hcl
                have hb : isW (L[j]'HJQ.out.2) qbl = true := by
                 rcases HCASE.out with ⟨-,-,h,-⟩ | ⟨h,-⟩
                 ·rw [List.drop_eq_getElem_cons HJQ.out.2] at h
                  exact h
                 ·exact absurd he h
                rw [if_pos hb] at hcl
                exact ⟨j + 1,by rw [he]; exact hcl,.inl ⟨he,rfl⟩⟩
               ·rw [if_neg he] at hcl
                exact ⟨j,hcl,.inr ⟨he,rfl⟩⟩
              have HR2 := hid hr2; have HJ2 := hid hj2
              obtain ⟨-,-,k2,-,-,kz,kl⟩ := hr2.cells
              have z2 := kz 2
              have hd1 : ((d + 1 : Nat) : Int) - 1 = (d : Int) := by omega
              have HDW : Hid (wrap64 (d : Int) = (d : Int)) := hid (by have := HD.out; unfold wrap64; omega)
              clear kz hkr hcl hr2 hj2
              go_wp2_with fail
              try simp only [HDW.out]
              refine bodyPost_ret (results_tmp rfl _ _ _) rfl ?_
              have hk8 := HR2.out.set.2.2.2.2 2 (.int .i64 (d : Int))
              have h8 := HR2.out.set.2.1 d
              have hj := HJQ.out
              refine ⟨HKQ.out.trans (HKr.out.trans hk8),?_⟩
              rcases HCASE.out with ⟨rfl,rfl,-,x,hx,hp,hend⟩ | ⟨he,hp⟩
              ·rcases HJ2.out with ⟨-,rfl⟩ | ⟨h,-⟩
               ·exact ⟨.ok (x,L.drop (j + 1)),C,hp,rfl,EIn.kept (HKr.out.trans hk8) (fun _ h => h.1) _ _ hx,j + 1,by omega,rfl,h8,hend⟩
               ·exact absurd rfl h
              ·rcases HJ2.out with ⟨h,-⟩ | ⟨-,rfl⟩
               ·exact absurd h he
               ·exact ⟨.error (e,b),C,hp,rfl,he,j2,by omega,hj.2,h8⟩
end Go.Proofs.YtgajofkeidjbgaaGreatDoor
