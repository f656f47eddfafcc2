/-
  PROVED HERE: a part of the proof of ExprEvals: RefP3, RefP4, ParUnP.
-/
import Derived.Test.YtgajofkeidjbgaaGreatDoorShort
import Derived.Test.YtgajofkeidjbgaaGreatDoorGRefE
import Derived.Test.YtgajofkeidjbgaaGreatDoorGParUn2
namespace Go.Proofs.YtgajofkeidjbgaaGreatDoor
set_option linter.unusedSimpArgs false
set_option linter.unusedVariables false
set_option maxHeartbeats 2000000
set_option maxRecDepth 100000
open Go.RowKit
def InTo (R : Nat) (K : Row3) (L : List Tok) (i d p : Nat) (w' : World) : Prop := if 12 < d + 1 then RAt w' R K L i (d + 1) 4 p else RAt w' R K L i (d + 1) 0 0
def CloseTo (R : Nat) (K : Row3) (L : List Tok) (i d bad : Nat) (e : Int) (t : Tok) (w' : World) : Prop :=
 if e = 0 then (if isW t qbl = true then RAt w' R K L (i + 1) d 0 bad else RAt w' R K L i d 1 t.p) else RAt w' R K L i d e bad
theorem rin_any (R : Nat) (K : Row3) (L : List Tok) (i d : Nat) (w : World) (h : RAt w R K L i d 0 0) (hi : i < L.length) (hd : d ≤ 12) : Calls Tryz.prog 45 #[.pointer (some ⟨R,0,none⟩)] w fun en w' =>
  en = .returned (.tuple #[]) ∧ Keeps (fun b => b ≠ R) w w' ∧ InTo R K L i d L[i].p w' := by
 have HD := hid hd
 have hset := h.set
 obtain ⟨-,-,c2,-,-,hz,hlt⟩ := h.cells
 have z2 := hz 2
 have hwr : wrap64 ((d : Int) + 1) = ((d + 1 : Nat) : Int) := by unfold wrap64; omega
 have HWR := hid hwr
 have hdn : ¬ (9223372036854775807 : Int) < d + 1 := by omega
 obtain ⟨w1,hw1⟩ : ∃ w1,w1 = w.setCell ⟨R,2,none⟩ (.int .i64 ((d + 1 : Nat) : Int)) := ⟨_,rfl⟩
 have h1 : RAt w1 R K L i (d + 1) 0 0 := by rw [hw1]; exact hset.2.1 (d + 1)
 have hk1 : Keeps (fun b => b ≠ R) w w1 := by rw [hw1]; exact hset.2.2.2.2 2 _
 have HK1 := hid hk1; have H1 := hid h1
 have HW1 := hid hw1
 clear hset h hz hd hwr hk1 hw1
 go_enter Tryz.func45,Tryz.ntmps45
 go_upto_region 1 with (fail)
 rw [show w.setCell ⟨R,2,none⟩ (.int .i64 ((d : Int) + 1)) = w1 from HW1.out.symm]
 obtain ⟨-,k1,k2,-,-,-,kl⟩ := h1.cells
 clear h1 c2 z2 hlt hdn
 by_cases hn : 12 < d + 1
 ·have hn' : (12 : Int) < ((d + 1 : Nat) : Int) := by omega
  have HN := hid hn
  clear hn
  have ht := H1.out.2.2 i hi
  have c0 := H1.out.cells.1
  obtain ⟨t,htt⟩ : ∃ t,t = L[i] := ⟨_,rfl⟩
  rw [← htt] at ht
  have HTT := hid htt
  obtain ⟨g,o,c⟩ := K
  simp only at ht c0
  have hii : (i : Int) < (L.length : Int) := by omega
  clear htt
  go_upto_region 2 with (fail)
  refine wp_region_held_drew (S := fun w => w.cell? ⟨R,0,none⟩ = some (.slice (some ⟨g,o,none⟩) L.length c) ∧ w.cell? ⟨R,1,none⟩ = some (.int .i64 (i : Int)) ∧ w.cell? ⟨g,o + i * 3 + 2,none⟩ = some (.int .i64 (t.p : Int)))
   (by kernel_rfl) ⟨(qag.drew w1).cell c0,(qag.drew w1).cell k1,(qag.drew w1).cell ht.2.2⟩ (fun hS => ?_)
  clear c0 ht
  refine tH 0 (.pointer (some ⟨R,0,none⟩)) rfl (by kernel_rfl) (fun _ _ _ h => h) ⟨by rfl,?_⟩ hS ?_
  ·intro w hS
   clear hS
   go_simp
  try simp only [Act.put,sib,List.set]
  refine tH 1 (.pointer (some ⟨R,0,none⟩)) rfl (by kernel_rfl) (fun _ _ _ h => h) ⟨by rfl,?_⟩ hS ?_
  ·intro w hS
   clear hS
   go_simp
  try simp only [Act.put,sib,List.set]
  refine tH 5 (.pointer (some ⟨R,0,none⟩)) rfl (by kernel_rfl) (fun _ _ _ h => h) ⟨by rfl,?_⟩ hS ?_
  ·intro w hS
   clear hS
   go_simp
  try simp only [Act.put,sib,List.set]
  refine tH 2 (.pointer (some ⟨R,0,none⟩)) rfl (by kernel_rfl) (fun _ _ _ h => h) ⟨by rfl,?_⟩ hS ?_
  ·rintro w ⟨h0,-⟩
   try (have := qad h0)
   go_simp
  try simp only [Act.put,sib,List.set]
  refine tH 6 (.pointer (some ⟨R,0,none⟩)) rfl (by kernel_rfl) (fun _ _ _ h => h) ⟨by rfl,?_⟩ hS ?_
  ·rintro w ⟨h0,-⟩
   try (have := qad h0)
   go_simp
  try simp only [Act.put,sib,List.set]
  refine tH 3 (.pointer (some ⟨R,0,none⟩)) rfl (by kernel_rfl) (fun _ _ _ h => h) ⟨by rfl,?_⟩ hS ?_
  ·rintro w ⟨h0,-⟩
   try (have := qad h0)
   go_simp
  try simp only [Act.put,sib,List.set]
  refine tH 7 (.pointer (some ⟨R,1,none⟩)) rfl (by kernel_rfl) (fun _ _ _ h => h) ⟨by rfl,?_⟩ hS ?_
  ·rintro w ⟨h0,-⟩
   try (have := qad h0)
   go_simp
  try simp only [Act.put,sib,List.set]
  refine tH 4 (.slice (some ⟨g,o,none⟩) L.length c) rfl (by kernel_rfl) (fun _ _ _ h => h) ⟨by rfl,?_⟩ hS ?_
  ·rintro w ⟨h0,-⟩
   try (have := qad h0)
   go_simp
  try simp only [Act.put,sib,List.set]
  refine tH 8 (.int .i64 (i : Int)) rfl (by kernel_rfl) (fun _ _ _ h => h) ⟨by rfl,?_⟩ hS ?_
  ·rintro w ⟨-,h0,-⟩
   try (have := qad h0)
   go_simp
  try simp only [Act.put,sib,List.set]
  refine tH 9 (.pointer (some ⟨g,o + i * 3,none⟩)) rfl (by kernel_rfl) (fun _ _ _ h => h) ⟨by rfl,?_⟩ hS ?_
  ·intro w hS
   clear hS
   go_simp
  try simp only [Act.put,sib,List.set]
  refine tH 10 (.pointer (some ⟨g,o + i * 3 + 2,none⟩)) rfl (by kernel_rfl) (fun _ _ _ h => h) ⟨by rfl,?_⟩ hS ?_
  ·rintro w ⟨-,-,h0⟩
   try (have := qad h0)
   go_simp
  try simp only [Act.put,sib,List.set]
  refine tH 11 (.int .i64 (t.p : Int)) rfl (by kernel_rfl) (fun _ _ _ h => h) ⟨by rfl,?_⟩ hS ?_
  ·rintro w ⟨-,-,h0⟩
   try (have := qad h0)
   go_simp
  try simp only [Act.put,sib,List.set]
  refine wpAnyH_ready (rs := [12]) (by kernel_rfl) (by simp) (AllReadyH.cons rfl (fun K hK => ?_) AllReadyH.nil)
  go_simp
  refine (rfail_any R ⟨g,o,c⟩ L i (d + 1) 0 0 4 t.p w1.drew (H1.out.later (qag.drew w1)) (by omega)).mono ?_
  rintro e w2 ⟨rfl,hk2,h2⟩
  simp only [if_true] at h2
  have HK2 := hid hk2; have H2 := hid h2
  have ht2 := h2.2.2 i hi
  rw [← HTT.out] at ht2
  have hS2 : w2.cell? ⟨R,0,none⟩ = some (.slice (some ⟨g,o,none⟩) L.length c) ∧ w2.cell? ⟨R,1,none⟩ = some (.int .i64 (i : Int)) ∧ w2.cell? ⟨g,o + i * 3 + 2,none⟩ = some (.int .i64 (t.p : Int)) := ⟨h2.cells.1,h2.cells.2.1,ht2.2.2⟩
  clear hk2 h2 ht2 hS
  refine hK.out _ _ hS2 (fun hS => ?_)
  clear hK K
  try simp only [Act.put,sib,List.set]
  refine wpAnyH_done (by kernel_rfl) ?_ _
  clear hS hS2 k1 k2 kl
  go_wp2_with fail
  refine bodyPost_end (results_none rfl _ _ _) rfl ⟨rfl,HK1.out.trans (((qag.drew w1).keeps _).trans HK2.out),?_⟩
  unfold InTo
  rw [if_pos HN.out,← HTT.out]
  exact H2.out
 ·have hn' : ¬ (12 : Int) < ((d + 1 : Nat) : Int) := by omega
  have HN := hid hn
  clear hn
  go_wp2_with fail
  refine bodyPost_end (results_none rfl _ _ _) rfl ⟨rfl,HK1.out,?_⟩
  unfold InTo
  rw [if_neg HN.out]
  exact H1.out
theorem rclose_any (R : Nat) (K : Row3) (L : List Tok) (i d bad : Nat) (e : Int) (w : World) (h : RAt w R K L i d e bad) (hi : i < L.length) (hL : L.length ≤ 1048576) : Calls Tryz.prog 76 #[.pointer (some ⟨R,0,none⟩)] w fun en w' =>
  en = .returned (.tuple #[]) ∧ Keeps (fun b => b ≠ R) w w' ∧ CloseTo R K L i d bad e L[i] w' := by
 have HR := hid h
 clear h
 go_enter Tryz.func76,Tryz.ntmps76
 go_wp2_with fail
 refine (sign_any R K L i d bad e qbl w HR.out hi).mono ?_
 rintro en w1 ⟨rfl,hL1⟩
 have HL1 := hid hL1
 have H1 := hid (HR.out.later hL1)
 clear hL1
 obtain ⟨bb,hbb⟩ : ∃ b,(decide (e = 0) && isW L[i] qbl) = b := ⟨_,rfl⟩
 rw [hbb]
 have HBB := hid hbb
 clear hbb
 cases bb with
 | true =>
   have HE : Hid (e = 0 ∧ isW L[i] qbl = true) := hid (by have := HBB.out; simpa using this)
   obtain ⟨-,c1,-,-,-,hz,hlt⟩ := H1.out.cells
   have z1 := hz 1
   have HWR : Hid (wrap64 ((i : Int) + 1) = ((i + 1 : Nat) : Int)) := hid (by unfold wrap64; omega)
   clear hz
   go_wp2_with fail
   try simp only [HWR.out]
   refine bodyPost_end (results_none rfl _ _ _) rfl ⟨rfl,(HL1.out.keeps _).trans (H1.out.set.2.2.2.2 1 _),?_⟩
   unfold CloseTo
   rw [if_pos HE.out.1,if_pos HE.out.2]
   have h := H1.out.set.1 (i + 1)
   rw [HE.out.1] at h
   exact h
 | false =>
   have ht := H1.out.2.2 i hi
   obtain ⟨c0,k1,-⟩ := H1.out.cells
   obtain ⟨t,htt⟩ : ∃ t,t = L[i] := ⟨_,rfl⟩
   rw [← htt] at ht
   have HTT := hid htt
   obtain ⟨g,o,c⟩ := K
   simp only at ht c0
   have hii : (i : Int) < (L.length : Int) := by omega
   clear htt
   go_upto_region 2 with (fail)
   refine wp_region_held_drew (S := fun w => w.cell? ⟨R,0,none⟩ = some (.slice (some ⟨g,o,none⟩) L.length c) ∧ w.cell? ⟨R,1,none⟩ = some (.int .i64 (i : Int)) ∧ w.cell? ⟨g,o + i * 3 + 2,none⟩ = some (.int .i64 (t.p : Int)))
    (by kernel_rfl) ⟨(qag.drew w1).cell c0,(qag.drew w1).cell k1,(qag.drew w1).cell ht.2.2⟩ (fun hS => ?_)
   clear c0 ht
   refine tH 0 (.pointer (some ⟨R,0,none⟩)) rfl (by kernel_rfl) (fun _ _ _ h => h) ⟨by rfl,?_⟩ hS ?_
   ·intro w hS
    clear hS
    go_simp
   try simp only [Act.put,sib,List.set]
   refine tH 1 (.pointer (some ⟨R,0,none⟩)) rfl (by kernel_rfl) (fun _ _ _ h => h) ⟨by rfl,?_⟩ hS ?_
   ·intro w hS
    clear hS
    go_simp
   try simp only [Act.put,sib,List.set]
   refine tH 5 (.pointer (some ⟨R,0,none⟩)) rfl (by kernel_rfl) (fun _ _ _ h => h) ⟨by rfl,?_⟩ hS ?_
   ·intro w hS
    clear hS
    go_simp
   try simp only [Act.put,sib,List.set]
   refine tH 2 (.pointer (some ⟨R,0,none⟩)) rfl (by kernel_rfl) (fun _ _ _ h => h) ⟨by rfl,?_⟩ hS ?_
   ·rintro w ⟨h0,-⟩
    try (have := qad h0)
    go_simp
   try simp only [Act.put,sib,List.set]
   refine tH 6 (.pointer (some ⟨R,0,none⟩)) rfl (by kernel_rfl) (fun _ _ _ h => h) ⟨by rfl,?_⟩ hS ?_
   ·rintro w ⟨h0,-⟩
    try (have := qad h0)
    go_simp
   try simp only [Act.put,sib,List.set]
   refine tH 3 (.pointer (some ⟨R,0,none⟩)) rfl (by kernel_rfl) (fun _ _ _ h => h) ⟨by rfl,?_⟩ hS ?_
   ·rintro w ⟨h0,-⟩
    try (have := qad h0)
    go_simp
   try simp only [Act.put,sib,List.set]
   refine tH 7 (.pointer (some ⟨R,1,none⟩)) rfl (by kernel_rfl) (fun _ _ _ h => h) ⟨by rfl,?_⟩ hS ?_
   ·rintro w ⟨h0,-⟩
    try (have := qad h0)
    go_simp
   try simp only [Act.put,sib,List.set]
   refine tH 4 (.slice (some ⟨g,o,none⟩) L.length c) rfl (by kernel_rfl) (fun _ _ _ h => h) ⟨by rfl,?_⟩ hS ?_
   ·rintro w ⟨h0,-⟩
    try (have := qad h0)
    go_simp
   try simp only [Act.put,sib,List.set]
   refine tH 8 (.int .i64 (i : Int)) rfl (by kernel_rfl) (fun _ _ _ h => h) ⟨by rfl,?_⟩ hS ?_
   ·rintro w ⟨-,h0,-⟩
    try (have := qad h0)
    go_simp
   try simp only [Act.put,sib,List.set]
   refine tH 9 (.pointer (some ⟨g,o + i * 3,none⟩)) rfl (by kernel_rfl) (fun _ _ _ h => h) ⟨by rfl,?_⟩ hS ?_
   ·intro w hS
    clear hS
    go_simp
   try simp only [Act.put,sib,List.set]
   refine tH 10 (.pointer (some ⟨g,o + i * 3 + 2,none⟩)) rfl (by kernel_rfl) (fun _ _ _ h => h) ⟨by rfl,?_⟩ hS ?_
   ·rintro w ⟨-,-,h0⟩
    try (have := qad h0)
    go_simp
   try simp only [Act.put,sib,List.set]
   refine tH 11 (.int .i64 (t.p : Int)) rfl (by kernel_rfl) (fun _ _ _ h => h) ⟨by rfl,?_⟩ hS ?_
   ·rintro w ⟨-,-,h0⟩
    try (have := qad h0)
    go_simp
   try simp only [Act.put,sib,List.set]
   refine wpAnyH_ready (rs := [12]) (by kernel_rfl) (by simp) (AllReadyH.cons rfl (fun K hK => ?_) AllReadyH.nil)
   go_simp
   refine (rfail_any R ⟨g,o,c⟩ L i d bad e 1 t.p w1.drew (H1.out.later (qag.drew w1)) (by omega)).mono ?_
   rintro en w2 ⟨rfl,hk2,h2⟩
   have HK2 := hid hk2
   have H2 : Hid (∃ e' b',RAt w2 R ⟨g,o,c⟩ L i d e' b') := hid (by
    by_cases he : e = 0
    ·rw [if_pos he] at h2; exact ⟨_,_,h2⟩
    ·rw [if_neg he] at h2; rw [h2]; exact ⟨_,_,H1.out.later (qag.drew w1)⟩)
   have H3 := hid h2
   obtain ⟨e',b',h4⟩ := H2.out
   have ht2 := h4.2.2 i hi
   rw [← HTT.out] at ht2
   have hS2 : w2.cell? ⟨R,0,none⟩ = some (.slice (some ⟨g,o,none⟩) L.length c) ∧ w2.cell? ⟨R,1,none⟩ = some (.int .i64 (i : Int)) ∧ w2.cell? ⟨g,o + i * 3 + 2,none⟩ = some (.int .i64 (t.p : Int)) := ⟨h4.cells.1,h4.cells.2.1,ht2.2.2⟩
   clear hk2 h2 ht2 hS h4
   refine hK.out _ _ hS2 (fun hS => ?_)
   clear hK K
   try simp only [Act.put,sib,List.set]
   refine wpAnyH_done (by kernel_rfl) ?_ _
   clear hS hS2 k1
   go_wp2_with fail
   refine bodyPost_ret (results_none rfl _ _ _) rfl ⟨rfl,(HL1.out.keeps _).trans (((qag.drew w1).keeps _).trans HK2.out),?_⟩
   have h := H3.out
   unfold CloseTo
   by_cases he : e = 0
   ·rw [if_pos he] at h ⊢
    have hb := HBB.out
    rw [decide_eq_true he] at hb
    rw [if_neg (by simp at hb; rw [hb]; simp),← HTT.out]
    exact h
   ·rw [if_neg he] at h ⊢
    rw [h]
    exact H1.out.later (qag.drew w1)
def SomePtr (w : World) (e : Ending) (w' : World) : Prop := (∃ B,e = .returned (.pointer (some ⟨B,0,none⟩))) ∧ qag w w'
theorem rfirst_err (R : Nat) (K : Row3) (L : List Tok) (i d bad : Nat) (e : Int) (w : World) (h : RAt w R K L i d e bad) (he : e ≠ 0) (hi : i < L.length) : Calls Tryz.prog 46 #[.pointer (some ⟨R,0,none⟩)] w (SomePtr w) := by
 have tt := h.2.2 i hi
 obtain ⟨c0,c1,-,c3,-,-,hlt⟩ := h.cells
 obtain ⟨g,o,c⟩ := K
 obtain ⟨t,ht⟩ : ∃ t,t = L[i] := ⟨_,rfl⟩
 rw [← ht] at tt
 simp only at c0 tt
 have hii : (i : Int) < (L.length : Int) := by omega
 have hne : (e != 0) = true := by simpa using he
 clear h ht he
 go_enter Tryz.func46,Tryz.ntmps46
 go_upto_region 1 with (fail)
 refine wp_region_held_drew (S := fun w => w.cell? ⟨R,0,none⟩ = some (.slice (some ⟨g,o,none⟩) L.length c) ∧ w.cell? ⟨R,1,none⟩ = some (.int .i64 (i : Int)) ∧ TokAt w g (o + i * 3) t.d) (by kernel_rfl) ⟨(qag.drew w).cell c0,(qag.drew w).cell c1,(qag.drew w).cell tt.1,(qag.drew w).cell tt.2.1,(qag.drew w).cell tt.2.2⟩ (fun hS => ?_)
 refine tH 0 (.pointer (some ⟨R,0,none⟩)) rfl (by kernel_rfl) (fun _ _ _ h => h) ⟨by rfl,?_⟩ hS ?_
 ·intro w hS
  clear hS
  go_simp
 try simp only [Act.put,sib,List.set]
 refine tH 4 (.pointer (some ⟨R,0,none⟩)) rfl (by kernel_rfl) (fun _ _ _ h => h) ⟨by rfl,?_⟩ hS ?_
 ·intro w hS
  clear hS
  go_simp
 try simp only [Act.put,sib,List.set]
 refine tH 1 (.pointer (some ⟨R,0,none⟩)) rfl (by kernel_rfl) (fun _ _ _ h => h) ⟨by rfl,?_⟩ hS ?_
 ·rintro w ⟨h0,-⟩
  try (have := qad h0)
  go_simp
 try simp only [Act.put,sib,List.set]
 refine tH 5 (.pointer (some ⟨R,0,none⟩)) rfl (by kernel_rfl) (fun _ _ _ h => h) ⟨by rfl,?_⟩ hS ?_
 ·rintro w ⟨h0,-⟩
  try (have := qad h0)
  go_simp
 try simp only [Act.put,sib,List.set]
 refine tH 2 (.pointer (some ⟨R,0,none⟩)) rfl (by kernel_rfl) (fun _ _ _ h => h) ⟨by rfl,?_⟩ hS ?_
 ·rintro w ⟨h0,-⟩
  try (have := qad h0)
  go_simp
 try simp only [Act.put,sib,List.set]
 refine tH 6 (.pointer (some ⟨R,1,none⟩)) rfl (by kernel_rfl) (fun _ _ _ h => h) ⟨by rfl,?_⟩ hS ?_
 ·rintro w ⟨h0,-⟩
  try (have := qad h0)
  go_simp
 try simp only [Act.put,sib,List.set]
 refine tH 3 (.slice (some ⟨g,o,none⟩) L.length c) rfl (by kernel_rfl) (fun _ _ _ h => h) ⟨by rfl,?_⟩ hS ?_
 ·rintro w ⟨h0,-⟩
  try (have := qad h0)
  go_simp
 try simp only [Act.put,sib,List.set]
 refine tH 7 (.int .i64 (i : Int)) rfl (by kernel_rfl) (fun _ _ _ h => h) ⟨by rfl,?_⟩ hS ?_
 ·rintro w ⟨-,h0,-⟩
  try (have := qad h0)
  go_simp
 try simp only [Act.put,sib,List.set]
 refine tH 8 (.pointer (some ⟨g,o + i * 3,none⟩)) rfl (by kernel_rfl) (fun _ _ _ h => h) ⟨by rfl,?_⟩ hS ?_
 ·intro w hS
  clear hS
  go_simp
 try simp only [Act.put,sib,List.set]
 refine tH 9 (.agg #[.int .u8 (t.d.k.toNat : Int),.string (qah t.d.t),.int .i64 (t.d.p : Int)]) rfl (by kernel_rfl) (fun _ _ _ h => h) ⟨by rfl,?_⟩ hS ?_
 ·rintro w ⟨-,-,h0,h1,h2⟩
  try (have := qad h0)
  go_simp
 try simp only [Act.put,sib,List.set]
 refine wpAnyH_ready (rs := [10]) (by kernel_rfl) (by simp) (AllReadyH.cons rfl (fun K hK => ?_) AllReadyH.nil)
 go_simp
 obtain ⟨wA_,hwA⟩ : ∃ w1,w1 = (w.alloc (.cells #[.int .u8 0,.string ⟨#[]⟩,.int .i64 0] 71)).drew := ⟨_,rfl⟩
 have hLA : qag w wA_ := by rw [hwA]; exact qag.trans _ _ _ (qag.alloc _ _) (qag.drew _)
 have hNA : wA_.heap[w.heap.size]? = some (.cells #[.int .u8 0,.string ⟨#[]⟩,.int .i64 0] 71 (0,0)) := by rw [hwA]; exact qap _ _
 obtain ⟨Tw2,hTv⟩ : ∃ T,T = w.heap.size := ⟨_,rfl⟩
 have hTww2 : w.heap.size ≤ Tw2 := by omega
 rw [← hwA,← hTv]
 rw [← hTv] at hNA
 have k0_ : wA_.cell? ⟨Tw2,0,none⟩ = some (.int .u8 0) := qac (i := 0) hNA rfl
 have k1_ : wA_.cell? ⟨Tw2,1,none⟩ = some (.string ⟨#[]⟩) := qac (i := 1) hNA rfl
 have k2_ : wA_.cell? ⟨Tw2,2,none⟩ = some (.int .i64 0) := qac (i := 2) hNA rfl
 have z0_ := qaq (i := 0) hNA
 have z1_ := qaq (i := 1) hNA
 have z2_ := qaq (i := 2) hNA
 have kl_ := qad k0_
 have hSA : wA_.cell? ⟨R,0,none⟩ = some (.slice (some ⟨g,o,none⟩) L.length c) ∧ wA_.cell? ⟨R,1,none⟩ = some (.int .i64 (i : Int)) ∧ TokAt wA_ g (o + i * 3) t.d := ⟨hLA.cell c0,hLA.cell c1,hLA.cell tt.1,hLA.cell tt.2.1,hLA.cell tt.2.2⟩
 clear hwA hTv hS
 refine hK.out _ _ hSA (fun hS => ?_)
 clear hK K
 try simp only [Act.put,sib,List.set]
 clear hSA
 refine wpAnyH_ready (rs := [11]) (by kernel_rfl) (by simp) (AllReadyH.cons rfl (fun K hK => ?_) AllReadyH.nil)
 go_simp
 obtain ⟨w2,hwB⟩ : ∃ w2,w2 = ((wA_.setCell ⟨Tw2,0,none⟩ (.int .u8 (t.d.k.toNat : Int))).setCell ⟨Tw2,1,none⟩ (.string (qah t.d.t))).setCell ⟨Tw2,2,none⟩ (.int .i64 (t.d.p : Int)) := ⟨_,rfl⟩
 obtain ⟨hLw2,hTw2⟩ := tokvar_set hLA hNA hTww2 hwB
 rw [← hwB]
 have hSB : w2.cell? ⟨R,0,none⟩ = some (.slice (some ⟨g,o,none⟩) L.length c) ∧ w2.cell? ⟨R,1,none⟩ = some (.int .i64 (i : Int)) ∧ TokAt w2 g (o + i * 3) t.d := ⟨hLw2.cell c0,hLw2.cell c1,hLw2.cell tt.1,hLw2.cell tt.2.1,hLw2.cell tt.2.2⟩
 clear hwB k0_ k1_ k2_ z0_ z1_ z2_ kl_ hLA hNA hS
 refine hK.out _ _ hSB (fun hS => ?_)
 clear hK K
 try simp only [Act.put,sib,List.set]
 refine wpAnyH_done (by kernel_rfl) ?_ _
 clear hS hSB
 have e3 := hLw2.cell c3
 have rl := qad e3
 have HL2 := hid hLw2
 clear c0 c1 c3 tt hlt hLw2 hTw2 hTww2
 go_wp2_with fail
 exact bodyPost_ret (results_tmp rfl _ _ _) rfl ⟨⟨_,rfl⟩,HL2.out.alloc' _⟩
theorem rclimb_err (R : Nat) (K : Row3) (L : List Tok) (i d bad : Nat) (e : Int) (q : Nat) (w : World) (h : RAt w R K L i d e bad) (he : e ≠ 0) (hi : i < L.length) : Calls Tryz.prog 22 #[.pointer (some ⟨R,0,none⟩),.int .i64 (q : Int)] w (SomePtr w) := by
 have HR := hid h; have HE := hid he
 clear h he
 go_enter Tryz.func22,Tryz.ntmps22
 go_wp2_with fail
 refine (sign_any R K L i d bad e notW w HR.out hi).mono ?_
 rintro en w1 ⟨rfl,hL1⟩
 rw [show (decide (e = 0) && isW L[i] notW) = false by rw [decide_eq_false HE.out]; rfl]
 have HL1 := hid hL1
 have HR1 := hid (HR.out.later hL1)
 clear hL1
 have tail : ∀ w2,qag w1 w2 → qag w w2 ∧ RAt w2 R K L i d e bad := fun w2 h => ⟨qag.trans _ _ _ HL1.out h,HR1.out.later h⟩
 have HTAIL := hid tail
 clear tail
 by_cases hq : q ≤ 3
 ·have hqi : (q : Int) ≤ 3 := by omega
  clear hq
  go_wp2_with fail
  refine (rfirst_err R K L i d bad e w1 HR1.out HE.out hi).mono ?_
  rintro en w2 ⟨⟨B,rfl⟩,hL2⟩
  have H2 := hid (HTAIL.out w2 hL2)
  clear hL2
  go_upto_region 12 with (fail)
  obtain ⟨R1,hR1⟩ : ∃ RR_ : (Nat → Value) → World → Prop,RR_ = (fun us wx => us 5 = .pointer (some ⟨B,0,none⟩) ∧ wx = w2) := ⟨_,rfl⟩
  obtain ⟨mu1,hmu1⟩ : ∃ mu : (Nat → Value) → World → Nat,mu = (fun _ _ => 0) := ⟨_,rfl⟩
  have HR1 := hid hR1; have Hmu1 := hid hmu1; clear hR1 hmu1
  refine qal [ff,ff,ff,ff,ff,true,true,ff,true,true,true,true,ff,ff,ff,ff,ff,ff,ff,ff,ff,ff,ff,ff,ff,ff,ff,ff,ff,ff,ff,ff,ff,ff,ff,ff,ff,ff,ff,ff,ff,ff,ff,ff,ff,ff,ff,ff,ff,ff,ff,ff,ff,ff,ff,ff,ff,ff,ff,true,true,true,true,true,true,true,true,true,true,true,true,true,true,true,true,true,true,true,true,true,true,true,true,true,true,true,true,true,true,true,true,true,true,true,true,true,true,true,true,true,true,true,true,true,true,true,true,true,true,true,true,true,true,true,true,true,true,true,true,true,true,true,true,true,true,true,true,true,true,true,true,true,true,true,true] R1 _ mu1 HR1.out ?_ ?_
  ·exact ⟨rfl,rfl⟩
  intro us1 wx hrel
  obtain ⟨h5,hwx⟩ := hrel
  simp only [qao,Nat.reduceAdd,h5]
  have Hh5 := hid h5; clear h5
  subst hwx
  obtain ⟨-,-,-,c3,-,-,hlt⟩ := H2.out.2.cells
  have hne : (e == 0) = false := by have := HE.out; simpa using this
  go_wp2_with fail
  exact bodyPost_ret (results_tmp rfl _ _ _) rfl ⟨⟨B,rfl⟩,H2.out.1⟩
 ·have hqi : ¬ (q : Int) ≤ 3 := by omega
  clear hq
  go_wp2_with fail
  refine (rfirst_err R K L i d bad e w1 HR1.out HE.out hi).mono ?_
  rintro en w2 ⟨⟨B,rfl⟩,hL2⟩
  have H2 := hid (HTAIL.out w2 hL2)
  clear hL2
  go_upto_region 12 with (fail)
  obtain ⟨R1,hR1⟩ : ∃ RR_ : (Nat → Value) → World → Prop,RR_ = (fun us wx => us 5 = .pointer (some ⟨B,0,none⟩) ∧ wx = w2) := ⟨_,rfl⟩
  obtain ⟨mu1,hmu1⟩ : ∃ mu : (Nat → Value) → World → Nat,mu = (fun _ _ => 0) := ⟨_,rfl⟩
  have HR1 := hid hR1; have Hmu1 := hid hmu1; clear hR1 hmu1
  refine qal [ff,ff,ff,ff,ff,true,true,ff,true,true,true,true,ff,ff,ff,ff,ff,ff,ff,ff,ff,ff,ff,ff,ff,ff,ff,ff,ff,ff,ff,ff,ff,ff,ff,ff,ff,ff,ff,ff,ff,ff,ff,ff,ff,ff,ff,ff,ff,ff,ff,ff,ff,ff,ff,ff,ff,ff,ff,true,true,true,true,true,true,true,true,true,true,true,true,true,true,true,true,true,true,true,true,true,true,true,true,true,true,true,true,true,true,true,true,true,true,true,true,true,true,true,true,true,true,true,true,true,true,true,true,true,true,true,true,true,true,true,true,true,true,true,true,true,true,true,true,true,true,true,true,true,true,true,true,true,true,true,true] R1 _ mu1 HR1.out ?_ ?_
  ·exact ⟨rfl,rfl⟩
  intro us1 wx hrel
  obtain ⟨h5,hwx⟩ := hrel
  simp only [qao,Nat.reduceAdd,h5]
  have Hh5 := hid h5; clear h5
  subst hwx
  obtain ⟨-,-,-,c3,-,-,hlt⟩ := H2.out.2.cells
  have hne : (e == 0) = false := by have := HE.out; simpa using this
  go_wp2_with fail
  exact bodyPost_ret (results_tmp rfl _ _ _) rfl ⟨⟨B,rfl⟩,H2.out.1⟩
end Go.Proofs.YtgajofkeidjbgaaGreatDoor
namespace Go.Proofs.YtgajofkeidjbgaaGreatDoor
set_option linter.unusedSimpArgs false
set_option linter.unusedVariables false
open Go Go.RowKit
theorem isW_k {t : Tok} {x : List UInt8} (h : t.k ≠ 111) (h' : t.k ≠ 110) : isW t x = false := by
 unfold isW
 rw [Bool.and_eq_false_iff]
 right
 simp [h,h']
theorem par_lit {d : Nat} {t : Tok} {r : List Tok} {v : Val} (hk : t.k = 48 ∨ t.k = 39) (hr : qci t.t = some v) : Par true .un d (t :: r) (.ok (.lit v,r)) := by
 have hw : ∀ x,isW t x = false := fun x => by rcases hk with h | h <;> exact isW_k (by rw [h]; decide) (by rw [h]; decide)
 have h1 : ¬ isW (hdT (t :: r)) qbf = true := by show ¬ isW t qbf = true; rw [hw]; simp
 have h2 : ¬ isW (hdT (t :: r)) qbq = true := by show ¬ isW t qbq = true; rw [hw]; simp
 have h3 : (hdT (t :: r)).k = 48 ∨ (hdT (t :: r)).k = 39 := hk
 have h4 : qci (hdT (t :: r)).t = some v := hr
 exact ⟨1,by unfold qai; rw [if_neg h1,if_neg h2,if_pos h3,h4]; rfl⟩
theorem par_lit_bad {d : Nat} {t : Tok} {r : List Tok} (hk : t.k = 48 ∨ t.k = 39) (hr : qci t.t = none) : Par true .un d (t :: r) (.error (1,t.p)) := by
 have hw : ∀ x,isW t x = false := fun x => by rcases hk with h | h <;> exact isW_k (by rw [h]; decide) (by rw [h]; decide)
 have h1 : ¬ isW (hdT (t :: r)) qbf = true := by show ¬ isW t qbf = true; rw [hw]; simp
 have h2 : ¬ isW (hdT (t :: r)) qbq = true := by show ¬ isW t qbq = true; rw [hw]; simp
 have h3 : (hdT (t :: r)).k = 48 ∨ (hdT (t :: r)).k = 39 := hk
 have h4 : qci (hdT (t :: r)).t = none := hr
 exact ⟨1,by unfold qai; rw [if_neg h1,if_neg h2,if_pos h3,h4]; rfl⟩
theorem isW_t {t : Tok} {x : List UInt8} (h : t.t ≠ x) : isW t x = false := by
 unfold isW
 rw [Bool.and_eq_false_iff]
 left
 simp [h]
theorem par_bool {d : Nat} {t : Tok} {r : List Tok} (hk : ¬ (t.k = 48 ∨ t.k = 39)) (ht : t.t = qed ∨ t.t = qdd) : Par true .un d (t :: r) (.ok (.lit ⟨2,if t.t = qed then 1 else 0,⟨#[]⟩⟩,r)) := by
 have hw : ∀ x,x ≠ qed → x ≠ qdd → isW t x = false := fun x g1 g2 => isW_t (ht.elim (fun h => by rw [h]; exact g1.symm) (fun h => by rw [h]; exact g2.symm))
 have h1 : ¬ isW (hdT (t :: r)) qbf = true := by show ¬ isW t qbf = true; rw [hw _ (by decide) (by decide)]; simp
 have h2 : ¬ isW (hdT (t :: r)) qbq = true := by show ¬ isW t qbq = true; rw [hw _ (by decide) (by decide)]; simp
 have h3 : ¬ ((hdT (t :: r)).k = 48 ∨ (hdT (t :: r)).k = 39) := hk
 have h4 : (hdT (t :: r)).t = qed ∨ (hdT (t :: r)).t = qdd := ht
 exact ⟨1,by unfold qai; rw [if_neg h1,if_neg h2,if_neg h3,if_pos h4]; rfl⟩
def IsName (t : Tok) : Prop := t.k = 110 ∧ t.t ∉ qes
theorem IsName.facts {t : Tok} (hn : IsName t) (ho : TokOk t) : isW t qbf = false ∧ isW t qbq = false ∧ ¬ (t.k = 48 ∨ t.k = 39) ∧ ¬ (t.t = qed ∨ t.t = qdd) := by
 have ht : ∀ x ∈ qcj,isW t x = false := fun x hx => by
  rw [tok_sign ho hx,hn.1]
  simp
 refine ⟨ht _ (by decide),ht _ (by decide),?_,?_⟩
 ·rw [hn.1]; decide
 ·rintro (h | h)
  ·exact hn.2 (by rw [h]; decide)
  ·exact hn.2 (by rw [h]; decide)
theorem par_long {d : Nat} {t : Tok} {r : List Tok} (hn : IsName t) (ho : TokOk t) (hl : 12 < t.t.length) : Par true .un d (t :: r) (.error (4,t.p)) := by
 obtain ⟨f1,f2,f3,f4⟩ := hn.facts ho
 have h1 : ¬ isW (hdT (t :: r)) qbf = true := by show ¬ isW t qbf = true; rw [f1]; simp
 have h2 : ¬ isW (hdT (t :: r)) qbq = true := by show ¬ isW t qbq = true; rw [f2]; simp
 have h3 : ¬ ((hdT (t :: r)).k = 48 ∨ (hdT (t :: r)).k = 39) := f3
 have h4 : ¬ ((hdT (t :: r)).t = qed ∨ (hdT (t :: r)).t = qdd) := f4
 have h5 : (hdT (t :: r)).k = 110 ∧ (hdT (t :: r)).t ∉ qes := hn
 have h6 : 12 < (hdT (t :: r)).t.length := hl
 exact ⟨1,by unfold qai; rw [if_neg h1,if_neg h2,if_neg h3,if_neg h4,if_pos h5,if_pos h6]; rfl⟩
theorem par_name {d : Nat} {t : Tok} {r : List Tok} (hn : IsName t) (ho : TokOk t) (hl : ¬ 12 < t.t.length) (hq : isW (hdT r) qbq = false) : Par true .un d (t :: r) (.ok (.name t.t t.p,r)) := by
 obtain ⟨f1,f2,f3,f4⟩ := hn.facts ho
 have h1 : ¬ isW (hdT (t :: r)) qbf = true := by show ¬ isW t qbf = true; rw [f1]; simp
 have h2 : ¬ isW (hdT (t :: r)) qbq = true := by show ¬ isW t qbq = true; rw [f2]; simp
 have h3 : ¬ ((hdT (t :: r)).k = 48 ∨ (hdT (t :: r)).k = 39) := f3
 have h4 : ¬ ((hdT (t :: r)).t = qed ∨ (hdT (t :: r)).t = qdd) := f4
 have h5 : (hdT (t :: r)).k = 110 ∧ (hdT (t :: r)).t ∉ qes := hn
 have h6 : ¬ 12 < (hdT (t :: r)).t.length := hl
 have h7 : ¬ isW (hdT (t :: r).tail) qbq = true := by show ¬ isW (hdT r) qbq = true; rw [hq]; simp
 exact ⟨1,by unfold qai; rw [if_neg h1,if_neg h2,if_neg h3,if_neg h4,if_pos h5,if_neg h6,if_neg h7]; rfl⟩
theorem par_callq {d : Nat} {t u : Tok} {r : List Tok} {s : Res} (hn : IsName t) (ho : TokOk t) (hl : ¬ 12 < t.t.length) (hq : isW u qbq = true) (hs : if 12 < d + 1 then s = .error (4,u.p) else Par true (.args t.t t.p []) (d + 1) r s) : Par true .un d (t :: u :: r) s := by
 obtain ⟨f1,f2,f3,f4⟩ := hn.facts ho
 have h1 : ¬ isW (hdT (t :: u :: r)) qbf = true := by show ¬ isW t qbf = true; rw [f1]; simp
 have h2 : ¬ isW (hdT (t :: u :: r)) qbq = true := by show ¬ isW t qbq = true; rw [f2]; simp
 have h3 : ¬ ((hdT (t :: u :: r)).k = 48 ∨ (hdT (t :: u :: r)).k = 39) := f3
 have h4 : ¬ ((hdT (t :: u :: r)).t = qed ∨ (hdT (t :: u :: r)).t = qdd) := f4
 have h5 : (hdT (t :: u :: r)).k = 110 ∧ (hdT (t :: u :: r)).t ∉ qes := hn
 have h6 : ¬ 12 < (hdT (t :: u :: r)).t.length := hl
 have h7 : isW (hdT (t :: u :: r).tail) qbq = true := hq
 by_cases hd : 12 < d + 1
 ·rw [if_pos hd] at hs
  subst hs
  exact ⟨1,by unfold qai; rw [if_neg h1,if_neg h2,if_neg h3,if_neg h4,if_pos h5,if_neg h6,if_pos h7,if_pos hd]; rfl⟩
 ·rw [if_neg hd] at hs
  obtain ⟨n,hn⟩ := hs
  exact ⟨n + 1,by unfold qai; rw [if_neg h1,if_neg h2,if_neg h3,if_neg h4,if_pos h5,if_neg h6,if_pos h7,if_neg hd]; exact hn⟩
theorem par_brackets {d : Nat} {t : Tok} {r : List Tok} {s : Res} (ht : isW t qbq = true) (hs : if 12 < d + 1 then s = .error (4,t.p) else ∃ s',Par true (.bin 0) (d + 1) r s' ∧ s = closeR s') : Par true .un d (t :: r) s := by
 have h1 : ¬ isW (hdT (t :: r)) qbf = true := by
  show ¬ isW t qbf = true
  intro h
  unfold isW at h ht
  simp only [Bool.and_eq_true,beq_iff_eq] at h ht
  rw [ht.1] at h
  exact absurd h.1 (by decide)
 have h2 : isW (hdT (t :: r)) qbq = true := ht
 by_cases hd : 12 < d + 1
 ·rw [if_pos hd] at hs
  subst hs
  exact ⟨1,by unfold qai; rw [if_neg h1,if_pos h2,if_pos hd]; rfl⟩
 ·rw [if_neg hd] at hs
  obtain ⟨s',⟨n,hn⟩,rfl⟩ := hs
  refine ⟨n + 1,?_⟩
  unfold qai
  rw [if_neg h1,if_pos h2,if_neg hd,show (t :: r).tail = r from rfl,show topJ true = .bin 0 from rfl,hn]
  cases s' with
  | error e => rfl
  | ok x =>
    show (if isW (hdT x.2) qbl = true then PR.ok (x.1,x.2.tail) else PR.err 1 (hdT x.2).p) = some (closeR (.ok x))
    unfold closeR
    simp only
    split <;> rfl
theorem par_none {d : Nat} {t : Tok} {r : List Tok} (h1 : isW t qbf = false) (h2 : isW t qbq = false) (h3 : ¬ (t.k = 48 ∨ t.k = 39)) (h4 : ¬ (t.t = qed ∨ t.t = qdd)) (h5 : ¬ IsName t) : Par true .un d (t :: r) (.error (1,t.p)) := by
 have g1 : ¬ isW (hdT (t :: r)) qbf = true := by show ¬ isW t qbf = true; rw [h1]; simp
 have g2 : ¬ isW (hdT (t :: r)) qbq = true := by show ¬ isW t qbq = true; rw [h2]; simp
 have g3 : ¬ ((hdT (t :: r)).k = 48 ∨ (hdT (t :: r)).k = 39) := h3
 have g4 : ¬ ((hdT (t :: r)).t = qed ∨ (hdT (t :: r)).t = qdd) := h4
 have g5 : ¬ ((hdT (t :: r)).k = 110 ∧ (hdT (t :: r)).t ∉ qes) := h5
 exact ⟨1,by unfold qai; rw [if_neg g1,if_neg g2,if_neg g3,if_neg g4,if_neg g5]; rfl⟩
theorem tok_open {t : Tok} (h : TokOk t) : isW t qbq = decide (t.t = qbq) := by
 by_cases ht : t.t = qbq
 ·have hk : t.k = 111 := by
   rcases h with ⟨_,h2⟩ | ⟨_,c,r,h2,h3⟩ | ⟨_,c,r,h2,h3⟩ | ⟨_,r,h2⟩ | ⟨h1,_⟩
   ·rw [ht] at h2; cases h2
   ·rw [ht] at h2; cases h2; exact absurd h3 (by decide)
   ·rw [ht] at h2; cases h2; exact absurd h3 (by decide)
   ·rw [ht] at h2; cases h2
   ·exact h1
  unfold isW
  simp [ht,hk]
 ·rw [isW_t ht]; simp [ht]
theorem tokCells_split : ∀ (l : List Tok) (j : Nat) (u : Value),(qbb l)[j]? = some u → ∃ i,∃ h : i < l.length,∃ c,c < 3 ∧ j = i * 3 + c ∧ (l[i].cells)[c]? = some u
 | [],j,u,h => by simp [qbb] at h
 | t :: l,j,u,h => by
   have e : qbb (t :: l) = t.cells ++ qbb l := by simp [qbb]
   rw [e] at h
   by_cases hj : j < 3
   ·refine ⟨0,by simp,j,hj,by omega,?_⟩
    rw [List.getElem?_append_left (by show j < 3; exact hj)] at h
    exact h
   ·rw [List.getElem?_append_right (by show 3 ≤ j; omega)] at h
    obtain ⟨i,hi,c,hc,hjc,hu⟩ := tokCells_split l (j - 3) u h
    exact ⟨i + 1,by simp only [List.length_cons]; omega,c,hc,by omega,hu⟩
theorem tokCells_at : ∀ (l : List Tok) (i : Nat) (h : i < l.length) (c : Nat),c < 3 → (qbb l)[i * 3 + c]? = (l[i].cells)[c]?
 | [],i,h,_,_ => absurd h (by simp)
 | t :: l,i,h,c,hc => by
   have e : qbb (t :: l) = t.cells ++ qbb l := by simp [qbb]
   rw [e]
   cases i with
   | zero =>
     rw [List.getElem?_append_left (by show 0 * 3 + c < 3; omega)]
     simp
   | succ i =>
     rw [List.getElem?_append_right (by show 3 ≤ (i + 1) * 3 + c; omega)]
     have : (i + 1) * 3 + c - (t.cells).length = i * 3 + c := by show (i + 1) * 3 + c - 3 = _; omega
     rw [this,tokCells_at l i (by simpa using h) c hc]
     simp
theorem tokCells_len (l : List Tok) : (qbb l).length = l.length * 3 := by
 induction l with
 | nil => rfl
 | cons t l ih =>
   have e : qbb (t :: l) = t.cells ++ qbb l := by simp [qbb]
   rw [e,List.length_append,ih]
   show 3 + l.length * 3 = (l.length + 1) * 3
   omega
theorem toks_of_own {w : World} {B P : Nat} {v : Value} {l : List Tok} (h : w.ownsRow B 102 3 v l.length (qbb l)) (hP : ∀ g,v.ownBlock = some g → g ≠ P) : ToksOf P w v l := by
 rcases h.2 with ⟨hv,h0⟩ | ⟨g,cap,cur,hv,hb,hg,hnc,hcm,hcs,htake⟩
 ·have hl : l = [] := List.eq_nil_of_length_eq_zero h0
  subst hl
  refine ⟨⟨none,0,hv,Nat.le_refl _,by unfold maxLen; omega,fun _ => rfl,fun i hi => absurd hi (by simp)⟩,fun g o n c e => ?_⟩
  rw [hv] at e; cases e
 ·have hne := hP g (by rw [hv]; rfl)
  have hc := h.cells (g := g) (by rw [hv]; rfl)
  refine ⟨⟨some ⟨g,0,none⟩,cap,hv,hnc,hcm,(fun e => by cases e),fun i hi => ⟨g,0,rfl,hne,?_⟩⟩,fun g' o n c e => ?_⟩
  ·have at_ : ∀ c u,c < 3 → (l[i].cells)[c]? = some u → w.cell? ⟨g,0 + i * 3 + c,none⟩ = some u := fun c u h3 hu => by
    have := hc (i * 3 + c) u (by rw [tokCells_at l i hi c h3]; exact hu)
    rw [qeg rfl] at this
    rw [Nat.zero_add]
    simpa using this
   exact ⟨at_ 0 _ (by omega) rfl,at_ 1 _ (by omega) rfl,at_ 2 _ (by omega) rfl⟩
  ·rw [hv] at e
   simp only [Value.slice.injEq,Option.some.injEq,Addr.mk.injEq] at e
   obtain ⟨⟨rfl,-,-⟩,-,-⟩ := e
   exact ⟨hne,_,_,hg⟩
theorem toks_cells {P : Nat} {w : World} {g o n c : Nat} {l : List Tok} (h : ToksOf P w (.slice (some ⟨g,o,none⟩) n c) l) : n = l.length ∧ l.length ≤ c ∧ ∀ j u,(qbb l)[j]? = some u → w.cell? ((⟨g,o,none⟩ : Addr).add j) = some u := by
 obtain ⟨⟨a,c',hv,hl,hc,hn,he⟩,-⟩ := h
 simp only [Value.slice.injEq] at hv
 obtain ⟨rfl,rfl,rfl⟩ := hv
 refine ⟨rfl,hl,fun j u hj => ?_⟩
 obtain ⟨i,hi,k,hk,rfl,hu⟩ := tokCells_split l j u hj
 obtain ⟨b,o',hb,-,h0,h1,h2⟩ := he i hi
 simp only [Option.some.injEq,Addr.mk.injEq] at hb
 obtain ⟨rfl,rfl,-⟩ := hb
 rw [qeg rfl]
 match k,hk with
 | 0,_ => have : some _ = some u := hu; cases this; simpa [Nat.add_assoc] using h0
 | 1,_ => have : some _ = some u := hu; cases this; simpa [Nat.add_assoc] using h1
 | 2,_ => have : some _ = some u := hu; cases this; simpa [Nat.add_assoc] using h2
end Go.Proofs.YtgajofkeidjbgaaGreatDoor
