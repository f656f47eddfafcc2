/-
  PROVED HERE: the document's reading of tokens: in, close.
  PROVED HERE: the document's parser behind a fault: nothing more is read.
-/
import Derived.Test.YtgajofkeidjbgaaGreatDoorGRefP1
namespace Go.Proofs.YtgajofkeidjbgaaGreatDoor
set_option linter.unusedSimpArgs false
set_option linter.unusedVariables false
open Go.RowKit

/-- what 'in' leaves. -/
def InTo (R : Nat) (K : Row3) (L : List Tok) (i d p : Nat) (w' : World) : Prop := if 12 < d + 1 then RAt w' R K L i (d + 1) 4 p else RAt w' R K L i (d + 1) 0 0
/-- what 'close' leaves. -/
def CloseTo (R : Nat) (K : Row3) (L : List Tok) (i d bad : Nat) (e : Int) (t : Tok) (w' : World) : Prop :=
  if e = 0 then (if isW t closeW = true then RAt w' R K L (i + 1) d 0 bad else RAt w' R K L i d 1 t.p) else RAt w' R K L i d e bad

set_option maxRecDepth 100000 in
set_option maxHeartbeats 2000000 in
theorem rin_any (R : Nat) (K : Row3) (L : List Tok) (i d : Nat) (w : World) (h : RAt w R K L i d 0 0) (hi : i < L.length) (hd : d ≤ 12) : Calls Tryz.prog 45 #[.pointer (some ⟨R, 0, none⟩)] w fun en w' =>
    en = .returned (.tuple #[]) ∧ Keeps (fun b => b ≠ R) w w' ∧ InTo R K L i d L[i].p w' := by
  have HD := hid hd
  have hset := h.set
  obtain ⟨-, -, c2, -, -, hz, hlt⟩ := h.cells
  have z2 := hz 2
  have hwr : wrap64 ((d : Int) + 1) = ((d + 1 : Nat) : Int) := by unfold wrap64; omega
  have HWR := hid hwr
  have hdn : ¬ (9223372036854775807 : Int) < d + 1 := by omega
  obtain ⟨w1, hw1⟩ : ∃ w1, w1 = w.setCell ⟨R, 2, none⟩ (.int .i64 ((d + 1 : Nat) : Int)) := ⟨_, rfl⟩
  have h1 : RAt w1 R K L i (d + 1) 0 0 := by rw [hw1]; exact hset.2.1 (d + 1)
  have hk1 : Keeps (fun b => b ≠ R) w w1 := by rw [hw1]; exact hset.2.2.2.2 2 _
  have HK1 := hid hk1; have H1 := hid h1
  have HW1 := hid hw1
  clear hset h hz hd hwr hk1 hw1
  go_enter Tryz.func45, Tryz.ntmps45
  go_upto_region 1 with (fail)
  rw [show w.setCell ⟨R, 2, none⟩ (.int .i64 ((d : Int) + 1)) = w1 from HW1.out.symm]
  obtain ⟨-, k1, k2, -, -, -, kl⟩ := h1.cells
  clear h1 c2 z2 hlt hdn
  by_cases hn : 12 < d + 1
  · have hn' : (12 : Int) < ((d + 1 : Nat) : Int) := by omega
    have HN := hid hn
    clear hn
    have ht := H1.out.2.2 i hi
    have c0 := H1.out.cells.1
    obtain ⟨t, htt⟩ : ∃ t, t = L[i] := ⟨_, rfl⟩
    rw [← htt] at ht
    have HTT := hid htt
    obtain ⟨g, o, c⟩ := K
    simp only at ht c0
    have hii : (i : Int) < (L.length : Int) := by omega
    clear htt
    go_upto_region 2 with (fail)
    refine wp_region_held_drew (S := fun w => w.cell? ⟨R, 0, none⟩ = some (.slice (some ⟨g, o, none⟩) L.length c) ∧ w.cell? ⟨R, 1, none⟩ = some (.int .i64 (i : Int)) ∧ w.cell? ⟨g, o + i * 3 + 2, none⟩ = some (.int .i64 (t.p : Int)))
      (by kernel_rfl) ⟨(Later.drew w1).cell c0, (Later.drew w1).cell k1, (Later.drew w1).cell ht.2.2⟩ (fun hS => ?_)
    clear c0 ht
    refine wpAnyH_take (i := 0) (v := .pointer (some ⟨R, 0, none⟩)) rfl (by kernel_rfl) (by kernel_rfl) (by kernel_rfl) (fun _ _ _ h => h) (Or.inl ⟨by rfl, ?_⟩) hS ?_
    · intro w hS
      clear hS
      go_simp
    try simp only [Act.put, List.setIfInBounds_toArray, List.set]
    refine wpAnyH_take (i := 1) (v := .pointer (some ⟨R, 0, none⟩)) rfl (by kernel_rfl) (by kernel_rfl) (by kernel_rfl) (fun _ _ _ h => h) (Or.inl ⟨by rfl, ?_⟩) hS ?_
    · intro w hS
      clear hS
      go_simp
    try simp only [Act.put, List.setIfInBounds_toArray, List.set]
    refine wpAnyH_take (i := 5) (v := .pointer (some ⟨R, 0, none⟩)) rfl (by kernel_rfl) (by kernel_rfl) (by kernel_rfl) (fun _ _ _ h => h) (Or.inl ⟨by rfl, ?_⟩) hS ?_
    · intro w hS
      clear hS
      go_simp
    try simp only [Act.put, List.setIfInBounds_toArray, List.set]
    refine wpAnyH_take (i := 2) (v := .pointer (some ⟨R, 0, none⟩)) rfl (by kernel_rfl) (by kernel_rfl) (by kernel_rfl) (fun _ _ _ h => h) (Or.inl ⟨by rfl, ?_⟩) hS ?_
    · rintro w ⟨h0, -⟩
      try (have := cell_lt h0)
      go_simp
    try simp only [Act.put, List.setIfInBounds_toArray, List.set]
    refine wpAnyH_take (i := 6) (v := .pointer (some ⟨R, 0, none⟩)) rfl (by kernel_rfl) (by kernel_rfl) (by kernel_rfl) (fun _ _ _ h => h) (Or.inl ⟨by rfl, ?_⟩) hS ?_
    · rintro w ⟨h0, -⟩
      try (have := cell_lt h0)
      go_simp
    try simp only [Act.put, List.setIfInBounds_toArray, List.set]
    refine wpAnyH_take (i := 3) (v := .pointer (some ⟨R, 0, none⟩)) rfl (by kernel_rfl) (by kernel_rfl) (by kernel_rfl) (fun _ _ _ h => h) (Or.inl ⟨by rfl, ?_⟩) hS ?_
    · rintro w ⟨h0, -⟩
      try (have := cell_lt h0)
      go_simp
    try simp only [Act.put, List.setIfInBounds_toArray, List.set]
    refine wpAnyH_take (i := 7) (v := .pointer (some ⟨R, 1, none⟩)) rfl (by kernel_rfl) (by kernel_rfl) (by kernel_rfl) (fun _ _ _ h => h) (Or.inl ⟨by rfl, ?_⟩) hS ?_
    · rintro w ⟨h0, -⟩
      try (have := cell_lt h0)
      go_simp
    try simp only [Act.put, List.setIfInBounds_toArray, List.set]
    refine wpAnyH_take (i := 4) (v := .slice (some ⟨g, o, none⟩) L.length c) rfl (by kernel_rfl) (by kernel_rfl) (by kernel_rfl) (fun _ _ _ h => h) (Or.inl ⟨by rfl, ?_⟩) hS ?_
    · rintro w ⟨h0, -⟩
      try (have := cell_lt h0)
      go_simp
    try simp only [Act.put, List.setIfInBounds_toArray, List.set]
    refine wpAnyH_take (i := 8) (v := .int .i64 (i : Int)) rfl (by kernel_rfl) (by kernel_rfl) (by kernel_rfl) (fun _ _ _ h => h) (Or.inl ⟨by rfl, ?_⟩) hS ?_
    · rintro w ⟨-, h0, -⟩
      try (have := cell_lt h0)
      go_simp
    try simp only [Act.put, List.setIfInBounds_toArray, List.set]
    refine wpAnyH_take (i := 9) (v := .pointer (some ⟨g, o + i * 3, none⟩)) rfl (by kernel_rfl) (by kernel_rfl) (by kernel_rfl) (fun _ _ _ h => h) (Or.inl ⟨by rfl, ?_⟩) hS ?_
    · intro w hS
      clear hS
      go_simp
    try simp only [Act.put, List.setIfInBounds_toArray, List.set]
    refine wpAnyH_take (i := 10) (v := .pointer (some ⟨g, o + i * 3 + 2, none⟩)) rfl (by kernel_rfl) (by kernel_rfl) (by kernel_rfl) (fun _ _ _ h => h) (Or.inl ⟨by rfl, ?_⟩) hS ?_
    · rintro w ⟨-, -, h0⟩
      try (have := cell_lt h0)
      go_simp
    try simp only [Act.put, List.setIfInBounds_toArray, List.set]
    refine wpAnyH_take (i := 11) (v := .int .i64 (t.p : Int)) rfl (by kernel_rfl) (by kernel_rfl) (by kernel_rfl) (fun _ _ _ h => h) (Or.inl ⟨by rfl, ?_⟩) hS ?_
    · rintro w ⟨-, -, h0⟩
      try (have := cell_lt h0)
      go_simp
    try simp only [Act.put, List.setIfInBounds_toArray, List.set]
    refine wpAnyH_ready (rs := [12]) (by kernel_rfl) (by simp) (AllReadyH.cons rfl (fun K hK => ?_) AllReadyH.nil)
    go_simp
    refine (rfail_any R ⟨g, o, c⟩ L i (d + 1) 0 0 4 t.p w1.drew (H1.out.later (Later.drew w1)) (by omega)).mono ?_
    rintro e w2 ⟨rfl, hk2, h2⟩
    simp only [if_true] at h2
    have HK2 := hid hk2; have H2 := hid h2
    have ht2 := h2.2.2 i hi
    rw [← HTT.out] at ht2
    have hS2 : w2.cell? ⟨R, 0, none⟩ = some (.slice (some ⟨g, o, none⟩) L.length c) ∧ w2.cell? ⟨R, 1, none⟩ = some (.int .i64 (i : Int)) ∧ w2.cell? ⟨g, o + i * 3 + 2, none⟩ = some (.int .i64 (t.p : Int)) := ⟨h2.cells.1, h2.cells.2.1, ht2.2.2⟩
    clear hk2 h2 ht2 hS
    refine hK.out _ _ hS2 (fun hS => ?_)
    clear hK K
    try simp only [Act.put, List.setIfInBounds_toArray, List.set]
    refine wpAnyH_done (by kernel_rfl) ?_ _
    clear hS hS2 k1 k2 kl
    go_wp2_with fail
    refine bodyPost_end (results_none rfl _ _ _) rfl ⟨rfl, HK1.out.trans (((Later.drew w1).keeps _).trans HK2.out), ?_⟩
    unfold InTo
    rw [if_pos HN.out, ← HTT.out]
    exact H2.out
  · have hn' : ¬ (12 : Int) < ((d + 1 : Nat) : Int) := by omega
    have HN := hid hn
    clear hn
    go_wp2_with fail
    refine bodyPost_end (results_none rfl _ _ _) rfl ⟨rfl, HK1.out, ?_⟩
    unfold InTo
    rw [if_neg HN.out]
    exact H1.out
set_option maxRecDepth 100000 in
set_option maxHeartbeats 2000000 in
theorem rclose_any (R : Nat) (K : Row3) (L : List Tok) (i d bad : Nat) (e : Int) (w : World) (h : RAt w R K L i d e bad) (hi : i < L.length) (hL : L.length ≤ 1048576) : Calls Tryz.prog 76 #[.pointer (some ⟨R, 0, none⟩)] w fun en w' =>
    en = .returned (.tuple #[]) ∧ Keeps (fun b => b ≠ R) w w' ∧ CloseTo R K L i d bad e L[i] w' := by
  have HR := hid h
  clear h
  go_enter Tryz.func76, Tryz.ntmps76
  go_wp2_with fail
  refine (sign_any R K L i d bad e closeW w HR.out hi).mono ?_
  rintro en w1 ⟨rfl, hL1⟩
  have HL1 := hid hL1
  have H1 := hid (HR.out.later hL1)
  clear hL1
  obtain ⟨bb, hbb⟩ : ∃ b, (decide (e = 0) && isW L[i] closeW) = b := ⟨_, rfl⟩
  rw [hbb]
  have HBB := hid hbb
  clear hbb
  cases bb with
  | true =>
    have HE : Hid (e = 0 ∧ isW L[i] closeW = true) := hid (by have := HBB.out; simpa using this)
    obtain ⟨-, c1, -, -, -, hz, hlt⟩ := H1.out.cells
    have z1 := hz 1
    have HWR : Hid (wrap64 ((i : Int) + 1) = ((i + 1 : Nat) : Int)) := hid (by unfold wrap64; omega)
    clear hz
    go_wp2_with fail
    try simp only [HWR.out]
    refine bodyPost_end (results_none rfl _ _ _) rfl ⟨rfl, (HL1.out.keeps _).trans (H1.out.set.2.2.2.2 1 _), ?_⟩
    unfold CloseTo
    rw [if_pos HE.out.1, if_pos HE.out.2]
    have h := H1.out.set.1 (i + 1)
    rw [HE.out.1] at h
    exact h
  | false =>
    have ht := H1.out.2.2 i hi
    obtain ⟨c0, k1, -⟩ := H1.out.cells
    obtain ⟨t, htt⟩ : ∃ t, t = L[i] := ⟨_, rfl⟩
    rw [← htt] at ht
    have HTT := hid htt
    obtain ⟨g, o, c⟩ := K
    simp only at ht c0
    have hii : (i : Int) < (L.length : Int) := by omega
    clear htt
    go_upto_region 2 with (fail)
    refine wp_region_held_drew (S := fun w => w.cell? ⟨R, 0, none⟩ = some (.slice (some ⟨g, o, none⟩) L.length c) ∧ w.cell? ⟨R, 1, none⟩ = some (.int .i64 (i : Int)) ∧ w.cell? ⟨g, o + i * 3 + 2, none⟩ = some (.int .i64 (t.p : Int)))
      (by kernel_rfl) ⟨(Later.drew w1).cell c0, (Later.drew w1).cell k1, (Later.drew w1).cell ht.2.2⟩ (fun hS => ?_)
    clear c0 ht
    refine wpAnyH_take (i := 0) (v := .pointer (some ⟨R, 0, none⟩)) rfl (by kernel_rfl) (by kernel_rfl) (by kernel_rfl) (fun _ _ _ h => h) (Or.inl ⟨by rfl, ?_⟩) hS ?_
    · intro w hS
      clear hS
      go_simp
    try simp only [Act.put, List.setIfInBounds_toArray, List.set]
    refine wpAnyH_take (i := 1) (v := .pointer (some ⟨R, 0, none⟩)) rfl (by kernel_rfl) (by kernel_rfl) (by kernel_rfl) (fun _ _ _ h => h) (Or.inl ⟨by rfl, ?_⟩) hS ?_
    · intro w hS
      clear hS
      go_simp
    try simp only [Act.put, List.setIfInBounds_toArray, List.set]
    refine wpAnyH_take (i := 5) (v := .pointer (some ⟨R, 0, none⟩)) rfl (by kernel_rfl) (by kernel_rfl) (by kernel_rfl) (fun _ _ _ h => h) (Or.inl ⟨by rfl, ?_⟩) hS ?_
    · intro w hS
      clear hS
      go_simp
    try simp only [Act.put, List.setIfInBounds_toArray, List.set]
    refine wpAnyH_take (i := 2) (v := .pointer (some ⟨R, 0, none⟩)) rfl (by kernel_rfl) (by kernel_rfl) (by kernel_rfl) (fun _ _ _ h => h) (Or.inl ⟨by rfl, ?_⟩) hS ?_
    · rintro w ⟨h0, -⟩
      try (have := cell_lt h0)
      go_simp
    try simp only [Act.put, List.setIfInBounds_toArray, List.set]
    refine wpAnyH_take (i := 6) (v := .pointer (some ⟨R, 0, none⟩)) rfl (by kernel_rfl) (by kernel_rfl) (by kernel_rfl) (fun _ _ _ h => h) (Or.inl ⟨by rfl, ?_⟩) hS ?_
    · rintro w ⟨h0, -⟩
      try (have := cell_lt h0)
      go_simp
    try simp only [Act.put, List.setIfInBounds_toArray, List.set]
    refine wpAnyH_take (i := 3) (v := .pointer (some ⟨R, 0, none⟩)) rfl (by kernel_rfl) (by kernel_rfl) (by kernel_rfl) (fun _ _ _ h => h) (Or.inl ⟨by rfl, ?_⟩) hS ?_
    · rintro w ⟨h0, -⟩
      try (have := cell_lt h0)
      go_simp
    try simp only [Act.put, List.setIfInBounds_toArray, List.set]
    refine wpAnyH_take (i := 7) (v := .pointer (some ⟨R, 1, none⟩)) rfl (by kernel_rfl) (by kernel_rfl) (by kernel_rfl) (fun _ _ _ h => h) (Or.inl ⟨by rfl, ?_⟩) hS ?_
    · rintro w ⟨h0, -⟩
      try (have := cell_lt h0)
      go_simp
    try simp only [Act.put, List.setIfInBounds_toArray, List.set]
    refine wpAnyH_take (i := 4) (v := .slice (some ⟨g, o, none⟩) L.length c) rfl (by kernel_rfl) (by kernel_rfl) (by kernel_rfl) (fun _ _ _ h => h) (Or.inl ⟨by rfl, ?_⟩) hS ?_
    · rintro w ⟨h0, -⟩
      try (have := cell_lt h0)
      go_simp
    try simp only [Act.put, List.setIfInBounds_toArray, List.set]
    refine wpAnyH_take (i := 8) (v := .int .i64 (i : Int)) rfl (by kernel_rfl) (by kernel_rfl) (by kernel_rfl) (fun _ _ _ h => h) (Or.inl ⟨by rfl, ?_⟩) hS ?_
    · rintro w ⟨-, h0, -⟩
      try (have := cell_lt h0)
      go_simp
    try simp only [Act.put, List.setIfInBounds_toArray, List.set]
    refine wpAnyH_take (i := 9) (v := .pointer (some ⟨g, o + i * 3, none⟩)) rfl (by kernel_rfl) (by kernel_rfl) (by kernel_rfl) (fun _ _ _ h => h) (Or.inl ⟨by rfl, ?_⟩) hS ?_
    · intro w hS
      clear hS
      go_simp
    try simp only [Act.put, List.setIfInBounds_toArray, List.set]
    refine wpAnyH_take (i := 10) (v := .pointer (some ⟨g, o + i * 3 + 2, none⟩)) rfl (by kernel_rfl) (by kernel_rfl) (by kernel_rfl) (fun _ _ _ h => h) (Or.inl ⟨by rfl, ?_⟩) hS ?_
    · rintro w ⟨-, -, h0⟩
      try (have := cell_lt h0)
      go_simp
    try simp only [Act.put, List.setIfInBounds_toArray, List.set]
    refine wpAnyH_take (i := 11) (v := .int .i64 (t.p : Int)) rfl (by kernel_rfl) (by kernel_rfl) (by kernel_rfl) (fun _ _ _ h => h) (Or.inl ⟨by rfl, ?_⟩) hS ?_
    · rintro w ⟨-, -, h0⟩
      try (have := cell_lt h0)
      go_simp
    try simp only [Act.put, List.setIfInBounds_toArray, List.set]
    refine wpAnyH_ready (rs := [12]) (by kernel_rfl) (by simp) (AllReadyH.cons rfl (fun K hK => ?_) AllReadyH.nil)
    go_simp
    refine (rfail_any R ⟨g, o, c⟩ L i d bad e 1 t.p w1.drew (H1.out.later (Later.drew w1)) (by omega)).mono ?_
    rintro en w2 ⟨rfl, hk2, h2⟩
    have HK2 := hid hk2
    have H2 : Hid (∃ e' b', RAt w2 R ⟨g, o, c⟩ L i d e' b') := hid (by
      by_cases he : e = 0
      · rw [if_pos he] at h2; exact ⟨_, _, h2⟩
      · rw [if_neg he] at h2; rw [h2]; exact ⟨_, _, H1.out.later (Later.drew w1)⟩)
    have H3 := hid h2
    obtain ⟨e', b', h4⟩ := H2.out
    have ht2 := h4.2.2 i hi
    rw [← HTT.out] at ht2
    have hS2 : w2.cell? ⟨R, 0, none⟩ = some (.slice (some ⟨g, o, none⟩) L.length c) ∧ w2.cell? ⟨R, 1, none⟩ = some (.int .i64 (i : Int)) ∧ w2.cell? ⟨g, o + i * 3 + 2, none⟩ = some (.int .i64 (t.p : Int)) := ⟨h4.cells.1, h4.cells.2.1, ht2.2.2⟩
    clear hk2 h2 ht2 hS h4
    refine hK.out _ _ hS2 (fun hS => ?_)
    clear hK K
    try simp only [Act.put, List.setIfInBounds_toArray, List.set]
    refine wpAnyH_done (by kernel_rfl) ?_ _
    clear hS hS2 k1
    go_wp2_with fail
    refine bodyPost_ret (results_none rfl _ _ _) rfl ⟨rfl, (HL1.out.keeps _).trans (((Later.drew w1).keeps _).trans HK2.out), ?_⟩
    have h := H3.out
    unfold CloseTo
    by_cases he : e = 0
    · rw [if_pos he] at h ⊢
      have hb := HBB.out
      rw [decide_eq_true he] at hb
      rw [if_neg (by simp at hb; rw [hb]; simp), ← HTT.out]
      exact h
    · rw [if_neg he] at h ⊢
      rw [h]
      exact H1.out.later (Later.drew w1)
end Go.Proofs.YtgajofkeidjbgaaGreatDoor
namespace Go.Proofs.YtgajofkeidjbgaaGreatDoor
set_option linter.unusedSimpArgs false
set_option linter.unusedVariables false
open Go.RowKit

def SomePtr (w : World) (e : Ending) (w' : World) : Prop := (∃ B, e = .returned (.pointer (some ⟨B, 0, none⟩))) ∧ Later w w'
set_option maxRecDepth 100000 in
set_option maxHeartbeats 2000000 in
theorem rfirst_err (R : Nat) (K : Row3) (L : List Tok) (i d bad : Nat) (e : Int) (w : World) (h : RAt w R K L i d e bad) (he : e ≠ 0) (hi : i < L.length) : Calls Tryz.prog 46 #[.pointer (some ⟨R, 0, none⟩)] w (SomePtr w) := by
  have tt := h.2.2 i hi
  obtain ⟨c0, c1, -, c3, -, -, hlt⟩ := h.cells
  obtain ⟨g, o, c⟩ := K
  obtain ⟨t, ht⟩ : ∃ t, t = L[i] := ⟨_, rfl⟩
  rw [← ht] at tt
  simp only at c0 tt
  have hii : (i : Int) < (L.length : Int) := by omega
  have hne : (e != 0) = true := by simpa using he
  clear h ht he
  go_enter Tryz.func46, Tryz.ntmps46
  go_upto_region 1 with (fail)
  refine wp_region_held_drew (S := fun w => w.cell? ⟨R, 0, none⟩ = some (.slice (some ⟨g, o, none⟩) L.length c) ∧ w.cell? ⟨R, 1, none⟩ = some (.int .i64 (i : Int)) ∧ TokAt w g (o + i * 3) t.d) (by kernel_rfl) ⟨(Later.drew w).cell c0, (Later.drew w).cell c1, (Later.drew w).cell tt.1, (Later.drew w).cell tt.2.1, (Later.drew w).cell tt.2.2⟩ (fun hS => ?_)
  refine wpAnyH_take (i := 0) (v := .pointer (some ⟨R, 0, none⟩)) rfl (by kernel_rfl) (by kernel_rfl) (by kernel_rfl) (fun _ _ _ h => h) (Or.inl ⟨by rfl, ?_⟩) hS ?_
  · intro w hS
    clear hS
    go_simp
  try simp only [Act.put, List.setIfInBounds_toArray, List.set]
  refine wpAnyH_take (i := 4) (v := .pointer (some ⟨R, 0, none⟩)) rfl (by kernel_rfl) (by kernel_rfl) (by kernel_rfl) (fun _ _ _ h => h) (Or.inl ⟨by rfl, ?_⟩) hS ?_
  · intro w hS
    clear hS
    go_simp
  try simp only [Act.put, List.setIfInBounds_toArray, List.set]
  refine wpAnyH_take (i := 1) (v := .pointer (some ⟨R, 0, none⟩)) rfl (by kernel_rfl) (by kernel_rfl) (by kernel_rfl) (fun _ _ _ h => h) (Or.inl ⟨by rfl, ?_⟩) hS ?_
  · rintro w ⟨h0, -⟩
    try (have := cell_lt h0)
    go_simp
  try simp only [Act.put, List.setIfInBounds_toArray, List.set]
  refine wpAnyH_take (i := 5) (v := .pointer (some ⟨R, 0, none⟩)) rfl (by kernel_rfl) (by kernel_rfl) (by kernel_rfl) (fun _ _ _ h => h) (Or.inl ⟨by rfl, ?_⟩) hS ?_
  · rintro w ⟨h0, -⟩
    try (have := cell_lt h0)
    go_simp
  try simp only [Act.put, List.setIfInBounds_toArray, List.set]
  refine wpAnyH_take (i := 2) (v := .pointer (some ⟨R, 0, none⟩)) rfl (by kernel_rfl) (by kernel_rfl) (by kernel_rfl) (fun _ _ _ h => h) (Or.inl ⟨by rfl, ?_⟩) hS ?_
  · rintro w ⟨h0, -⟩
    try (have := cell_lt h0)
    go_simp
  try simp only [Act.put, List.setIfInBounds_toArray, List.set]
  refine wpAnyH_take (i := 6) (v := .pointer (some ⟨R, 1, none⟩)) rfl (by kernel_rfl) (by kernel_rfl) (by kernel_rfl) (fun _ _ _ h => h) (Or.inl ⟨by rfl, ?_⟩) hS ?_
  · rintro w ⟨h0, -⟩
    try (have := cell_lt h0)
    go_simp
  try simp only [Act.put, List.setIfInBounds_toArray, List.set]
  refine wpAnyH_take (i := 3) (v := .slice (some ⟨g, o, none⟩) L.length c) rfl (by kernel_rfl) (by kernel_rfl) (by kernel_rfl) (fun _ _ _ h => h) (Or.inl ⟨by rfl, ?_⟩) hS ?_
  · rintro w ⟨h0, -⟩
    try (have := cell_lt h0)
    go_simp
  try simp only [Act.put, List.setIfInBounds_toArray, List.set]
  refine wpAnyH_take (i := 7) (v := .int .i64 (i : Int)) rfl (by kernel_rfl) (by kernel_rfl) (by kernel_rfl) (fun _ _ _ h => h) (Or.inl ⟨by rfl, ?_⟩) hS ?_
  · rintro w ⟨-, h0, -⟩
    try (have := cell_lt h0)
    go_simp
  try simp only [Act.put, List.setIfInBounds_toArray, List.set]
  refine wpAnyH_take (i := 8) (v := .pointer (some ⟨g, o + i * 3, none⟩)) rfl (by kernel_rfl) (by kernel_rfl) (by kernel_rfl) (fun _ _ _ h => h) (Or.inl ⟨by rfl, ?_⟩) hS ?_
  · intro w hS
    clear hS
    go_simp
  try simp only [Act.put, List.setIfInBounds_toArray, List.set]
  refine wpAnyH_take (i := 9) (v := .agg #[.int .u8 (t.d.k.toNat : Int), .string (strB t.d.t), .int .i64 (t.d.p : Int)]) rfl (by kernel_rfl) (by kernel_rfl) (by kernel_rfl) (fun _ _ _ h => h) (Or.inl ⟨by rfl, ?_⟩) hS ?_
  · rintro w ⟨-, -, h0, h1, h2⟩
    try (have := cell_lt h0)
    go_simp
  try simp only [Act.put, List.setIfInBounds_toArray, List.set]
  refine wpAnyH_ready (rs := [10]) (by kernel_rfl) (by simp) (AllReadyH.cons rfl (fun K hK => ?_) AllReadyH.nil)
  go_simp
  obtain ⟨wA_, hwA⟩ : ∃ w1, w1 = (w.alloc (.cells #[.int .u8 0, .string ⟨#[]⟩, .int .i64 0] 71)).drew := ⟨_, rfl⟩
  have hLA : Later w wA_ := by rw [hwA]; exact Later.trans _ _ _ (Later.alloc _ _) (Later.drew _)
  have hNA : wA_.heap[w.heap.size]? = some (.cells #[.int .u8 0, .string ⟨#[]⟩, .int .i64 0] 71 (0, 0)) := by rw [hwA]; exact obj_new _ _
  obtain ⟨Tw2, hTv⟩ : ∃ T, T = w.heap.size := ⟨_, rfl⟩
  have hTww2 : w.heap.size ≤ Tw2 := by omega
  rw [← hwA, ← hTv]
  rw [← hTv] at hNA
  have k0_ : wA_.cell? ⟨Tw2, 0, none⟩ = some (.int .u8 0) := cell_obj (i := 0) hNA rfl
  have k1_ : wA_.cell? ⟨Tw2, 1, none⟩ = some (.string ⟨#[]⟩) := cell_obj (i := 1) hNA rfl
  have k2_ : wA_.cell? ⟨Tw2, 2, none⟩ = some (.int .i64 0) := cell_obj (i := 2) hNA rfl
  have z0_ := free_obj (i := 0) hNA
  have z1_ := free_obj (i := 1) hNA
  have z2_ := free_obj (i := 2) hNA
  have kl_ := cell_lt k0_
  have hSA : wA_.cell? ⟨R, 0, none⟩ = some (.slice (some ⟨g, o, none⟩) L.length c) ∧ wA_.cell? ⟨R, 1, none⟩ = some (.int .i64 (i : Int)) ∧ TokAt wA_ g (o + i * 3) t.d := ⟨hLA.cell c0, hLA.cell c1, hLA.cell tt.1, hLA.cell tt.2.1, hLA.cell tt.2.2⟩
  clear hwA hTv hS
  refine hK.out _ _ hSA (fun hS => ?_)
  clear hK K
  try simp only [Act.put, List.setIfInBounds_toArray, List.set]
  clear hSA
  refine wpAnyH_ready (rs := [11]) (by kernel_rfl) (by simp) (AllReadyH.cons rfl (fun K hK => ?_) AllReadyH.nil)
  go_simp
  obtain ⟨w2, hwB⟩ : ∃ w2, w2 = ((wA_.setCell ⟨Tw2, 0, none⟩ (.int .u8 (t.d.k.toNat : Int))).setCell ⟨Tw2, 1, none⟩ (.string (strB t.d.t))).setCell ⟨Tw2, 2, none⟩ (.int .i64 (t.d.p : Int)) := ⟨_, rfl⟩
  obtain ⟨hLw2, hTw2⟩ := tokvar_set hLA hNA hTww2 hwB
  rw [← hwB]
  have hSB : w2.cell? ⟨R, 0, none⟩ = some (.slice (some ⟨g, o, none⟩) L.length c) ∧ w2.cell? ⟨R, 1, none⟩ = some (.int .i64 (i : Int)) ∧ TokAt w2 g (o + i * 3) t.d := ⟨hLw2.cell c0, hLw2.cell c1, hLw2.cell tt.1, hLw2.cell tt.2.1, hLw2.cell tt.2.2⟩
  clear hwB k0_ k1_ k2_ z0_ z1_ z2_ kl_ hLA hNA hS
  refine hK.out _ _ hSB (fun hS => ?_)
  clear hK K
  try simp only [Act.put, List.setIfInBounds_toArray, List.set]
  refine wpAnyH_done (by kernel_rfl) ?_ _
  clear hS hSB
  have e3 := hLw2.cell c3
  have rl := cell_lt e3
  have HL2 := hid hLw2
  clear c0 c1 c3 tt hlt hLw2 hTw2 hTww2
  go_wp2_with fail
  exact bodyPost_ret (results_tmp rfl _ _ _) rfl ⟨⟨_, rfl⟩, HL2.out.alloc' _⟩
set_option maxRecDepth 100000 in
set_option maxHeartbeats 2000000 in
theorem rclimb_err (R : Nat) (K : Row3) (L : List Tok) (i d bad : Nat) (e : Int) (q : Nat) (w : World) (h : RAt w R K L i d e bad) (he : e ≠ 0) (hi : i < L.length) : Calls Tryz.prog 22 #[.pointer (some ⟨R, 0, none⟩), .int .i64 (q : Int)] w (SomePtr w) := by
  have HR := hid h; have HE := hid he
  clear h he
  go_enter Tryz.func22, Tryz.ntmps22
  go_wp2_with fail
  refine (sign_any R K L i d bad e notW w HR.out hi).mono ?_
  rintro en w1 ⟨rfl, hL1⟩
  rw [show (decide (e = 0) && isW L[i] notW) = false by rw [decide_eq_false HE.out]; rfl]
  have HL1 := hid hL1
  have HR1 := hid (HR.out.later hL1)
  clear hL1
  have tail : ∀ w2, Later w1 w2 → Later w w2 ∧ RAt w2 R K L i d e bad := fun w2 h => ⟨Later.trans _ _ _ HL1.out h, HR1.out.later h⟩
  have HTAIL := hid tail
  clear tail
  by_cases hq : q ≤ 3
  · have hqi : (q : Int) ≤ 3 := by omega
    clear hq
    go_wp2_with fail
    refine (rfirst_err R K L i d bad e w1 HR1.out HE.out hi).mono ?_
    rintro en w2 ⟨⟨B, rfl⟩, hL2⟩
    have H2 := hid (HTAIL.out w2 hL2)
    clear hL2
    go_upto_region 12 with (fail)
    obtain ⟨R1, hR1⟩ : ∃ RR_ : (Nat → Value) → World → Prop, RR_ = (fun us wx => us 5 = .pointer (some ⟨B, 0, none⟩) ∧ wx = w2) := ⟨_, rfl⟩
    obtain ⟨mu1, hmu1⟩ : ∃ mu : (Nat → Value) → World → Nat, mu = (fun _ _ => 0) := ⟨_, rfl⟩
    have HR1 := hid hR1; have Hmu1 := hid hmu1; clear hR1 hmu1
    refine wp_loop_frame' [false, false, false, false, false, true, true, false, true, true, true, true, false, false, false, false, false, false, false, false, false, false, false, false, false, false, false, false, false, false, false, false, false, false, false, false, false, false, false, false, false, false, false, false, false, false, false, false, false, false, false, false, false, false, false, false, false, false, false, true, true, true, true, true, true, true, true, true, true, true, true, true, true, true, true, true, true, true, true, true, true, true, true, true, true, true, true, true, true, true, true, true, true, true, true, true, true, true, true, true, true, true, true, true, true, true, true, true, true, true, true, true, true, true, true, true, true, true, true, true, true, true, true, true, true, true, true, true, true, true, true, true, true, true, true] R1 _ mu1 HR1.out ?_ ?_
    · exact ⟨rfl, rfl⟩
    intro us1 wx hrel
    obtain ⟨h5, hwx⟩ := hrel
    simp only [frameOf, Nat.reduceAdd, h5]
    have Hh5 := hid h5; clear h5
    subst hwx
    obtain ⟨-, -, -, c3, -, -, hlt⟩ := H2.out.2.cells
    have hne : (e == 0) = false := by have := HE.out; simpa using this
    go_wp2_with fail
    exact bodyPost_ret (results_tmp rfl _ _ _) rfl ⟨⟨B, rfl⟩, H2.out.1⟩
  · have hqi : ¬ (q : Int) ≤ 3 := by omega
    clear hq
    go_wp2_with fail
    refine (rfirst_err R K L i d bad e w1 HR1.out HE.out hi).mono ?_
    rintro en w2 ⟨⟨B, rfl⟩, hL2⟩
    have H2 := hid (HTAIL.out w2 hL2)
    clear hL2
    go_upto_region 12 with (fail)
    obtain ⟨R1, hR1⟩ : ∃ RR_ : (Nat → Value) → World → Prop, RR_ = (fun us wx => us 5 = .pointer (some ⟨B, 0, none⟩) ∧ wx = w2) := ⟨_, rfl⟩
    obtain ⟨mu1, hmu1⟩ : ∃ mu : (Nat → Value) → World → Nat, mu = (fun _ _ => 0) := ⟨_, rfl⟩
    have HR1 := hid hR1; have Hmu1 := hid hmu1; clear hR1 hmu1
    refine wp_loop_frame' [false, false, false, false, false, true, true, false, true, true, true, true, false, false, false, false, false, false, false, false, false, false, false, false, false, false, false, false, false, false, false, false, false, false, false, false, false, false, false, false, false, false, false, false, false, false, false, false, false, false, false, false, false, false, false, false, false, false, false, true, true, true, true, true, true, true, true, true, true, true, true, true, true, true, true, true, true, true, true, true, true, true, true, true, true, true, true, true, true, true, true, true, true, true, true, true, true, true, true, true, true, true, true, true, true, true, true, true, true, true, true, true, true, true, true, true, true, true, true, true, true, true, true, true, true, true, true, true, true, true, true, true, true, true, true] R1 _ mu1 HR1.out ?_ ?_
    · exact ⟨rfl, rfl⟩
    intro us1 wx hrel
    obtain ⟨h5, hwx⟩ := hrel
    simp only [frameOf, Nat.reduceAdd, h5]
    have Hh5 := hid h5; clear h5
    subst hwx
    obtain ⟨-, -, -, c3, -, -, hlt⟩ := H2.out.2.cells
    have hne : (e == 0) = false := by have := HE.out; simpa using this
    go_wp2_with fail
    exact bodyPost_ret (results_tmp rfl _ _ _) rfl ⟨⟨B, rfl⟩, H2.out.1⟩
end Go.Proofs.YtgajofkeidjbgaaGreatDoor
