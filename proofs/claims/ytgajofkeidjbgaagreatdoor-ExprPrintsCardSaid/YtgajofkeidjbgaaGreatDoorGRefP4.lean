/-
  PROVED HERE: the document's parser behind a fault: nothing more is read.
  PROVED HERE: in plain Lean: the document's parser, step by step.
-/
import Derived.Test.YtgajofkeidjbgaaGreatDoorRefP3
import Derived.Test.YtgajofkeidjbgaaGreatDoorGParOk
import Derived.Test.YtgajofkeidjbgaaGreatDoorGParUn2
namespace Go.Proofs.YtgajofkeidjbgaaGreatDoor
set_option linter.unusedSimpArgs false
set_option linter.unusedVariables false
open Go.RowKit

def SomePtr (w : World) (e : Ending) (w' : World) : Prop := (∃ B, e = .returned (.pointer (some ⟨B, 0, none⟩))) ∧ Later w w'
set_option maxRecDepth 100000 in
set_option maxHeartbeats 2000000 in
theorem rfirst_err (R : Nat) (K : Row3) (L : List Tok) (i d bad : Nat) (e : Int) (w : World) (h : RAt w R K L i d e bad) (he : e ≠ 0) (hi : i < L.length) : Calls Tryz.prog 46 #[.pointer (some ⟨R, 0, none⟩)] w (SomePtr w) := by
  have tt := h.2.2 i hi
  obtain ⟨c0, c1, -, c3, -, -, hlt⟩ := h.cells
  obtain ⟨g, o, c⟩ := K
  obtain ⟨t, ht⟩ : ∃ t, t = L[i] := ⟨_, rfl⟩
  rw [← ht] at tt
  simp only at c0 tt
  have hii : (i : Int) < (L.length : Int) := by omega
  have hne : (e != 0) = true := by simpa using he
  clear h ht he
  go_enter Tryz.func46, Tryz.ntmps46
  go_upto_region 1 with (fail)
  refine wp_region_held_drew (S := fun w => w.cell? ⟨R, 0, none⟩ = some (.slice (some ⟨g, o, none⟩) L.length c) ∧ w.cell? ⟨R, 1, none⟩ = some (.int .i64 (i : Int)) ∧ TokAt w g (o + i * 3) t.d) (by kernel_rfl) ⟨(Later.drew w).cell c0, (Later.drew w).cell c1, (Later.drew w).cell tt.1, (Later.drew w).cell tt.2.1, (Later.drew w).cell tt.2.2⟩ (fun hS => ?_)
  refine wpAnyH_take (i := 0) (v := .pointer (some ⟨R, 0, none⟩)) rfl (by kernel_rfl) (by kernel_rfl) (by kernel_rfl) (fun _ _ _ h => h) (Or.inl ⟨by rfl, ?_⟩) hS ?_
  · intro w hS
    clear hS
    go_simp
  try simp only [Act.put, List.setIfInBounds_toArray, List.set]
  refine wpAnyH_take (i := 4) (v := .pointer (some ⟨R, 0, none⟩)) rfl (by kernel_rfl) (by kernel_rfl) (by kernel_rfl) (fun _ _ _ h => h) (Or.inl ⟨by rfl, ?_⟩) hS ?_
  · intro w hS
    clear hS
    go_simp
  try simp only [Act.put, List.setIfInBounds_toArray, List.set]
  refine wpAnyH_take (i := 1) (v := .pointer (some ⟨R, 0, none⟩)) rfl (by kernel_rfl) (by kernel_rfl) (by kernel_rfl) (fun _ _ _ h => h) (Or.inl ⟨by rfl, ?_⟩) hS ?_
  · rintro w ⟨h0, -⟩
    try (have := cell_lt h0)
    go_simp
  try simp only [Act.put, List.setIfInBounds_toArray, List.set]
  refine wpAnyH_take (i := 5) (v := .pointer (some ⟨R, 0, none⟩)) rfl (by kernel_rfl) (by kernel_rfl) (by kernel_rfl) (fun _ _ _ h => h) (Or.inl ⟨by rfl, ?_⟩) hS ?_
  · rintro w ⟨h0, -⟩
    try (have := cell_lt h0)
    go_simp
  try simp only [Act.put, List.setIfInBounds_toArray, List.set]
  refine wpAnyH_take (i := 2) (v := .pointer (some ⟨R, 0, none⟩)) rfl (by kernel_rfl) (by kernel_rfl) (by kernel_rfl) (fun _ _ _ h => h) (Or.inl ⟨by rfl, ?_⟩) hS ?_
  · rintro w ⟨h0, -⟩
    try (have := cell_lt h0)
    go_simp
  try simp only [Act.put, List.setIfInBounds_toArray, List.set]
  refine wpAnyH_take (i := 6) (v := .pointer (some ⟨R, 1, none⟩)) rfl (by kernel_rfl) (by kernel_rfl) (by kernel_rfl) (fun _ _ _ h => h) (Or.inl ⟨by rfl, ?_⟩) hS ?_
  · rintro w ⟨h0, -⟩
    try (have := cell_lt h0)
    go_simp
  try simp only [Act.put, List.setIfInBounds_toArray, List.set]
  refine wpAnyH_take (i := 3) (v := .slice (some ⟨g, o, none⟩) L.length c) rfl (by kernel_rfl) (by kernel_rfl) (by kernel_rfl) (fun _ _ _ h => h) (Or.inl ⟨by rfl, ?_⟩) hS ?_
  · rintro w ⟨h0, -⟩
    try (have := cell_lt h0)
    go_simp
  try simp only [Act.put, List.setIfInBounds_toArray, List.set]
  refine wpAnyH_take (i := 7) (v := .int .i64 (i : Int)) rfl (by kernel_rfl) (by kernel_rfl) (by kernel_rfl) (fun _ _ _ h => h) (Or.inl ⟨by rfl, ?_⟩) hS ?_
  · rintro w ⟨-, h0, -⟩
    try (have := cell_lt h0)
    go_simp
  try simp only [Act.put, List.setIfInBounds_toArray, List.set]
  refine wpAnyH_take (i := 8) (v := .pointer (some ⟨g, o + i * 3, none⟩)) rfl (by kernel_rfl) (by kernel_rfl) (by kernel_rfl) (fun _ _ _ h => h) (Or.inl ⟨by rfl, ?_⟩) hS ?_
  · intro w hS
    clear hS
    go_simp
  try simp only [Act.put, List.setIfInBounds_toArray, List.set]
  refine wpAnyH_take (i := 9) (v := .agg #[.int .u8 (t.d.k.toNat : Int), .string (strB t.d.t), .int .i64 (t.d.p : Int)]) rfl (by kernel_rfl) (by kernel_rfl) (by kernel_rfl) (fun _ _ _ h => h) (Or.inl ⟨by rfl, ?_⟩) hS ?_
  · rintro w ⟨-, -, h0, h1, h2⟩
    try (have := cell_lt h0)
    go_simp
  try simp only [Act.put, List.setIfInBounds_toArray, List.set]
  refine wpAnyH_ready (rs := [10]) (by kernel_rfl) (by simp) (AllReadyH.cons rfl (fun K hK => ?_) AllReadyH.nil)
  go_simp
  obtain ⟨wA_, hwA⟩ : ∃ w1, w1 = (w.alloc (.cells #[.int .u8 0, .string ⟨#[]⟩, .int .i64 0] 71)).drew := ⟨_, rfl⟩
  have hLA : Later w wA_ := by rw [hwA]; exact Later.trans _ _ _ (Later.alloc _ _) (Later.drew _)
  have hNA : wA_.heap[w.heap.size]? = some (.cells #[.int .u8 0, .string ⟨#[]⟩, .int .i64 0] 71 (0, 0)) := by rw [hwA]; exact obj_new _ _
  obtain ⟨Tw2, hTv⟩ : ∃ T, T = w.heap.size := ⟨_, rfl⟩
  have hTww2 : w.heap.size ≤ Tw2 := by omega
  rw [← hwA, ← hTv]
  rw [← hTv] at hNA
  have k0_ : wA_.cell? ⟨Tw2, 0, none⟩ = some (.int .u8 0) := cell_obj (i := 0) hNA rfl
  have k1_ : wA_.cell? ⟨Tw2, 1, none⟩ = some (.string ⟨#[]⟩) := cell_obj (i := 1) hNA rfl
  have k2_ : wA_.cell? ⟨Tw2, 2, none⟩ = some (.int .i64 0) := cell_obj (i := 2) hNA rfl
  have z0_ := free_obj (i := 0) hNA
  have z1_ := free_obj (i := 1) hNA
  have z2_ := free_obj (i := 2) hNA
  have kl_ := cell_lt k0_
  have hSA : wA_.cell? ⟨R, 0, none⟩ = some (.slice (some ⟨g, o, none⟩) L.length c) ∧ wA_.cell? ⟨R, 1, none⟩ = some (.int .i64 (i : Int)) ∧ TokAt wA_ g (o + i * 3) t.d := ⟨hLA.cell c0, hLA.cell c1, hLA.cell tt.1, hLA.cell tt.2.1, hLA.cell tt.2.2⟩
  clear hwA hTv hS
  refine hK.out _ _ hSA (fun hS => ?_)
  clear hK K
  try simp only [Act.put, List.setIfInBounds_toArray, List.set]
  clear hSA
  refine wpAnyH_ready (rs := [11]) (by kernel_rfl) (by simp) (AllReadyH.cons rfl (fun K hK => ?_) AllReadyH.nil)
  go_simp
  obtain ⟨w2, hwB⟩ : ∃ w2, w2 = ((wA_.setCell ⟨Tw2, 0, none⟩ (.int .u8 (t.d.k.toNat : Int))).setCell ⟨Tw2, 1, none⟩ (.string (strB t.d.t))).setCell ⟨Tw2, 2, none⟩ (.int .i64 (t.d.p : Int)) := ⟨_, rfl⟩
  obtain ⟨hLw2, hTw2⟩ := tokvar_set hLA hNA hTww2 hwB
  rw [← hwB]
  have hSB : w2.cell? ⟨R, 0, none⟩ = some (.slice (some ⟨g, o, none⟩) L.length c) ∧ w2.cell? ⟨R, 1, none⟩ = some (.int .i64 (i : Int)) ∧ TokAt w2 g (o + i * 3) t.d := ⟨hLw2.cell c0, hLw2.cell c1, hLw2.cell tt.1, hLw2.cell tt.2.1, hLw2.cell tt.2.2⟩
  clear hwB k0_ k1_ k2_ z0_ z1_ z2_ kl_ hLA hNA hS
  refine hK.out _ _ hSB (fun hS => ?_)
  clear hK K
  try simp only [Act.put, List.setIfInBounds_toArray, List.set]
  refine wpAnyH_done (by kernel_rfl) ?_ _
  clear hS hSB
  have e3 := hLw2.cell c3
  have rl := cell_lt e3
  have HL2 := hid hLw2
  clear c0 c1 c3 tt hlt hLw2 hTw2 hTww2
  go_wp2_with fail
  exact bodyPost_ret (results_tmp rfl _ _ _) rfl ⟨⟨_, rfl⟩, HL2.out.alloc' _⟩
set_option maxRecDepth 100000 in
set_option maxHeartbeats 2000000 in
theorem rclimb_err (R : Nat) (K : Row3) (L : List Tok) (i d bad : Nat) (e : Int) (q : Nat) (w : World) (h : RAt w R K L i d e bad) (he : e ≠ 0) (hi : i < L.length) : Calls Tryz.prog 22 #[.pointer (some ⟨R, 0, none⟩), .int .i64 (q : Int)] w (SomePtr w) := by
  have HR := hid h; have HE := hid he
  clear h he
  go_enter Tryz.func22, Tryz.ntmps22
  go_wp2_with fail
  refine (sign_any R K L i d bad e notW w HR.out hi).mono ?_
  rintro en w1 ⟨rfl, hL1⟩
  rw [show (decide (e = 0) && isW L[i] notW) = false by rw [decide_eq_false HE.out]; rfl]
  have HL1 := hid hL1
  have HR1 := hid (HR.out.later hL1)
  clear hL1
  have tail : ∀ w2, Later w1 w2 → Later w w2 ∧ RAt w2 R K L i d e bad := fun w2 h => ⟨Later.trans _ _ _ HL1.out h, HR1.out.later h⟩
  have HTAIL := hid tail
  clear tail
  by_cases hq : q ≤ 3
  · have hqi : (q : Int) ≤ 3 := by omega
    clear hq
    go_wp2_with fail
    refine (rfirst_err R K L i d bad e w1 HR1.out HE.out hi).mono ?_
    rintro en w2 ⟨⟨B, rfl⟩, hL2⟩
    have H2 := hid (HTAIL.out w2 hL2)
    clear hL2
    go_upto_region 12 with (fail)
    obtain ⟨R1, hR1⟩ : ∃ RR_ : (Nat → Value) → World → Prop, RR_ = (fun us wx => us 5 = .pointer (some ⟨B, 0, none⟩) ∧ wx = w2) := ⟨_, rfl⟩
    obtain ⟨mu1, hmu1⟩ : ∃ mu : (Nat → Value) → World → Nat, mu = (fun _ _ => 0) := ⟨_, rfl⟩
    have HR1 := hid hR1; have Hmu1 := hid hmu1; clear hR1 hmu1
    refine wp_loop_frame' [false, false, false, false, false, true, true, false, true, true, true, true, false, false, false, false, false, false, false, false, false, false, false, false, false, false, false, false, false, false, false, false, false, false, false, false, false, false, false, false, false, false, false, false, false, false, false, false, false, false, false, false, false, false, false, false, false, false, false, true, true, true, true, true, true, true, true, true, true, true, true, true, true, true, true, true, true, true, true, true, true, true, true, true, true, true, true, true, true, true, true, true, true, true, true, true, true, true, true, true, true, true, true, true, true, true, true, true, true, true, true, true, true, true, true, true, true, true, true, true, true, true, true, true, true, true, true, true, true, true, true, true, true, true, true] R1 _ mu1 HR1.out ?_ ?_
    · exact ⟨rfl, rfl⟩
    intro us1 wx hrel
    obtain ⟨h5, hwx⟩ := hrel
    simp only [frameOf, Nat.reduceAdd, h5]
    have Hh5 := hid h5; clear h5
    subst hwx
    obtain ⟨-, -, -, c3, -, -, hlt⟩ := H2.out.2.cells
    have hne : (e == 0) = false := by have := HE.out; simpa using this
    go_wp2_with fail
    exact bodyPost_ret (results_tmp rfl _ _ _) rfl ⟨⟨B, rfl⟩, H2.out.1⟩
  · have hqi : ¬ (q : Int) ≤ 3 := by omega
    clear hq
    go_wp2_with fail
    refine (rfirst_err R K L i d bad e w1 HR1.out HE.out hi).mono ?_
    rintro en w2 ⟨⟨B, rfl⟩, hL2⟩
    have H2 := hid (HTAIL.out w2 hL2)
    clear hL2
    go_upto_region 12 with (fail)
    obtain ⟨R1, hR1⟩ : ∃ RR_ : (Nat → Value) → World → Prop, RR_ = (fun us wx => us 5 = .pointer (some ⟨B, 0, none⟩) ∧ wx = w2) := ⟨_, rfl⟩
    obtain ⟨mu1, hmu1⟩ : ∃ mu : (Nat → Value) → World → Nat, mu = (fun _ _ => 0) := ⟨_, rfl⟩
    have HR1 := hid hR1; have Hmu1 := hid hmu1; clear hR1 hmu1
    refine wp_loop_frame' [false, false, false, false, false, true, true, false, true, true, true, true, false, false, false, false, false, false, false, false, false, false, false, false, false, false, false, false, false, false, false, false, false, false, false, false, false, false, false, false, false, false, false, false, false, false, false, false, false, false, false, false, false, false, false, false, false, false, false, true, true, true, true, true, true, true, true, true, true, true, true, true, true, true, true, true, true, true, true, true, true, true, true, true, true, true, true, true, true, true, true, true, true, true, true, true, true, true, true, true, true, true, true, true, true, true, true, true, true, true, true, true, true, true, true, true, true, true, true, true, true, true, true, true, true, true, true, true, true, true, true, true, true, true, true] R1 _ mu1 HR1.out ?_ ?_
    · exact ⟨rfl, rfl⟩
    intro us1 wx hrel
    obtain ⟨h5, hwx⟩ := hrel
    simp only [frameOf, Nat.reduceAdd, h5]
    have Hh5 := hid h5; clear h5
    subst hwx
    obtain ⟨-, -, -, c3, -, -, hlt⟩ := H2.out.2.cells
    have hne : (e == 0) = false := by have := HE.out; simpa using this
    go_wp2_with fail
    exact bodyPost_ret (results_tmp rfl _ _ _) rfl ⟨⟨B, rfl⟩, H2.out.1⟩
end Go.Proofs.YtgajofkeidjbgaaGreatDoor
namespace Go.Proofs.YtgajofkeidjbgaaGreatDoor
set_option linter.unusedSimpArgs false
set_option linter.unusedVariables false
open Go Go.RowKit

theorem rpar_lit {d : Nat} {t : Tok} {r : List Tok} {v : Val} (hk : t.k = 48 ∨ t.k = 39) (hr : readP t.t = some v) : Par false .un d (t :: r) (.ok (.lit v, r)) := by
  have hw : ∀ x, isW t x = false := fun x => by rcases hk with h | h <;> exact isW_k (by rw [h]; decide) (by rw [h]; decide)
  have h1 : ¬ isW (hdT (t :: r)) minusW = true := by show ¬ isW t minusW = true; rw [hw]; simp
  have h2 : ¬ isW (hdT (t :: r)) openW = true := by show ¬ isW t openW = true; rw [hw]; simp
  have h3 : (hdT (t :: r)).k = 48 ∨ (hdT (t :: r)).k = 39 := hk
  have h4 : readP (hdT (t :: r)).t = some v := hr
  exact ⟨1, by unfold parseX; rw [if_neg h1, if_neg h2, if_pos h3, h4]; rfl⟩
theorem rpar_lit_bad {d : Nat} {t : Tok} {r : List Tok} (hk : t.k = 48 ∨ t.k = 39) (hr : readP t.t = none) : Par false .un d (t :: r) (.error (1, t.p)) := by
  have hw : ∀ x, isW t x = false := fun x => by rcases hk with h | h <;> exact isW_k (by rw [h]; decide) (by rw [h]; decide)
  have h1 : ¬ isW (hdT (t :: r)) minusW = true := by show ¬ isW t minusW = true; rw [hw]; simp
  have h2 : ¬ isW (hdT (t :: r)) openW = true := by show ¬ isW t openW = true; rw [hw]; simp
  have h3 : (hdT (t :: r)).k = 48 ∨ (hdT (t :: r)).k = 39 := hk
  have h4 : readP (hdT (t :: r)).t = none := hr
  exact ⟨1, by unfold parseX; rw [if_neg h1, if_neg h2, if_pos h3, h4]; rfl⟩
theorem rpar_bool {d : Nat} {t : Tok} {r : List Tok} (hk : ¬ (t.k = 48 ∨ t.k = 39)) (ht : t.t = trueW ∨ t.t = falseW) : Par false .un d (t :: r) (.ok (.lit ⟨2, if t.t = trueW then 1 else 0, ⟨#[]⟩⟩, r)) := by
  have hw : ∀ x, x ≠ trueW → x ≠ falseW → isW t x = false := fun x g1 g2 => isW_t (ht.elim (fun h => by rw [h]; exact g1.symm) (fun h => by rw [h]; exact g2.symm))
  have h1 : ¬ isW (hdT (t :: r)) minusW = true := by show ¬ isW t minusW = true; rw [hw _ (by decide) (by decide)]; simp
  have h2 : ¬ isW (hdT (t :: r)) openW = true := by show ¬ isW t openW = true; rw [hw _ (by decide) (by decide)]; simp
  have h3 : ¬ ((hdT (t :: r)).k = 48 ∨ (hdT (t :: r)).k = 39) := hk
  have h4 : (hdT (t :: r)).t = trueW ∨ (hdT (t :: r)).t = falseW := ht
  exact ⟨1, by unfold parseX; rw [if_neg h1, if_neg h2, if_neg h3, if_pos h4]; rfl⟩
theorem rpar_long {d : Nat} {t : Tok} {r : List Tok} (hn : IsName t) (ho : TokOk t) (hl : 12 < t.t.length) : Par false .un d (t :: r) (.error (4, t.p)) := by
  obtain ⟨f1, f2, f3, f4⟩ := hn.facts ho
  have h1 : ¬ isW (hdT (t :: r)) minusW = true := by show ¬ isW t minusW = true; rw [f1]; simp
  have h2 : ¬ isW (hdT (t :: r)) openW = true := by show ¬ isW t openW = true; rw [f2]; simp
  have h3 : ¬ ((hdT (t :: r)).k = 48 ∨ (hdT (t :: r)).k = 39) := f3
  have h4 : ¬ ((hdT (t :: r)).t = trueW ∨ (hdT (t :: r)).t = falseW) := f4
  have h5 : (hdT (t :: r)).k = 110 ∧ (hdT (t :: r)).t ∉ wordsW := hn
  have h6 : 12 < (hdT (t :: r)).t.length := hl
  exact ⟨1, by unfold parseX; rw [if_neg h1, if_neg h2, if_neg h3, if_neg h4, if_pos h5, if_pos h6]; rfl⟩
theorem rpar_name {d : Nat} {t : Tok} {r : List Tok} (hn : IsName t) (ho : TokOk t) (hl : ¬ 12 < t.t.length) (hq : isW (hdT r) openW = false) : Par false .un d (t :: r) (.ok (.name t.t t.p, r)) := by
  obtain ⟨f1, f2, f3, f4⟩ := hn.facts ho
  have h1 : ¬ isW (hdT (t :: r)) minusW = true := by show ¬ isW t minusW = true; rw [f1]; simp
  have h2 : ¬ isW (hdT (t :: r)) openW = true := by show ¬ isW t openW = true; rw [f2]; simp
  have h3 : ¬ ((hdT (t :: r)).k = 48 ∨ (hdT (t :: r)).k = 39) := f3
  have h4 : ¬ ((hdT (t :: r)).t = trueW ∨ (hdT (t :: r)).t = falseW) := f4
  have h5 : (hdT (t :: r)).k = 110 ∧ (hdT (t :: r)).t ∉ wordsW := hn
  have h6 : ¬ 12 < (hdT (t :: r)).t.length := hl
  have h7 : ¬ isW (hdT (t :: r).tail) openW = true := by show ¬ isW (hdT r) openW = true; rw [hq]; simp
  exact ⟨1, by unfold parseX; rw [if_neg h1, if_neg h2, if_neg h3, if_neg h4, if_pos h5, if_neg h6, if_neg h7]; rfl⟩
theorem rpar_callq {d : Nat} {t u : Tok} {r : List Tok} {s : Res} (hn : IsName t) (ho : TokOk t) (hl : ¬ 12 < t.t.length) (hq : isW u openW = true) (hs : if 12 < d + 1 then s = .error (4, u.p) else Par false (.args t.t t.p []) (d + 1) r s) : Par false .un d (t :: u :: r) s := by
  obtain ⟨f1, f2, f3, f4⟩ := hn.facts ho
  have h1 : ¬ isW (hdT (t :: u :: r)) minusW = true := by show ¬ isW t minusW = true; rw [f1]; simp
  have h2 : ¬ isW (hdT (t :: u :: r)) openW = true := by show ¬ isW t openW = true; rw [f2]; simp
  have h3 : ¬ ((hdT (t :: u :: r)).k = 48 ∨ (hdT (t :: u :: r)).k = 39) := f3
  have h4 : ¬ ((hdT (t :: u :: r)).t = trueW ∨ (hdT (t :: u :: r)).t = falseW) := f4
  have h5 : (hdT (t :: u :: r)).k = 110 ∧ (hdT (t :: u :: r)).t ∉ wordsW := hn
  have h6 : ¬ 12 < (hdT (t :: u :: r)).t.length := hl
  have h7 : isW (hdT (t :: u :: r).tail) openW = true := hq
  by_cases hd : 12 < d + 1
  · rw [if_pos hd] at hs
    subst hs
    exact ⟨1, by unfold parseX; rw [if_neg h1, if_neg h2, if_neg h3, if_neg h4, if_pos h5, if_neg h6, if_pos h7, if_pos hd]; rfl⟩
  · rw [if_neg hd] at hs
    obtain ⟨n, hn⟩ := hs
    exact ⟨n + 1, by unfold parseX; rw [if_neg h1, if_neg h2, if_neg h3, if_neg h4, if_pos h5, if_neg h6, if_pos h7, if_neg hd]; exact hn⟩
theorem rpar_brackets {d : Nat} {t : Tok} {r : List Tok} {s : Res} (ht : isW t openW = true) (hs : if 12 < d + 1 then s = .error (4, t.p) else ∃ s', Par false (.climb 0) (d + 1) r s' ∧ s = closeR s') : Par false .un d (t :: r) s := by
  have h1 : ¬ isW (hdT (t :: r)) minusW = true := by
    show ¬ isW t minusW = true
    intro h
    unfold isW at h ht
    simp only [Bool.and_eq_true, beq_iff_eq] at h ht
    rw [ht.1] at h
    exact absurd h.1 (by decide)
  have h2 : isW (hdT (t :: r)) openW = true := ht
  by_cases hd : 12 < d + 1
  · rw [if_pos hd] at hs
    subst hs
    exact ⟨1, by unfold parseX; rw [if_neg h1, if_pos h2, if_pos hd]; rfl⟩
  · rw [if_neg hd] at hs
    obtain ⟨s', ⟨n, hn⟩, rfl⟩ := hs
    refine ⟨n + 1, ?_⟩
    unfold parseX
    rw [if_neg h1, if_pos h2, if_neg hd, show (t :: r).tail = r from rfl, show topJ false = .climb 0 from rfl, hn]
    cases s' with
    | error e => rfl
    | ok x =>
      show (if isW (hdT x.2) closeW = true then PR.ok (x.1, x.2.tail) else PR.err 1 (hdT x.2).p) = some (closeR (.ok x))
      unfold closeR
      simp only
      split <;> rfl
theorem rpar_none {d : Nat} {t : Tok} {r : List Tok} (h1 : isW t minusW = false) (h2 : isW t openW = false) (h3 : ¬ (t.k = 48 ∨ t.k = 39)) (h4 : ¬ (t.t = trueW ∨ t.t = falseW)) (h5 : ¬ IsName t) : Par false .un d (t :: r) (.error (1, t.p)) := by
  have g1 : ¬ isW (hdT (t :: r)) minusW = true := by show ¬ isW t minusW = true; rw [h1]; simp
  have g2 : ¬ isW (hdT (t :: r)) openW = true := by show ¬ isW t openW = true; rw [h2]; simp
  have g3 : ¬ ((hdT (t :: r)).k = 48 ∨ (hdT (t :: r)).k = 39) := h3
  have g4 : ¬ ((hdT (t :: r)).t = trueW ∨ (hdT (t :: r)).t = falseW) := h4
  have g5 : ¬ ((hdT (t :: r)).k = 110 ∧ (hdT (t :: r)).t ∉ wordsW) := h5
  exact ⟨1, by unfold parseX; rw [if_neg g1, if_neg g2, if_neg g3, if_neg g4, if_neg g5]; rfl⟩
theorem rpar_minus {d : Nat} {t : Tok} {r : List Tok} (h : isW t minusW = true) {s : Res} (hs : if 12 < d + 1 then s = .error (4, t.p) else ∃ s', Par false .un (d + 1) r s' ∧ s = match s' with
      | .error f => .error f
      | .ok x => .ok (.un true t.p x.1, x.2)) : Par false .un d (t :: r) s := by
  have h' : isW (hdT (t :: r)) minusW = true := h
  by_cases hd : 12 < d + 1
  · rw [if_pos hd] at hs
    subst hs
    exact ⟨1, by unfold parseX; rw [if_pos h', if_pos hd]; rfl⟩
  · rw [if_neg hd] at hs
    obtain ⟨s', ⟨n, hn⟩, rfl⟩ := hs
    refine ⟨n + 1, ?_⟩
    unfold parseX
    rw [if_pos h', if_neg hd, show (t :: r).tail = r from rfl, hn]
    cases s' <;> rfl
theorem rpar_args_close {f : List UInt8} {p d : Nat} {acc : List Ex} {t : Tok} {r : List Tok} (h : isW t closeW = true) : Par false (.args f p acc) d (t :: r) (.ok (.call f p acc, r)) := by
  have h' : isW (hdT (t :: r)) closeW = true := h
  exact ⟨1, by unfold parseX; rw [if_pos h']; rfl⟩
theorem rpar_args_bad {f : List UInt8} {p d : Nat} {acc : List Ex} {t : Tok} {r : List Tok} (h : isW t closeW = false) (ha : acc ≠ []) (hc : isW t commaW = false) : Par false (.args f p acc) d (t :: r) (.error (1, t.p)) := by
  have h' : ¬ isW (hdT (t :: r)) closeW = true := by show ¬ isW t closeW = true; rw [h]; simp
  have h2 : acc ≠ [] ∧ ¬ isW (hdT (t :: r)) commaW = true := ⟨ha, by show ¬ isW t commaW = true; rw [hc]; simp⟩
  exact ⟨1, by unfold parseX; rw [if_neg h', if_pos h2]; rfl⟩
theorem rpar_args_err {f : List UInt8} {p d : Nat} {acc : List Ex} {t : Tok} {r : List Tok} {e : Fault} (h : isW t closeW = false) (hc : acc = [] ∨ isW t commaW = true) (hb : Par false (.climb 0) d (if acc = [] then t :: r else r) (.error e)) : Par false (.args f p acc) d (t :: r) (.error e) := by
  have h' : ¬ isW (hdT (t :: r)) closeW = true := by show ¬ isW t closeW = true; rw [h]; simp
  have h2 : ¬ (acc ≠ [] ∧ ¬ isW (hdT (t :: r)) commaW = true) := fun hx => by
    rcases hc with hc | hc
    · exact hx.1 hc
    · exact hx.2 hc
  obtain ⟨n, hn⟩ := hb
  exact ⟨n + 1, by unfold parseX; rw [if_neg h', if_neg h2, show topJ false = .climb 0 from rfl, show (t :: r).tail = r from rfl, hn]; rfl⟩
theorem rpar_args_go {f : List UInt8} {p d : Nat} {acc : List Ex} {t : Tok} {r l : List Tok} {x : Ex} {s : Res} (h : isW t closeW = false) (hc : acc = [] ∨ isW t commaW = true) (hb : Par false (.climb 0) d (if acc = [] then t :: r else r) (.ok (x, l)))
    (hs : Par false (.args f p (acc ++ [x])) d l s) : Par false (.args f p acc) d (t :: r) s := by
  have h' : ¬ isW (hdT (t :: r)) closeW = true := by show ¬ isW t closeW = true; rw [h]; simp
  have h2 : ¬ (acc ≠ [] ∧ ¬ isW (hdT (t :: r)) commaW = true) := fun hx => by
    rcases hc with hc | hc
    · exact hx.1 hc
    · exact hx.2 hc
  obtain ⟨n, e1, e2⟩ := hb.both hs
  exact ⟨n + 1, by unfold parseX; rw [if_neg h', if_neg h2, show topJ false = .climb 0 from rfl, show (t :: r).tail = r from rfl, e1]; exact e2⟩
/-! the climb -/
theorem rpar_climb_un {q d : Nat} {l : List Tok} {s : Res} (hn : ¬ (isW (hdT l) notW = true ∧ q ≤ 3)) (h : ∃ s', Par false .un d l s' ∧ match s' with
      | .error f => s = .error f
      | .ok x => Par false (.cloop q 9 false x.1) d x.2 s) : Par false (.climb q) d l s := by
  obtain ⟨s', h1, h2⟩ := h
  cases s' with
  | error f =>
    simp only at h2
    subst h2
    obtain ⟨n, hn'⟩ := h1
    exact ⟨n + 1, by unfold parseX; rw [if_neg hn, hn']; rfl⟩
  | ok x =>
    obtain ⟨n, e1, e2⟩ := h1.both h2
    exact ⟨n + 1, by unfold parseX; rw [if_neg hn, e1]; exact e2⟩
theorem rpar_climb_not {q d : Nat} {t : Tok} {r : List Tok} {s : Res} (hn : isW t notW = true ∧ q ≤ 3) (h : if 12 < d + 1 then s = .error (4, t.p) else ∃ s', Par false (.climb 3) (d + 1) r s' ∧ match s' with
      | .error f => s = .error f
      | .ok x => Par false (.cloop q 9 true (.un false t.p x.1)) d x.2 s) : Par false (.climb q) d (t :: r) s := by
  have hn' : isW (hdT (t :: r)) notW = true ∧ q ≤ 3 := hn
  by_cases hd : 12 < d + 1
  · rw [if_pos hd] at h
    subst h
    exact ⟨1, by unfold parseX; rw [if_pos hn', if_pos hd]; rfl⟩
  · rw [if_neg hd] at h
    obtain ⟨s', h1, h2⟩ := h
    cases s' with
    | error f =>
      simp only at h2
      subst h2
      obtain ⟨n, e1⟩ := h1
      exact ⟨n + 1, by unfold parseX; rw [if_pos hn', if_neg hd, show (t :: r).tail = r from rfl, e1]; rfl⟩
    | ok x =>
      obtain ⟨n, e1, e2⟩ := h1.both h2
      exact ⟨n + 1, by unfold parseX; rw [if_pos hn', if_neg hd, show (t :: r).tail = r from rfl, e1]; exact e2⟩
end Go.Proofs.YtgajofkeidjbgaaGreatDoor
