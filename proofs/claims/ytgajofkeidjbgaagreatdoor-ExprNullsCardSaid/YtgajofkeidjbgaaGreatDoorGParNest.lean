/-
  PROVED HERE: the contract of expr's nested, whatever function it is handed.
  PROVED HERE: the closures that expr's unary and binary hand to nested: '-' and 'not' with what stands behind.
  PROVED HERE: the contract of expr's unary, out of that of primary and of unary itself at fewer tokens.
  PROVED HERE: the closure that expr's primary hands to nested for what stands in brackets.
-/
import Derived.Test.YtgajofkeidjbgaaGreatDoorGParText
import Derived.Deep.RegionHeld
namespace Go.Proofs.YtgajofkeidjbgaaGreatDoor
set_option linter.unusedSimpArgs false
set_option linter.unusedVariables false
open Go.RowKit

attribute [local go_sem high] tok_f0 tok_f1 tok_f2
theorem PAt.setDepth {w : World} {P d d' : Nat} {l : List Tok} (h : PAt w P d l) : Keeps (fun b => b ≠ P) w (w.setCell ⟨P, 1, none⟩ (.int .i64 (d' : Int))) ∧ PAt (w.setCell ⟨P, 1, none⟩ (.int .i64 (d' : Int))) P d' l := by
  obtain ⟨v, h1, h2⟩ := h
  have hk : Keeps (fun b => b ≠ P) w (w.setCell ⟨P, 1, none⟩ (.int .i64 (d' : Int))) := (Keeps.refl _ w).setCell (p := ⟨P, 1, none⟩) (.inl fun h => h rfl) _
  exact ⟨hk, v, obj_setCell (i := 1) h1 _, h2.kept hk fun _ _ _ h _ => h⟩
theorem PAt.depth {w : World} {P d : Nat} {l : List Tok} (h : PAt w P d l) : w.cell? ⟨P, 1, none⟩ = some (.int .i64 (d : Int)) ∧ w.frozen? ⟨P, 1, none⟩ = false := by
  obtain ⟨v, h1, h2⟩ := h
  exact ⟨cell_obj (i := 1) h1 rfl, free_obj h1⟩
set_option maxRecDepth 100000 in
set_option maxHeartbeats 2000000 in
theorem nested_any (F : FuncId) (hent : ∀ args w, (callFunc F args).run Tryz.prog w = .ok (.enter F args) w) (caps : Array Value) (P d : Nat) (t : Tok) (r l : List Tok) (R : Res → Prop) (w : World) (h : PAt w P d (t :: r)) (hd : d ≤ 12)
    (hF : d + 1 ≤ 12 → ∀ w1, Keeps (fun b => b ≠ P) w w1 → PAt w1 P (d + 1) (t :: r) → Calls Tryz.prog F caps w1 (POut w1 P (d + 1) l R)) :
    Calls Tryz.prog 72 #[.pointer (some ⟨P, 0, none⟩), .func (.func F) #[] caps] w (POut w P d l fun s => if 12 < d + 1 then s = .error (4, t.p) else R s) := by
  have HP := hid h; have HD := hid hd; have HF := hid hF
  clear h hd hF
  have hd0 := HP.out.depth.1
  have hz0 := HP.out.depth.2
  have hp := cell_lt hd0
  have hdn : ¬ (9223372036854775807 : Int) < d + 1 := by have := HD.out; omega
  go_enter Tryz.func72, Tryz.ntmps72
  go_upto_region 2 with (fail)
  obtain ⟨w1, hw1⟩ : ∃ w1, w1 = w.setCell ⟨P, 1, none⟩ (.int .i64 ((d + 1 : Nat) : Int)) := ⟨_, rfl⟩
  have hs := HP.out.setDepth (d' := d + 1)
  rw [← hw1] at hs
  have HK1 := hid hs.1
  have HP1 := hid hs.2
  clear hs
  rw [show w.setCell ⟨P, 1, none⟩ (.int .i64 ((d : Int) + 1)) = w1 from hw1.symm]
  clear hw1 hd0 hz0
  have hd1 := HP1.out.depth.1
  have hz1 := HP1.out.depth.2
  by_cases hn : 12 < d + 1
  · have hn' : (12 : Int) < ((d + 1 : Nat) : Int) := by omega
    have HN := hid hn
    clear hn
    go_wp2_with fail
    refine (here_any P (d + 1) t r _ HP1.out).mono ?_
    rintro e w2 ⟨rfl, hL⟩
    have HL := hid hL
    clear hL
    unfold Tok.v
    go_wp2_with fail
    refine (fail_any 4 t.p _).mono ?_
    rintro e w' ⟨hfl, rfl⟩
    unfold Fails at hfl
    subst hfl
    simp only [Exit.then, Exit.inBlock]
    refine ⟨rfl, HK1.out.trans (HL.out.keeps _), .error (4, t.p), (by show (if 12 < d + 1 then _ else _); rw [if_pos HN.out]), ?_⟩
    exact rfl
  · have hn' : ¬ (12 : Int) < ((d + 1 : Nat) : Int) := by omega
    have HN := hid hn
    clear hn
    go_wp2_with fail
    refine (HF.out (by have := HN.out; omega) w1 HK1.out HP1.out).mono ?_
    rintro e w2 ⟨hk, rs, hr, hm⟩
    have HK2 := hid (HK1.out.trans hk)
    have HRS : Hid ((fun s => if 12 < d + 1 then s = .error (4, t.p) else R s) rs) := hid (by simp only; rw [if_neg HN.out]; exact hr)
    clear hk hr
    cases rs with
    | error f =>
      simp only at hm
      unfold Fails at hm
      subst hm
      refine ⟨rfl, HK2.out, .error f, HRS.out, ?_⟩
      exact rfl
    | ok x =>
      obtain ⟨v, rfl, hn2, hp2, he, hl⟩ := hm
      have HN2 := hid hn2; have HP2 := hid hp2; have HEL := hid (And.intro he hl)
      clear hn2 hp2 he hl
      have hd2 := HP2.out.depth.1
      have hz2 := HP2.out.depth.2
      have hsd := HP2.out.setDepth (d' := d)
      have HS := hid hsd
      clear hsd
      obtain ⟨D, hD⟩ : ∃ D : Int, D = ((d + 1 : Nat) : Int) := ⟨_, rfl⟩
      have hDm : D - 1 = (d : Int) := by omega
      have hDl : ¬ D - 1 < -9223372036854775808 := by omega
      have hDh : ¬ 9223372036854775807 < D - 1 := by have := HD.out; omega
      have HDM := hid hDm
      rw [← hD] at hd2
      clear hD hdn hn' hDm
      go_wp2_with fail
      rw [HDM.out]
      refine bodyPost_ret (results_tmp rfl _ _ _) rfl ⟨HK2.out.trans HS.out.1, .ok x, ?_, v, rfl, NodeIn.mono (fun b _ h => ⟨h.1, Nat.le_trans HK1.out.size h.2⟩) _ _ (NodeIn.kept HS.out.1 (fun _ h => h.1) _ _ HN2.out), HS.out.2, HEL.out.1, HEL.out.2⟩
      have h : (if 12 < d + 1 then (.ok x : Res) = .error (4, t.p) else R (.ok x)) := HRS.out
      rw [if_neg HN.out] at h
      exact h
end Go.Proofs.YtgajofkeidjbgaaGreatDoor
namespace Go.Proofs.YtgajofkeidjbgaaGreatDoor
set_option linter.unusedSimpArgs false
set_option linter.unusedVariables false
open Go.RowKit

attribute [local go_sem high] tok_f0 tok_f1 tok_f2
theorem NodeIn.shape {S : Nat → Prop} {w : World} {v : Value} {x : Ex} (h : NodeIn S w v x) : ∃ T B, v = .iface T (.pointer (some ⟨B, 0, none⟩)) := by
  cases x with
  | lit x => unfold NodeIn at h; obtain ⟨B, -, h, -⟩ := h; exact ⟨_, B, h⟩
  | name s p => unfold NodeIn at h; obtain ⟨B, -, h, -⟩ := h; exact ⟨_, B, h⟩
  | un n p x => unfold NodeIn at h; obtain ⟨B, u, -, h, -⟩ := h; exact ⟨_, B, h⟩
  | bin o p x y => unfold NodeIn at h; obtain ⟨B, u1, u2, -, h, -⟩ := h; exact ⟨_, B, h⟩
  | call f p l => unfold NodeIn at h; obtain ⟨B, vs, a, -, h, -⟩ := h; exact ⟨_, B, h⟩
set_option maxRecDepth 100000 in
set_option maxHeartbeats 2000000 in
theorem unary1_any (P X d : Nat) (t : Tok) (r : List Tok) (w : World) (hX : w.cell? ⟨X, 0, none⟩ = some (.pointer (some ⟨P, 0, none⟩))) (hXP : X ≠ P) (h : PAt w P d (t :: r)) (he : EndL r)
    (hU : ∀ w1, Keeps (fun b => b ≠ P) w w1 → PAt w1 P d r → Calls Tryz.prog 71 #[.pointer (some ⟨P, 0, none⟩)] w1 (POut w1 P d r (Par true .un d r))) :
    Calls Tryz.prog 96 #[.pointer (some ⟨X, 0, none⟩)] w (POut w P d (t :: r) fun s => ∃ s', Par true .un d r s' ∧ s = match s' with
      | .error f => .error f
      | .ok x => .ok (.un true t.p x.1, x.2)) := by
  have HP := hid h; have HU := hid hU; have HXP := hid hXP; have HEL := hid he
  clear h hU hXP he
  have hx := cell_lt hX
  go_enter Tryz.func96, Tryz.ntmps96
  go_wp2_with fail
  refine wp_region_held_drew (S := fun w => w.cell? ⟨X, 0, none⟩ = some (.pointer (some ⟨P, 0, none⟩))) (by kernel_rfl) ((Later.drew w).cell hX) (fun hS => ?_)
  refine wpAnyH_take (i := 0) (v := .pointer (some ⟨P, 0, none⟩)) rfl (by kernel_rfl) (by kernel_rfl) (by kernel_rfl) (fun _ _ _ h => h) (Or.inl ⟨by rfl, ?_⟩) hS ?_
  · intro w hS
    go_simp
  refine wpAnyH_take (i := 3) (v := .pointer (some ⟨P, 0, none⟩)) rfl (by kernel_rfl) (by kernel_rfl) (by kernel_rfl) (fun _ _ _ h => h) (Or.inl ⟨by rfl, ?_⟩) hS ?_
  · intro w hS
    go_simp
  try simp only [Act.put, List.setIfInBounds_toArray, List.set]
  refine wpAnyH_ready (rs := [1]) (by kernel_rfl) (by simp) (AllReadyH.cons rfl (fun K hK => ?_) AllReadyH.nil)
  go_simp
  refine (take_any P d t r _ (HP.out.later (Later.drew w))).mono ?_
  rintro e w1 ⟨rfl, hk1, hp1⟩
  have HK1 := hid (((Later.drew w).keeps _).trans hk1)
  have HP1 := hid hp1
  have hS1 := hk1.cell (p := ⟨X, 0, none⟩) HXP.out hS
  clear hS hk1 hp1
  unfold Tok.v
  refine hK.out _ _ hS1 (fun hS => ?_)
  clear hK K hS1
  try simp only [Act.put, List.setIfInBounds_toArray, List.set]
  refine wpAnyH_take (i := 2) (v := .int .i64 (t.p : Int)) rfl (by kernel_rfl) (by kernel_rfl) (by kernel_rfl) (fun _ _ _ h => h) (Or.inl ⟨by rfl, ?_⟩) hS ?_
  · intro w hS
    go_simp
  try simp only [Act.put, List.setIfInBounds_toArray, List.set]
  refine wpAnyH_ready (rs := [4]) (by kernel_rfl) (by simp) (AllReadyH.cons rfl (fun K hK => ?_) AllReadyH.nil)
  go_simp
  refine (HU.out w1 HK1.out HP1.out).mono ?_
  rintro e w2 ⟨hk2, rs, hr, hm⟩
  have HK2 := hid (HK1.out.trans hk2)
  have hS2 := hk2.cell (p := ⟨X, 0, none⟩) HXP.out hS
  cases rs with
  | error f =>
    simp only at hm
    unfold Fails at hm
    subst hm
    refine ⟨rfl, HK2.out, .error f, ⟨.error f, hr, rfl⟩, ?_⟩
    exact rfl
  | ok x =>
    obtain ⟨v, rfl, hn2, hp2, he2, hl2⟩ := hm
    have HN2 := hid hn2; have HP2 := hid hp2; have HE2 := hid (And.intro he2 hl2); have HR2 := hid hr
    clear hn2 hp2 he2 hl2 hr hk2 hS
    refine hK.out _ _ hS2 (fun hS => ?_)
    clear hK K hS2
    obtain ⟨vT, vB, hv⟩ := HN2.out.shape
    subst hv
    try simp only [Act.put, List.setIfInBounds_toArray, List.set]
    refine wpAnyH_ready (rs := [5]) (by kernel_rfl) (by simp) (AllReadyH.cons rfl (fun K hK => ?_) AllReadyH.nil)
    go_simp
    refine hK.out _ _ hS (fun hS => ?_)
    clear hK K
    try simp only [Act.put, List.setIfInBounds_toArray, List.set]
    refine wpAnyH_ready (rs := [6]) (by kernel_rfl) (by simp) (AllReadyH.cons rfl (fun K hK => ?_) AllReadyH.nil)
    go_simp
    refine hK.out _ _ ((Later.alloc _ _).cell hS) (fun hS => ?_)
    clear hK K
    try simp only [Act.put, List.setIfInBounds_toArray, List.set]
    refine wpAnyH_ready (rs := [7]) (by kernel_rfl) (by simp) (AllReadyH.cons rfl (fun K hK => ?_) AllReadyH.nil)
    go_simp
    refine hK.out _ _ hS (fun hS => ?_)
    clear hK K
    try simp only [Act.put, List.setIfInBounds_toArray, List.set]
    refine wpAnyH_ready (rs := [8]) (by kernel_rfl) (by simp) (AllReadyH.cons rfl (fun K hK => ?_) AllReadyH.nil)
    go_simp
    refine hK.out _ _ hS (fun hS => ?_)
    clear hK K
    refine wpAnyH_done (by kernel_rfl) ?_ _
    go_wp2_with fail
    have hL := Later.alloc w2 (.cells #[.string ⟨#[45]⟩, .int .i64 (t.p : Int), .iface vT (.pointer (some ⟨vB, 0, none⟩))] 139)
    have hPs : P < w2.heap.size := by obtain ⟨v, h1, -⟩ := HP2.out; exact (Array.getElem?_eq_some_iff.1 h1).1
    refine bodyPost_ret (results_tmp rfl _ _ _) rfl ⟨HK2.out.trans (hL.keeps _), .ok (.un true t.p x.1, x.2), ⟨.ok x, HR2.out, rfl⟩, _, rfl, ?_, HP2.out.later hL, HE2.out.1, by have := HE2.out.2; simp only [List.length_cons]; omega⟩
    unfold NodeIn
    exact ⟨w2.heap.size, _, ⟨by omega, HK2.out.size⟩, rfl, obj_new w2 _, NodeIn.mono (fun b _ h => ⟨h.1, Nat.le_trans HK1.out.size h.2⟩) _ _ (NodeIn.kept (hL.keeps (fun b => b ≠ P)) (fun _ h => h.1) _ _ HN2.out)⟩
set_option maxRecDepth 100000 in
set_option maxHeartbeats 2000000 in
theorem binary1_any (P X d : Nat) (t : Tok) (r : List Tok) (w : World) (hX : w.cell? ⟨X, 0, none⟩ = some (.pointer (some ⟨P, 0, none⟩))) (hXP : X ≠ P) (h : PAt w P d (t :: r)) (he : EndL r)
    (hU : ∀ w1, Keeps (fun b => b ≠ P) w w1 → PAt w1 P d r → Calls Tryz.prog 39 #[.pointer (some ⟨P, 0, none⟩), .int .i64 2] w1 (POut w1 P d r (Par true (.bin 2) d r))) :
    Calls Tryz.prog 73 #[.pointer (some ⟨X, 0, none⟩)] w (POut w P d (t :: r) fun s => ∃ s', Par true (.bin 2) d r s' ∧ s = match s' with
      | .error f => .error f
      | .ok x => .ok (.un false t.p x.1, x.2)) := by
  have HP := hid h; have HU := hid hU; have HXP := hid hXP; have HEL := hid he
  clear h hU hXP he
  have hx := cell_lt hX
  go_enter Tryz.func73, Tryz.ntmps73
  go_wp2_with fail
  refine wp_region_held_drew (S := fun w => w.cell? ⟨X, 0, none⟩ = some (.pointer (some ⟨P, 0, none⟩))) (by kernel_rfl) ((Later.drew w).cell hX) (fun hS => ?_)
  refine wpAnyH_take (i := 0) (v := .pointer (some ⟨P, 0, none⟩)) rfl (by kernel_rfl) (by kernel_rfl) (by kernel_rfl) (fun _ _ _ h => h) (Or.inl ⟨by rfl, ?_⟩) hS ?_
  · intro w hS
    go_simp
  refine wpAnyH_take (i := 3) (v := .pointer (some ⟨P, 0, none⟩)) rfl (by kernel_rfl) (by kernel_rfl) (by kernel_rfl) (fun _ _ _ h => h) (Or.inl ⟨by rfl, ?_⟩) hS ?_
  · intro w hS
    go_simp
  try simp only [Act.put, List.setIfInBounds_toArray, List.set]
  refine wpAnyH_ready (rs := [1]) (by kernel_rfl) (by simp) (AllReadyH.cons rfl (fun K hK => ?_) AllReadyH.nil)
  go_simp
  refine (take_any P d t r _ (HP.out.later (Later.drew w))).mono ?_
  rintro e w1 ⟨rfl, hk1, hp1⟩
  have HK1 := hid (((Later.drew w).keeps _).trans hk1)
  have HP1 := hid hp1
  have hS1 := hk1.cell (p := ⟨X, 0, none⟩) HXP.out hS
  clear hS hk1 hp1
  unfold Tok.v
  refine hK.out _ _ hS1 (fun hS => ?_)
  clear hK K hS1
  try simp only [Act.put, List.setIfInBounds_toArray, List.set]
  refine wpAnyH_take (i := 2) (v := .int .i64 (t.p : Int)) rfl (by kernel_rfl) (by kernel_rfl) (by kernel_rfl) (fun _ _ _ h => h) (Or.inl ⟨by rfl, ?_⟩) hS ?_
  · intro w hS
    go_simp
  try simp only [Act.put, List.setIfInBounds_toArray, List.set]
  refine wpAnyH_ready (rs := [4]) (by kernel_rfl) (by simp) (AllReadyH.cons rfl (fun K hK => ?_) AllReadyH.nil)
  go_simp
  refine (HU.out w1 HK1.out HP1.out).mono ?_
  rintro e w2 ⟨hk2, rs, hr, hm⟩
  have HK2 := hid (HK1.out.trans hk2)
  have hS2 := hk2.cell (p := ⟨X, 0, none⟩) HXP.out hS
  cases rs with
  | error f =>
    simp only at hm
    unfold Fails at hm
    subst hm
    refine ⟨rfl, HK2.out, .error f, ⟨.error f, hr, rfl⟩, ?_⟩
    exact rfl
  | ok x =>
    obtain ⟨v, rfl, hn2, hp2, he2, hl2⟩ := hm
    have HN2 := hid hn2; have HP2 := hid hp2; have HE2 := hid (And.intro he2 hl2); have HR2 := hid hr
    clear hn2 hp2 he2 hl2 hr hk2 hS
    refine hK.out _ _ hS2 (fun hS => ?_)
    clear hK K hS2
    obtain ⟨vT, vB, hv⟩ := HN2.out.shape
    subst hv
    try simp only [Act.put, List.setIfInBounds_toArray, List.set]
    refine wpAnyH_ready (rs := [5]) (by kernel_rfl) (by simp) (AllReadyH.cons rfl (fun K hK => ?_) AllReadyH.nil)
    go_simp
    refine hK.out _ _ hS (fun hS => ?_)
    clear hK K
    try simp only [Act.put, List.setIfInBounds_toArray, List.set]
    refine wpAnyH_ready (rs := [6]) (by kernel_rfl) (by simp) (AllReadyH.cons rfl (fun K hK => ?_) AllReadyH.nil)
    go_simp
    refine hK.out _ _ ((Later.alloc _ _).cell hS) (fun hS => ?_)
    clear hK K
    try simp only [Act.put, List.setIfInBounds_toArray, List.set]
    refine wpAnyH_ready (rs := [7]) (by kernel_rfl) (by simp) (AllReadyH.cons rfl (fun K hK => ?_) AllReadyH.nil)
    go_simp
    refine hK.out _ _ hS (fun hS => ?_)
    clear hK K
    try simp only [Act.put, List.setIfInBounds_toArray, List.set]
    refine wpAnyH_ready (rs := [8]) (by kernel_rfl) (by simp) (AllReadyH.cons rfl (fun K hK => ?_) AllReadyH.nil)
    go_simp
    refine hK.out _ _ hS (fun hS => ?_)
    clear hK K
    refine wpAnyH_done (by kernel_rfl) ?_ _
    go_wp2_with fail
    have hL := Later.alloc w2 (.cells #[.string ⟨#[110, 111, 116]⟩, .int .i64 (t.p : Int), .iface vT (.pointer (some ⟨vB, 0, none⟩))] 139)
    have hPs : P < w2.heap.size := by obtain ⟨v, h1, -⟩ := HP2.out; exact (Array.getElem?_eq_some_iff.1 h1).1
    refine bodyPost_ret (results_tmp rfl _ _ _) rfl ⟨HK2.out.trans (hL.keeps _), .ok (.un false t.p x.1, x.2), ⟨.ok x, HR2.out, rfl⟩, _, rfl, ?_, HP2.out.later hL, HE2.out.1, by have := HE2.out.2; simp only [List.length_cons]; omega⟩
    unfold NodeIn
    exact ⟨w2.heap.size, _, ⟨by omega, HK2.out.size⟩, rfl, obj_new w2 _, NodeIn.mono (fun b _ h => ⟨h.1, Nat.le_trans HK1.out.size h.2⟩) _ _ (NodeIn.kept (hL.keeps (fun b => b ≠ P)) (fun _ h => h.1) _ _ HN2.out)⟩
end Go.Proofs.YtgajofkeidjbgaaGreatDoor
namespace Go.Proofs.YtgajofkeidjbgaaGreatDoor
set_option linter.unusedSimpArgs false
set_option linter.unusedVariables false
open Go.RowKit

attribute [local go_sem high] tok_f0 tok_f1 tok_f2
theorem POut.mono {w : World} {P d : Nat} {l : List Tok} {R R' : Res → Prop} {e : Ending} {w' : World} (h : POut w P d l R e w') (hR : ∀ s, R s → R' s) : POut w P d l R' e w' := by
  obtain ⟨k, r, hr, hm⟩ := h
  exact ⟨k, r, hR _ hr, hm⟩
theorem POut.before {w0 w : World} {P d : Nat} {l : List Tok} {R : Res → Prop} {e : Ending} {w' : World} (h : POut w P d l R e w') (k : Keeps (fun b => b ≠ P) w0 w) : POut w0 P d l R e w' := by
  obtain ⟨k', r, hr, hm⟩ := h
  refine ⟨k.trans k', r, hr, ?_⟩
  cases r with
  | error f => exact hm
  | ok x =>
    obtain ⟨v, h1, h2, h3⟩ := hm
    exact ⟨v, h1, NodeIn.mono (fun b _ h => ⟨h.1, Nat.le_trans k.size h.2⟩) _ _ h2, h3⟩
theorem tok_sign {t : Tok} (h : TokOk t) {x : List UInt8} (hx : x ∈ signsW) : isW t x = (decide (t.t = x) && decide (t.k = 111)) := by
  have hne : ∀ g ∈ signsW, ∀ c r, g = c :: r → letterB c = false ∧ digitB c = false ∧ c ≠ 39 := by
    have : ∀ g ∈ signsW, letterB (g.headD 0) = false ∧ digitB (g.headD 0) = false ∧ g.headD 0 ≠ 39 ∧ g ≠ [] := by decide
    intro g hg c r e
    have := this g hg
    rw [e] at this
    exact ⟨this.1, this.2.1, this.2.2.1⟩
  unfold isW
  by_cases ht : t.t = x
  · have hk : t.k = 111 := by
      rcases h with ⟨_, h2⟩ | ⟨_, c, r, h2, h3⟩ | ⟨_, c, r, h2, h3⟩ | ⟨_, r, h2⟩ | ⟨h1, _⟩
      · rw [← ht, h2] at hx; exact absurd hx (by decide)
      · have := (hne x hx c r (ht ▸ h2)).1; rw [h3] at this; cases this
      · have := (hne x hx c r (ht ▸ h2)).2.1; rw [h3] at this; cases this
      · exact absurd rfl (hne x hx 39 r (ht ▸ h2)).2.2
      · exact h1
    simp [ht, hk]
  · have : (t.t == x) = false := by simp [ht]
    rw [this]; simp [ht]
theorem par_minus {d : Nat} {t : Tok} {r : List Tok} (h : isW t minusW = true) {s : Res} (hs : if 12 < d + 1 then s = .error (4, t.p) else ∃ s', Par true .un (d + 1) r s' ∧ s = match s' with
      | .error f => .error f
      | .ok x => .ok (.un true t.p x.1, x.2)) : Par true .un d (t :: r) s := by
  have h' : isW (hdT (t :: r)) minusW = true := h
  by_cases hd : 12 < d + 1
  · rw [if_pos hd] at hs
    subst hs
    exact ⟨1, by unfold parseX; rw [if_pos h', if_pos hd]; rfl⟩
  · rw [if_neg hd] at hs
    obtain ⟨s', ⟨n, hn⟩, rfl⟩ := hs
    refine ⟨n + 1, ?_⟩
    unfold parseX
    rw [if_pos h', if_neg hd, show (t :: r).tail = r from rfl, hn]
    cases s' <;> rfl
set_option maxRecDepth 100000 in
set_option maxHeartbeats 2000000 in
theorem unary_any (P d : Nat) (l : List Tok) (w : World) (h : PAt w P d l) (hl : EndL l) (hd : d ≤ 12)
    (IH : ∀ d' l' w1, Keeps (fun b => b ≠ P) w w1 → l'.length < l.length → d' ≤ 12 → PAt w1 P d' l' → EndL l' → Calls Tryz.prog 71 #[.pointer (some ⟨P, 0, none⟩)] w1 (POut w1 P d' l' (Par true .un d' l')))
    (HPR : ¬ isW (hdT l) minusW = true → ∀ w1, Keeps (fun b => b ≠ P) w w1 → PAt w1 P d l → Calls Tryz.prog 97 #[.pointer (some ⟨P, 0, none⟩)] w1 (POut w1 P d l (Par true .un d l))) :
    Calls Tryz.prog 71 #[.pointer (some ⟨P, 0, none⟩)] w (POut w P d l (Par true .un d l)) := by
  have HIH := hid IH; have HPRI := hid HPR; have HD := hid hd
  obtain ⟨t, r, rfl, htok, hend⟩ := hl.cons
  have HTK := hid htok; have HEN := hid hend; have HP := hid h
  have hPs : P < w.heap.size := by obtain ⟨v, h1, -⟩ := h; exact (Array.getElem?_eq_some_iff.1 h1).1
  have HPS := hid hPs
  clear IH HPR hd hl htok hend h hPs
  go_enter Tryz.func71, Tryz.ntmps71
  go_wp2_with fail
  have HL1 := hid (Later.alloc w (.cells #[.pointer (some ⟨P, 0, none⟩)] 95))
  refine (here_any P d t r _ (HP.out.later HL1.out)).mono ?_
  rintro e w1 ⟨rfl, hL1⟩
  have HLW := hid (Later.trans _ _ _ HL1.out hL1)
  have hX := hL1.cell (cell_obj (i := 0) (obj_new w (.cells #[.pointer (some ⟨P, 0, none⟩)] 95)) rfl)
  unfold Tok.v
  obtain ⟨b1, h1⟩ : ∃ b, decide (t.t = minusW) = b := ⟨_, rfl⟩
  obtain ⟨b2, h2⟩ : ∃ b, decide (t.k = 111) = b := ⟨_, rfl⟩
  have HW : Hid (isW t minusW = (b1 && b2)) := hid (by rw [tok_sign HTK.out (by decide), h1, h2])
  have e2 : ((t.k.toNat : Int) == 111) = b2 := (byte_eq t.k 111 (by omega)).trans h2
  have e1 : ((strB t.t).toList == [45]) = b1 := by rw [strB_toL', ← h1, Bool.eq_iff_iff]; simp
  clear hL1 h1 h2
  have leaf : ¬ isW t minusW = true → ∀ w2, Later w1 w2 → Calls Tryz.prog 97 #[.pointer (some ⟨P, 0, none⟩)] w2 (POut w P d (t :: r) (Par true .un d (t :: r))) := fun hn w2 hL2 =>
    (HPRI.out hn w2 ((Later.trans _ _ _ HLW.out hL2).keeps _) (HP.out.later (Later.trans _ _ _ HLW.out hL2))).mono fun e w' h => h.before ((Later.trans _ _ _ HLW.out hL2).keeps _)
  have HLEAF := hid leaf
  clear leaf
  cases b1 with
  | false =>
    have HN : Hid (¬ isW t minusW = true) := hid (by rw [HW.out]; simp)
    go_wp2_with fail
    refine (HLEAF.out HN.out w1 (Later.refl _)).mono ?_
    rintro e w' ⟨k, rs, hr, hm⟩
    cases rs with
    | error f =>
      simp only at hm
      unfold Fails at hm
      subst hm
      exact ⟨rfl, k, .error f, hr, rfl⟩
    | ok x =>
      obtain ⟨v, rfl, hm⟩ := hm
      have HK := hid k; have HR := hid hr; have HM := hid hm
      clear k hr hm
      go_wp2_with fail
      exact bodyPost_ret (results_tmp rfl _ _ _) rfl ⟨HK.out, .ok x, HR.out, v, rfl, HM.out⟩
  | true =>
    go_wp2_with fail
    refine (here_any P d t r _ (HP.out.later HLW.out)).mono ?_
    rintro e w2 ⟨rfl, hL2⟩
    have HL2 := hid hL2
    have hX2 := hL2.cell hX
    unfold Tok.v
    clear hL2 hX
    cases b2 with
    | false =>
      have HN : Hid (¬ isW t minusW = true) := hid (by rw [HW.out]; simp)
      go_wp2_with fail
      refine (HLEAF.out HN.out w2 HL2.out).mono ?_
      rintro e w' ⟨k, rs, hr, hm⟩
      cases rs with
      | error f =>
        simp only at hm
        unfold Fails at hm
        subst hm
        exact ⟨rfl, k, .error f, hr, rfl⟩
      | ok x =>
        obtain ⟨v, rfl, hm⟩ := hm
        have HK := hid k; have HR := hid hr; have HM := hid hm
        clear k hr hm
        go_wp2_with fail
        exact bodyPost_ret (results_tmp rfl _ _ _) rfl ⟨HK.out, .ok x, HR.out, v, rfl, HM.out⟩
    | true =>
      have HY : Hid (isW t minusW = true) := hid (by rw [HW.out]; rfl)
      have HENR : Hid (EndL r) := hid (HEN.out (by
        have h := HY.out
        rw [tok_sign HTK.out (by decide)] at h
        have : t.k = 111 := by simp at h; exact h.2
        rw [this]; decide))
      have HLW2 := hid (Later.trans _ _ _ HLW.out HL2.out)
      go_wp2_with fail
      refine ((nested_any 96 (enters_of Tryz.func96 (by kernel_rfl) rfl) #[.pointer (some ⟨w.heap.size, 0, none⟩)] P d t r (t :: r) (fun s => ∃ s', Par true .un (d + 1) r s' ∧ s = match s' with
        | .error f => .error f
        | .ok x => .ok (.un true t.p x.1, x.2)) w2 (HP.out.later HLW2.out) HD.out (fun hd1 w3 hk3 hp3 => by
          refine unary1_any P w.heap.size (d + 1) t r w3 (hk3.cell (p := ⟨w.heap.size, 0, none⟩) (Nat.ne_of_gt HPS.out) hX2) (Nat.ne_of_gt HPS.out) hp3 HENR.out fun w4 hk4 hp4 => ?_
          exact HIH.out (d + 1) r w4 (((HLW2.out.keeps _).trans hk3).trans hk4) (by simp) hd1 hp4 HENR.out)).mono fun e w' h => (h.mono fun s hs => par_minus HY.out hs).before (HLW2.out.keeps _)).mono ?_
      rintro e w' ⟨k, rs, hr, hm⟩
      cases rs with
      | error f =>
        simp only at hm
        unfold Fails at hm
        subst hm
        exact ⟨rfl, k, .error f, hr, rfl⟩
      | ok x =>
        obtain ⟨v, rfl, hm⟩ := hm
        have HK := hid k; have HR := hid hr; have HM := hid hm
        clear k hr hm
        go_wp2_with fail
        exact bodyPost_ret (results_tmp rfl _ _ _) rfl ⟨HK.out, .ok x, HR.out, v, rfl, HM.out⟩
end Go.Proofs.YtgajofkeidjbgaaGreatDoor
namespace Go.Proofs.YtgajofkeidjbgaaGreatDoor
set_option linter.unusedSimpArgs false
set_option linter.unusedVariables false
open Go.RowKit

attribute [local go_sem high] tok_f0 tok_f1 tok_f2
def closeR (s : Res) : Res := match s with
  | .error f => .error f
  | .ok x => if isW (hdT x.2) closeW = true then .ok (x.1, x.2.tail) else .error (1, (hdT x.2).p)
theorem sign_k {t : Tok} (h : TokOk t) {x : List UInt8} (hx : x ∈ signsW) (hw : isW t x = true) : t.k ≠ 0 := by
  rw [tok_sign h hx] at hw
  have : t.k = 111 := by simp at hw; exact hw.2
  rw [this]; decide
set_option maxRecDepth 100000 in
set_option maxHeartbeats 2000000 in
theorem prim2_any (P X d : Nat) (t : Tok) (r : List Tok) (w : World) (hX : w.cell? ⟨X, 0, none⟩ = some (.pointer (some ⟨P, 0, none⟩))) (hXP : X ≠ P) (h : PAt w P d (t :: r))
    (hB : ∀ w1, Keeps (fun b => b ≠ P) w w1 → PAt w1 P d r → Calls Tryz.prog 39 #[.pointer (some ⟨P, 0, none⟩), .int .i64 0] w1 (POut w1 P d r (Par true (.bin 0) d r))) :
    Calls Tryz.prog 118 #[.pointer (some ⟨X, 0, none⟩)] w (POut w P d (t :: r) fun s => ∃ s', Par true (.bin 0) d r s' ∧ s = closeR s') := by
  have HP := hid h; have HB := hid hB; have HXP := hid hXP
  clear h hB hXP
  go_enter Tryz.func118, Tryz.ntmps118
  go_wp2_with fail
  refine (take_any P d t r _ HP.out).mono ?_
  rintro e w1 ⟨rfl, hk1, hp1⟩
  have HK1 := hid hk1; have HP1 := hid hp1
  have hX1 := hk1.cell (p := ⟨X, 0, none⟩) HXP.out hX
  clear hk1 hp1 hX
  unfold Tok.v
  go_wp2_with fail
  refine (HB.out w1 HK1.out HP1.out).mono ?_
  rintro e w2 ⟨hk2, rs, hr, hm⟩
  have HK2 := hid (HK1.out.trans hk2)
  have hX2 := hk2.cell (p := ⟨X, 0, none⟩) HXP.out hX1
  cases rs with
  | error f =>
    simp only at hm
    unfold Fails at hm
    subst hm
    exact ⟨rfl, HK2.out, .error f, ⟨.error f, hr, rfl⟩, rfl⟩
  | ok x =>
    obtain ⟨v, rfl, hn2, hp2, he2, hl2⟩ := hm
    obtain ⟨y, l2⟩ := x
    simp only at hn2 hp2 he2 hl2
    obtain ⟨t2, r2, rfl, htk2, hen2⟩ := he2.cons
    have HN2 := hid hn2; have HP2 := hid hp2; have HL2 := hid hl2; have HR2 := hid hr; have HTK2 := hid htk2; have HEN2 := hid hen2
    clear hn2 hp2 hl2 hr hk2 htk2 hen2 he2 hX1
    go_wp2_with fail
    refine (must_any P d t2 r2 [41] _ HP2.out).mono ?_
    rintro e w3 ⟨hk3, hm3⟩
    have HK3 := hid (HK2.out.trans hk3)
    have HN3 := hid (NodeIn.mono (fun b _ h => (⟨h.1, Nat.le_trans HK1.out.size h.2⟩ : b ≠ P ∧ w.heap.size ≤ b)) _ _ (NodeIn.kept hk3 (fun _ h => h.1) _ _ HN2.out))
    cases hw : isW t2 [41] with
    | true =>
      rw [if_pos hw] at hm3
      obtain ⟨rfl, hp3⟩ := hm3
      have HP3 := hid hp3; have HW := hid hw
      clear hk3 hp3 hw
      go_wp2_with fail
      refine bodyPost_ret (results_tmp rfl _ _ _) rfl ⟨HK3.out, .ok (y, r2), ⟨.ok (y, t2 :: r2), HR2.out, ?_⟩, v, rfl, HN3.out, HP3.out, HEN2.out (sign_k HTK2.out (by decide) HW.out), by have := HL2.out; simp only [List.length_cons] at this ⊢; omega⟩
      have hw : isW (hdT (t2 :: r2)) closeW = true := HW.out
      unfold closeR
      simp only
      rw [if_pos hw]
      rfl
    | false =>
      rw [if_neg (by rw [hw]; simp)] at hm3
      have HW := hid hw
      unfold Fails at hm3
      subst hm3
      simp only [Exit.then, Exit.inBlock]
      refine ⟨rfl, HK3.out, .error (1, t2.p), ⟨.ok (y, t2 :: r2), HR2.out, ?_⟩, rfl⟩
      have hw : ¬ isW (hdT (t2 :: r2)) closeW = true := by show ¬ isW t2 [41] = true; rw [HW.out]; simp
      unfold closeR
      simp only
      rw [if_neg hw]
      rfl
end Go.Proofs.YtgajofkeidjbgaaGreatDoor
