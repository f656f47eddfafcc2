/-
  PROVED HERE: the six functions of expressions.
  PROVED HERE: the closure that expr's primary hands to nested for a call.
  PROVED HERE: the contract of slices.IndexFunc at texts, with a method of some receiver.
-/
import Derived.Test.YtgajofkeidjbgaaGreatDoorGExprIdx
import Derived.Test.YtgajofkeidjbgaaGreatDoorGParNest
import Derived.Test.YtgajofkeidjbgaaGreatDoorGLexPlain
namespace Go.Proofs.YtgajofkeidjbgaaGreatDoor
set_option linter.unusedSimpArgs false
set_option linter.unusedVariables false
open Go.RowKit

attribute [local go_sem high] run_eql_val' run_neq_val'
/-- an element, in cells. -/
def ElAt (w : World) (b o : Nat) (x : Val) : Prop := w.cell? ⟨b, o, none⟩ = some (.int .i64 x.k) ∧ w.cell? ⟨b, o + 1, none⟩ = some (.int .i64 x.n) ∧ w.cell? ⟨b, o + 2, none⟩ = some (.string x.t)
theorem ElAt.later {w w' : World} {b o : Nat} {x : Val} (h : ElAt w b o x) (k : Later w w') : ElAt w' b o x := ⟨k.cell h.1, k.cell h.2.1, k.cell h.2.2⟩
theorem els_at {w : World} {ao : Option Addr} {n c : Nat} {x : Val} {l : List Val} (h : IsVals w (.slice ao n c) (x :: l)) : n = (x :: l).length ∧ ∃ b o, ao = some ⟨b, o, none⟩ ∧ ∀ i (hi : i < (x :: l).length), ElAt w b (o + i * 3) (x :: l)[i] := by
  obtain ⟨a', c', hv, -, he⟩ := val_at h
  simp only [Value.slice.injEq] at hv
  obtain ⟨rfl, hn, rfl⟩ := hv
  obtain ⟨b, o, rfl, -⟩ := he 0 (by simp)
  refine ⟨hn, b, o, rfl, fun i hi => ?_⟩
  obtain ⟨b', o', e, h0, h1, h2⟩ := he i hi
  simp only [Option.some.injEq, Addr.mk.injEq, and_true] at e
  obtain ⟨rfl, rfl⟩ := e
  exact ⟨h0, h1, h2⟩
/-- the variable for what is returned. -/
theorem ret_new (w : World) : ∃ w1, w1 = w.alloc (.cells #[.int .i64 0, .int .i64 0, .string ⟨#[]⟩] 38) ∧ Later w w1 ∧ VObj w1 w.heap.size nothing := ⟨_, rfl, Later.alloc _ _, new_val w⟩
theorem setV_keeps (w : World) (R : Nat) (x : Val) : Keeps (fun b => b ≠ R) w (setV w R x) :=
  (((Keeps.refl _ w).setCell (p := ⟨R, 0, none⟩) (.inl fun h => h rfl) _).setCell (p := ⟨R, 1, none⟩) (.inl fun h => h rfl) _).setCell (p := ⟨R, 2, none⟩) (.inl fun h => h rfl) _
theorem str_take (t : ByteArray) (n : Nat) : t.extract 0 n = strB (t.data.toList.take n) := by
  conv => lhs; rw [← strB_data t]
  rw [strB_cut, List.drop_zero, Nat.sub_zero]
set_option maxRecDepth 100000 in
set_option maxHeartbeats 2000000 in
theorem fn1_any (a : Val) (ao : Option Addr) (c : Nat) (w : World) (hl : IsVals w (.slice ao 1 c) [a]) : Calls Tryz.prog 108 #[.slice ao 1 c] w (ValueTo' (intV a.t.size) w) := by
  obtain ⟨-, b, o, rfl, he⟩ := els_at hl
  have h0 : ElAt w b o a := by have := he 0 (by simp); simpa using this
  obtain ⟨w1, hw1, hL1, hR1⟩ := ret_new w
  obtain ⟨p0, p1, p2⟩ := h0.later hL1
  have pl := cell_lt p0
  have HL1 := hid hL1; have HR1 := hid hR1
  clear hl he h0 hL1 hR1
  go_enter Tryz.func108, Tryz.ntmps108
  go_upto_region 1 with (fail)
  rw [← hw1]
  clear hw1
  go_wp2_with fail
  refine (vof_any a.t.size w1).mono ?_
  rintro e w3 ⟨rfl, hL3⟩
  have HL3 := hid (Later.trans _ _ _ HL1.out hL3)
  have HR3 := hid (HR1.out.later hL3)
  obtain ⟨c0, c1, c2, f0, f1, f2, cl⟩ := HR3.out.cells
  simp only [nothing] at c0 c1 c2
  obtain ⟨x, hx⟩ : ∃ x : Val, x = ⟨1, a.t.size, ByteArray.empty⟩ := ⟨_, rfl⟩
  have HX := hid hx
  rw [← hx, vv]
  clear hL3 p0 p1 p2 pl hx
  go_wp2_with fail
  refine bodyPost_ret (results_val rfl rfl (HR3.out.set x)) rfl ⟨?_, setV_later HL3.out (Nat.le_refl _) _⟩
  rw [HX.out]
  rfl
set_option maxRecDepth 100000 in
set_option maxHeartbeats 2000000 in
theorem fn2_any (a : Val) (ao : Option Addr) (c : Nat) (w : World) (hl : IsVals w (.slice ao 1 c) [a]) : Calls Tryz.prog 109 #[.slice ao 1 c] w (ValueTo' (intV (max a.n (wrap64 (-a.n)))) w) := by
  obtain ⟨-, b, o, rfl, he⟩ := els_at hl
  have h0 : ElAt w b o a := by have := he 0 (by simp); simpa using this
  obtain ⟨w1, hw1, hL1, hR1⟩ := ret_new w
  have HE := hid (h0.later (Later.trans _ _ _ hL1 (Later.drew w1)))
  have HBR : Hid (b ≠ w.heap.size) := hid (by have := cell_lt h0.1; have : b < w.heap.size := this; omega)
  have HL1 := hid hL1; have HR1 := hid hR1
  clear hl he h0 hL1 hR1
  go_enter Tryz.func109, Tryz.ntmps109
  go_upto_region 1 with (fail)
  rw [← hw1]
  clear hw1
  refine wp_region_held_drew (S := fun w => w.cell? ⟨b, o + 1, none⟩ = some (.int .i64 a.n)) (by kernel_rfl) HE.out.2.1 (fun hS => ?_)
  refine wpAnyH_take (i := 0) (v := .slice (some ⟨b, o, none⟩) 1 c) rfl (by kernel_rfl) (by kernel_rfl) (by kernel_rfl) (fun _ _ _ h => h) (Or.inl ⟨by rfl, ?_⟩) hS ?_
  · intro w hS
    clear hS
    go_simp
  try simp only [Act.put, List.setIfInBounds_toArray, List.set]
  refine wpAnyH_take (i := 4) (v := .slice (some ⟨b, o, none⟩) 1 c) rfl (by kernel_rfl) (by kernel_rfl) (by kernel_rfl) (fun _ _ _ h => h) (Or.inl ⟨by rfl, ?_⟩) hS ?_
  · intro w hS
    clear hS
    go_simp
  try simp only [Act.put, List.setIfInBounds_toArray, List.set]
  refine wpAnyH_take (i := 1) (v := .pointer (some ⟨b, o, none⟩)) rfl (by kernel_rfl) (by kernel_rfl) (by kernel_rfl) (fun _ _ _ h => h) (Or.inl ⟨by rfl, ?_⟩) hS ?_
  · intro w hS
    clear hS
    go_simp
  try simp only [Act.put, List.setIfInBounds_toArray, List.set]
  refine wpAnyH_take (i := 5) (v := .pointer (some ⟨b, o, none⟩)) rfl (by kernel_rfl) (by kernel_rfl) (by kernel_rfl) (fun _ _ _ h => h) (Or.inl ⟨by rfl, ?_⟩) hS ?_
  · intro w hS
    clear hS
    go_simp
  try simp only [Act.put, List.setIfInBounds_toArray, List.set]
  refine wpAnyH_take (i := 2) (v := .pointer (some ⟨b, o + 1, none⟩)) rfl (by kernel_rfl) (by kernel_rfl) (by kernel_rfl) (fun _ _ _ h => h) (Or.inl ⟨by rfl, ?_⟩) hS ?_
  · rintro w h0
    try (have := cell_lt h0)
    go_simp
  try simp only [Act.put, List.setIfInBounds_toArray, List.set]
  refine wpAnyH_take (i := 6) (v := .pointer (some ⟨b, o + 1, none⟩)) rfl (by kernel_rfl) (by kernel_rfl) (by kernel_rfl) (fun _ _ _ h => h) (Or.inl ⟨by rfl, ?_⟩) hS ?_
  · rintro w h0
    try (have := cell_lt h0)
    go_simp
  try simp only [Act.put, List.setIfInBounds_toArray, List.set]
  refine wpAnyH_take (i := 3) (v := .int .i64 a.n) rfl (by kernel_rfl) (by kernel_rfl) (by kernel_rfl) (fun _ _ _ h => h) (Or.inl ⟨by rfl, ?_⟩) hS ?_
  · rintro w h0
    try (have := cell_lt h0)
    go_simp
  try simp only [Act.put, List.setIfInBounds_toArray, List.set]
  refine wpAnyH_take (i := 7) (v := .int .i64 a.n) rfl (by kernel_rfl) (by kernel_rfl) (by kernel_rfl) (fun _ _ _ h => h) (Or.inl ⟨by rfl, ?_⟩) hS ?_
  · rintro w h0
    try (have := cell_lt h0)
    go_simp
  try simp only [Act.put, List.setIfInBounds_toArray, List.set]
  refine wpAnyH_take (i := 8) (v := .int .i64 (wrap64 (-a.n))) rfl (by kernel_rfl) (by kernel_rfl) (by kernel_rfl) (fun _ _ _ h => h) (Or.inl ⟨by rfl, ?_⟩) hS ?_
  · intro w hS
    clear hS
    go_simp
    unfold wrap64
    exact IntKind.wrap_i64 _
  try simp only [Act.put, List.setIfInBounds_toArray, List.set]
  refine wpAnyH_take (i := 9) (v := .int .i64 (max a.n (wrap64 (-a.n)))) rfl (by kernel_rfl) (by kernel_rfl) (by kernel_rfl) (fun _ _ _ h => h) (Or.inl ⟨by rfl, ?_⟩) hS ?_
  · intro w hS
    clear hS
    go_simp
  try simp only [Act.put, List.setIfInBounds_toArray, List.set]
  obtain ⟨m, hm⟩ : ∃ m, max a.n (wrap64 (-a.n)) = m := ⟨_, rfl⟩
  have HM := hid hm
  rw [hm]
  clear hm
  refine wpAnyH_ready (rs := [10]) (by kernel_rfl) (by simp) (AllReadyH.cons rfl (fun K hK => ?_) AllReadyH.nil)
  go_simp
  refine (vof_any m _).mono ?_
  rintro e w3 ⟨rfl, hL3⟩
  have HL3 := hid (Later.trans _ _ _ HL1.out (Later.trans _ _ _ (Later.drew w1) hL3))
  have HR3 := hid (HR1.out.later (Later.trans _ _ _ (Later.drew w1) hL3))
  refine hK.out _ _ (hL3.cell hS) (fun hS => ?_)
  clear hK K
  try simp only [Act.put, List.setIfInBounds_toArray, List.set]
  obtain ⟨c0, c1, c2, f0, f1, f2, cl⟩ := HR3.out.cells
  simp only [nothing] at c0 c1 c2
  obtain ⟨x, hx⟩ : ∃ x : Val, x = ⟨1, m, ByteArray.empty⟩ := ⟨_, rfl⟩
  have HX := hid hx
  rw [← hx, vv]
  clear hL3 hx
  refine wpAnyH_ready (rs := [11]) (by kernel_rfl) (by simp) (AllReadyH.cons rfl (fun K hK => ?_) AllReadyH.nil)
  go_simp
  refine hK.out _ _ ((setV_keeps w3 w.heap.size x).cell (p := ⟨b, o + 1, none⟩) HBR.out hS) (fun hS => ?_)
  clear hK K hS
  refine wpAnyH_done (by kernel_rfl) ?_ _
  clear c0 c1 c2 f0 f1 f2 cl
  go_wp2_with fail
  refine bodyPost_ret (results_val rfl rfl (HR3.out.set x)) rfl ⟨?_, setV_later HL3.out (Nat.le_refl _) _⟩
  rw [HX.out, ← HM.out]
  rfl
set_option maxRecDepth 100000 in
set_option maxHeartbeats 2000000 in
theorem fn3_any (a d : Val) (ao : Option Addr) (c : Nat) (w : World) (hl : IsVals w (.slice ao 2 c) [a, d]) (hs : a.t.size ≤ 1000) :
    Calls Tryz.prog 110 #[.slice ao 2 c] w (ValueTo' (textV (a.t.data.toList.take (max 0 (min (a.t.size : Int) d.n)).toNat)) w) := by
  obtain ⟨-, b, o, rfl, he⟩ := els_at hl
  have h0 : ElAt w b o a := by have := he 0 (by simp); simpa using this
  have h1 : ElAt w b (o + 3) d := by have := he 1 (by simp); simpa using this
  obtain ⟨w1, hw1, hL1, hR1⟩ := ret_new w
  obtain ⟨p0, p1, p2⟩ := h0.later hL1
  obtain ⟨r0, r1, r2⟩ := h1.later hL1
  have pl := cell_lt p0
  have HL1 := hid hL1; have HR1 := hid hR1; have HS := hid hs
  have hz : max 0 (min (a.t.size : Int) d.n) ≤ a.t.size := by omega
  clear hl he h0 h1 hL1 hR1 hs
  go_enter Tryz.func110, Tryz.ntmps110
  go_upto_region 1 with (fail)
  rw [← hw1]
  clear hw1
  go_wp2_with fail
  refine (vwords_any _ w1).mono ?_
  rintro e w3 ⟨rfl, hL3⟩
  have HL3 := hid (Later.trans _ _ _ HL1.out hL3)
  have HR3 := hid (HR1.out.later hL3)
  obtain ⟨c0, c1, c2, f0, f1, f2, cl⟩ := HR3.out.cells
  simp only [nothing] at c0 c1 c2
  obtain ⟨x, hx⟩ : ∃ x : Val, x = ⟨3, 0, a.t.extract 0 (max 0 (min (a.t.size : Int) d.n)).toNat⟩ := ⟨_, rfl⟩
  have HX := hid hx
  rw [← hx, vv]
  clear hL3 p0 p1 p2 pl r0 r1 r2 hz hx
  go_wp2_with fail
  refine bodyPost_ret (results_val rfl rfl (HR3.out.set x)) rfl ⟨?_, setV_later HL3.out (Nat.le_refl _) _⟩
  rw [HX.out, str_take]
  rfl
set_option maxRecDepth 100000 in
set_option maxHeartbeats 2000000 in
theorem fn4_any (a : Val) (ao : Option Addr) (c : Nat) (w : World) (hl : IsVals w (.slice ao 1 c) [a]) : Calls Tryz.prog 111 #[.slice ao 1 c] w (ValueTo' (truthV (decide (a.k = 0))) w) := by
  obtain ⟨-, b, o, rfl, he⟩ := els_at hl
  have h0 : ElAt w b o a := by have := he 0 (by simp); simpa using this
  obtain ⟨w1, hw1, hL1, hR1⟩ := ret_new w
  obtain ⟨p0, p1, p2⟩ := h0.later hL1
  have pl := cell_lt p0
  have HL1 := hid hL1; have HR1 := hid hR1
  obtain ⟨bq, hq⟩ : ∃ q, decide (a.k = 0) = q := ⟨_, rfl⟩
  rw [hq]
  have hqe : (a.k == 0) = bq := by rw [int_dec]; exact hq
  clear hl he h0 hL1 hR1 hq
  go_enter Tryz.func111, Tryz.ntmps111
  go_upto_region 1 with (fail)
  rw [← hw1]
  clear hw1
  go_wp2_with fail
  try rw [hqe]
  refine (vtruth_any bq w1).mono ?_
  rintro e w3 ⟨rfl, hL3⟩
  have HL3 := hid (Later.trans _ _ _ HL1.out hL3)
  have HR3 := hid (HR1.out.later hL3)
  obtain ⟨c0, c1, c2, f0, f1, f2, cl⟩ := HR3.out.cells
  simp only [nothing] at c0 c1 c2
  obtain ⟨x, hx⟩ : ∃ x : Val, x = ⟨2, if bq = true then 1 else 0, ByteArray.empty⟩ := ⟨_, rfl⟩
  have HX := hid hx
  rw [← hx, vv]
  clear hL3 p0 p1 p2 pl hx hqe
  go_wp2_with fail
  refine bodyPost_ret (results_val rfl rfl (HR3.out.set x)) rfl ⟨?_, setV_later HL3.out (Nat.le_refl _) _⟩
  rw [HX.out]
  rfl
set_option maxRecDepth 100000 in
set_option maxHeartbeats 2000000 in
theorem fn5_any (a d : Val) (ao : Option Addr) (c : Nat) (w : World) (hl : IsVals w (.slice ao 2 c) [a, d]) : Calls Tryz.prog 112 #[.slice ao 2 c] w (ValueTo' (if a.k = 0 then d else a) w) := by
  obtain ⟨-, b, o, rfl, he⟩ := els_at hl
  have h0 : ElAt w b o a := by have := he 0 (by simp); simpa using this
  have h1 : ElAt w b (o + 3) d := by have := he 1 (by simp); simpa using this
  obtain ⟨w1, hw1, hL1, hR1⟩ := ret_new w
  obtain ⟨p0, p1, p2⟩ := h0.later hL1
  obtain ⟨r0, r1, r2⟩ := h1.later hL1
  have pl := cell_lt p0
  have HL1 := hid hL1; have HR1 := hid hR1
  obtain ⟨x, hx⟩ : ∃ x, (if a.k = 0 then d else a) = x := ⟨_, rfl⟩
  have HX := hid hx
  rw [hx]
  obtain ⟨c0, c1, c2, f0, f1, f2, cl⟩ := HR1.out.cells
  simp only [nothing] at c0 c1 c2
  clear hl he h0 h1 hL1 hR1 hx
  go_enter Tryz.func112, Tryz.ntmps112
  go_upto_region 1 with (fail)
  rw [← hw1]
  clear hw1
  by_cases hq : a.k = 0
  · have HQ := hid hq
    have hqe : (a.k == 0) = true := by simpa using hq
    clear hq
    go_wp2_with fail
    refine bodyPost_ret (results_val rfl rfl (HR1.out.set d)) rfl ⟨?_, setV_later HL1.out (Nat.le_refl _) _⟩
    rw [← HX.out, if_pos HQ.out]
  · have HQ := hid hq
    have hqe : (a.k == 0) = false := by simpa using hq
    clear hq
    go_wp2_with fail
    refine bodyPost_ret (results_val rfl rfl (HR1.out.set a)) rfl ⟨?_, setV_later HL1.out (Nat.le_refl _) _⟩
    rw [← HX.out, if_neg HQ.out]
set_option maxRecDepth 100000 in
set_option maxHeartbeats 2000000 in
theorem fn6_any (a d g : Val) (ao : Option Addr) (c : Nat) (w : World) (hl : IsVals w (.slice ao 3 c) [a, d, g]) : Calls Tryz.prog 113 #[.slice ao 3 c] w (ValueTo' (if a = truthV true then d else g) w) := by
  obtain ⟨-, b, o, rfl, he⟩ := els_at hl
  have h0 : ElAt w b o a := by have := he 0 (by simp); simpa using this
  have h1 : ElAt w b (o + 3) d := by have := he 1 (by simp); simpa using this
  have h2 : ElAt w b (o + 6) g := by have := he 2 (by simp); simpa using this
  obtain ⟨w1, hw1, hL1, hR1⟩ := ret_new w
  have HL1 := hid hL1; have HR1 := hid hR1; have H0 := hid h0; have H1 := hid h1; have H2 := hid h2
  obtain ⟨x, hx⟩ : ∃ x, (if a = truthV true then d else g) = x := ⟨_, rfl⟩
  have HX := hid hx
  rw [hx]
  clear hl he h0 h1 h2 hL1 hR1 hx
  go_enter Tryz.func113, Tryz.ntmps113
  go_upto_region 1 with (fail)
  rw [← hw1]
  clear hw1
  have hS0 : ElAt w1.drew b o a := H0.out.later (Later.trans _ _ _ HL1.out (Later.drew w1))
  refine wp_region_held_drew (S := fun w => ElAt w b o a) (by kernel_rfl) hS0 (fun hS => ?_)
  refine wpAnyH_take (i := 0) (v := .slice (some ⟨b, o, none⟩) 3 c) rfl (by kernel_rfl) (by kernel_rfl) (by kernel_rfl) (fun _ _ _ h => h) (Or.inl ⟨by rfl, ?_⟩) hS ?_
  · intro w hS
    clear hS
    go_simp
  try simp only [Act.put, List.setIfInBounds_toArray, List.set]
  refine wpAnyH_take (i := 1) (v := .pointer (some ⟨b, o, none⟩)) rfl (by kernel_rfl) (by kernel_rfl) (by kernel_rfl) (fun _ _ _ h => h) (Or.inl ⟨by rfl, ?_⟩) hS ?_
  · intro w hS
    clear hS
    go_simp
  try simp only [Act.put, List.setIfInBounds_toArray, List.set]
  refine wpAnyH_take (i := 2) (v := a.v) rfl (by kernel_rfl) (by kernel_rfl) (by kernel_rfl) (fun _ _ _ h => h) (Or.inl ⟨by rfl, ?_⟩) hS ?_
  · rintro w ⟨h0, h1, h2⟩
    have hlt := cell_lt h0
    rw [vv]
    go_simp
  try simp only [Act.put, List.setIfInBounds_toArray, List.set]
  refine wpAnyH_ready (rs := [3]) (by kernel_rfl) (by simp) (AllReadyH.cons rfl (fun K hK => ?_) AllReadyH.nil)
  go_simp
  refine (vtruth_any true _).mono ?_
  rintro e w3 ⟨rfl, hL3⟩
  have HL3 := hid (Later.trans _ _ _ HL1.out (Later.trans _ _ _ (Later.drew w1) hL3))
  have HR3 := hid (HR1.out.later (Later.trans _ _ _ (Later.drew w1) hL3))
  refine hK.out _ _ (hS.later hL3) (fun hS => ?_)
  clear hK K hL3 hS0
  try simp only [Act.put, List.setIfInBounds_toArray, List.set]
  obtain ⟨bq, hq⟩ : ∃ q, decide (a = truthV true) = q := ⟨_, rfl⟩
  have hqe : eqV ⟨a.k, a.n, a.t⟩ ⟨2, 1, ByteArray.empty⟩ = bq := by rw [eqV_dec]; exact hq
  refine wpAnyH_take (i := 4) (v := .bool bq) rfl (by kernel_rfl) (by kernel_rfl) (by kernel_rfl) (fun _ _ _ h => h) (Or.inl ⟨by rfl, ?_⟩) hS ?_
  · intro w hS
    clear hS
    rw [vv, vv]
    simp only [if_true]
    go_simp
  try simp only [Act.put, List.setIfInBounds_toArray, List.set]
  clear hS hqe
  refine wpAnyH_done (by kernel_rfl) ?_ _
  have HQ := hid hq
  clear hq
  obtain ⟨r0, r1, r2⟩ := H1.out.later HL3.out
  obtain ⟨s0, s1, s2⟩ := H2.out.later HL3.out
  have pl := cell_lt r0
  obtain ⟨c0, c1, c2, f0, f1, f2, cl⟩ := HR3.out.cells
  simp only [nothing] at c0 c1 c2
  cases bq with
  | true =>
    go_wp2_with fail
    refine bodyPost_ret (results_val rfl rfl (HR3.out.set d)) rfl ⟨?_, setV_later HL3.out (Nat.le_refl _) _⟩
    rw [← HX.out, if_pos (of_decide_eq_true HQ.out)]
  | false =>
    go_wp2_with fail
    refine bodyPost_ret (results_val rfl rfl (HR3.out.set g)) rfl ⟨?_, setV_later HL3.out (Nat.le_refl _) _⟩
    rw [← HX.out, if_neg (of_decide_eq_false HQ.out)]
end Go.Proofs.YtgajofkeidjbgaaGreatDoor
namespace Go.Proofs.YtgajofkeidjbgaaGreatDoor
set_option linter.unusedSimpArgs false
set_option linter.unusedVariables false
open Go.RowKit

set_option maxRecDepth 100000 in
theorem prim1_any (P X Y d : Nat) (ft : Tok) (l : List Tok) (R : Res → Prop) (w : World) (hX : w.cell? ⟨X, 0, none⟩ = some (.pointer (some ⟨P, 0, none⟩))) (hY : TokObj w Y ft.k ft.t ft.p)
    (hC : Calls Tryz.prog 117 #[.pointer (some ⟨P, 0, none⟩), ft.v] w (POut w P d l R)) :
    Calls Tryz.prog 116 #[.pointer (some ⟨X, 0, none⟩), .pointer (some ⟨Y, 0, none⟩)] w (POut w P d l R) := by
  have HC := hid hC
  have y0 := cell_obj (i := 0) hY rfl
  have y1 := cell_obj (i := 1) hY rfl
  have y2 := cell_obj (i := 2) hY rfl
  have hx := cell_lt hX
  have hy := cell_lt y0
  clear hC hY
  go_enter Tryz.func116, Tryz.ntmps116
  go_wp2_with fail
  refine HC.out.mono ?_
  rintro e w' ⟨k, rs, hr, hm⟩
  cases rs with
  | error f =>
    simp only at hm
    unfold Fails at hm
    subst hm
    exact ⟨rfl, k, .error f, hr, rfl⟩
  | ok x =>
    obtain ⟨v, rfl, hm⟩ := hm
    have HK := hid k; have HR := hid hr; have HM := hid hm
    clear k hr hm
    go_wp2_with fail
    exact bodyPost_ret (results_tmp rfl _ _ _) rfl ⟨HK.out, .ok x, HR.out, v, rfl, HM.out⟩
end Go.Proofs.YtgajofkeidjbgaaGreatDoor
namespace Go.Proofs.YtgajofkeidjbgaaGreatDoor
set_option linter.unusedSimpArgs false
set_option linter.unusedVariables false
open Go.RowKit

set_option maxRecDepth 100000 in
set_option maxHeartbeats 2000000 in
theorem idxb (x0 : Value) (F : FuncId) (hent : ∀ args w, (callFunc F args).run Tryz.prog w = .ok (.enter F args) w) (b off c : Nat) (xs : List (List UInt8)) (w : World) (q : List UInt8 → Bool) (I : World → Prop) (T : List UInt8 → World → Prop)
    (hI : ∀ w', I w' → StrsAt w' b off xs) (hw : I w) (hlen : xs.length ≤ 1048576)
    (hF : ∀ x ∈ xs, ∀ w', I w' → Calls Tryz.prog F (#[x0, .string (strB x)]) w' fun e w'' => e = .returned (.bool (q x)) ∧ (q x = false → I w'') ∧ (q x = true → T x w'')) :
    Calls Tryz.prog 66 #[.slice (some ⟨b, off, none⟩) xs.length c, .func (.func F) #[x0] #[]] w (Found xs q I T) := by
  have HI := hid hI; have HW := hid hw; have HLN := hid hlen; have HF := hid hF
  clear hI hw hlen hF
  go_enter Tryz.func66, Tryz.ntmps66
  go_wp2_with fail
  obtain ⟨R1, hR1⟩ : ∃ RR_ : (Nat → Value) → World → Prop, RR_ = (fun us wx => ∃ k : Nat, us 8 = .int .i64 k ∧ k ≤ xs.length ∧ I wx ∧ ∀ j (h : j < xs.length), j < k → q xs[j] = false) := ⟨_, rfl⟩
  obtain ⟨mu1, hmu1⟩ : ∃ mu : (Nat → Value) → World → Nat, mu = (fun us _ => xs.length - (intOf (us 8)).toNat) := ⟨_, rfl⟩
  have HR1 := hid hR1; have Hmu1 := hid hmu1; clear hR1 hmu1
  refine wp_loop_frame' [false, false, false, false, true, true, false, false, true, true, true, true, true, true, true, true, true, true, true] R1 _ mu1 HR1.out ?_ ?_
  · exact ⟨0, rfl, Nat.zero_le _, HW.out, fun j h h0 => by omega⟩
  intro us1 wx hrel
  obtain ⟨k, h8, hk, hL, hall⟩ := hrel
  simp only [frameOf, Nat.reduceAdd, h8]
  have Hh8 := hid h8; clear h8
  have HL := hid hL; have HK := hid hk; have HA := hid hall
  clear hL hk hall
  by_cases hlt : k < xs.length
  · have HLT := hid hlt
    have p1 := HI.out _ HL.out k hlt
    have hg := cell_lt p1
    have HWK : Hid (wrap64 ((k : Int) + 1) = ((k + 1 : Nat) : Int)) := hid (by have := HLT.out; have := HLN.out; unfold wrap64; omega)
    obtain ⟨y, hy⟩ : ∃ y, xs[k]'HLT.out = y := ⟨_, rfl⟩
    have HY := hid hy
    have HM : Hid (y ∈ xs) := hid (hy ▸ List.getElem_mem _)
    rw [hy] at p1
    clear hy
    go_wp2_with fail
    refine (HF.out y HM.out _ HL.out).mono ?_
    rintro e w1 ⟨rfl, h0, h1⟩
    cases hq : q y with
    | true =>
      have HT := hid (h1 hq)
      have HQ : Hid (q (xs[k]'HLT.out) = true) := hid (by rw [HY.out]; exact hq)
      clear hq h0 h1 p1
      go_wp2_with fail
      go_ret
      exact .inr ⟨k, HLT.out, rfl, HQ.out, by rw [HY.out]; exact HT.out, fun j h hj => HA.out j h hj⟩
    | false =>
      have HT := hid (h0 hq)
      have HQ : Hid (q (xs[k]'HLT.out) = false) := hid (by rw [HY.out]; exact hq)
      clear hq h0 h1 p1
      go_wp2_with fail
      try simp only [HWK.out]
      refine Round.mk' HR1.out Hmu1.out rfl ?_ ?_
      · refine ⟨k + 1, rfl, HLT.out, HT.out, fun j h hj => ?_⟩
        by_cases hjk : j = k
        · subst hjk; exact HQ.out
        · exact HA.out j h (by omega)
      · rw [Hh8.out]; have := HLT.out; simp [intOf, slots]; omega
  · go_wp2_with fail
    go_ret
    exact .inl ⟨rfl, HL.out, fun x hx => by obtain ⟨j, hj, rfl⟩ := List.getElem_of_mem hx; exact HA.out j hj (by omega)⟩
end Go.Proofs.YtgajofkeidjbgaaGreatDoor
