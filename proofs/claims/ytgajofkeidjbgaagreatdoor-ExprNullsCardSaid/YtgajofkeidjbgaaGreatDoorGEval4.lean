/-
  PROVED HERE: expr's eval at literals, names, unary and binary trees.
  PROVED HERE: expr's eval at binary trees and at calls; at every tree.
-/
import Derived.Test.YtgajofkeidjbgaaGreatDoorGEval3
import Derived.Test.YtgajofkeidjbgaaGreatDoorGParAll
import Derived.Test.YtgajofkeidjbgaaGreatDoorGLexPlain
namespace Go.Proofs.YtgajofkeidjbgaaGreatDoor
set_option linter.unusedSimpArgs false
set_option linter.unusedVariables false
open Go.RowKit

/-- what a value of a kind is like. -/
theorem val_small {v : Val} {k : Int} (h : ValOf v k) : v.t.size ≤ 60 ∧ -9223372036854775808 ≤ v.n ∧ v.n ≤ 9223372036854775807 := by
  refine ⟨?_, h.2.1⟩
  rcases valid_cases h.1 with h' | ⟨-, h'⟩ | h' | h' | ⟨h', hl⟩
  · rw [h']; exact Nat.zero_le _
  · rw [h']; exact Nat.zero_le _
  · rw [h']; exact Nat.zero_le _
  · rw [h']; exact Nat.zero_le _
  · exact hl
theorem vbinary_any (o : List UInt8) (ho : o ∈ opsW) (a b : Val) (ka kb : Int) (ha : ValOf a ka) (hb : ValOf b kb) (w : World) : Calls Tryz.prog 91 #[.string (strB o), a.v, b.v] w (ValueTo' (binV o a b) w) := by
  have h1 := val_small ha
  have h2 := val_small hb
  rcases opsW_cases ho with rfl | rfl | rfl | rfl | rfl | rfl | rfl | rfl | rfl | rfl | rfl | rfl | rfl | rfl
  · exact bin_or a b w
  · exact bin_and a b w
  · exact bin_eq a b w
  · exact bin_ne a b w
  · exact bin_lt a b w
  · exact bin_le a b w
  · exact bin_gt a b w
  · exact bin_ge a b w
  · exact bin_add a b w
  · exact bin_sub a b w
  · exact bin_cat a b ⟨by omega, by omega⟩ w
  · exact bin_mul a b w
  · exact bin_quo a b w
  · exact bin_rem a b h1.2 w
/-- the contract of eval at a tree. -/
def EvC (cs : List Col) (row : List Val) (x : Ex) : Prop := ∀ (k : Int) (S : Nat → Prop) (ao : Option Addr) (c : Nat) (v : Value) (w : World), NodeG (qIdx cs) S w v x → IsVals w (.slice ao row.length c) row → kindP cs x = .ok k → ExOk x → costP x ≤ 1000000 →
  Calls Tryz.prog 57 #[v, .slice ao row.length c] w (ValueTo' (evalP cs row x) w)
attribute [local go_sem high] as_lit as_name as_un as_bin no_name_lit no_un_lit no_un_name no_bin_lit no_bin_name no_bin_un
set_option maxRecDepth 100000 in
set_option maxHeartbeats 2000000 in
theorem ev_lit (cs : List Col) (row : List Val) (x : Val) : EvC cs row (.lit x) := by
  intro k S ao c v w hn hr hk ho hcost
  unfold NodeG at hn
  obtain ⟨N, -, rfl, hobj⟩ := hn
  obtain ⟨w1, hw1, hL1, hR1⟩ := ret_new w
  have hO := hL1.obj hobj
  have p0 : w1.cell? ⟨N, 0, none⟩ = some (.int .i64 x.k) := cell_obj (i := 0) hO rfl
  have p1 : w1.cell? ⟨N, 1, none⟩ = some (.int .i64 x.n) := cell_obj (i := 1) hO rfl
  have p2 : w1.cell? ⟨N, 2, none⟩ = some (.string x.t) := cell_obj (i := 2) hO rfl
  have pl := cell_lt p0
  obtain ⟨c0, c1, c2, f0, f1, f2, cl⟩ := hR1.cells
  simp only [nothing] at c0 c1 c2
  have HL1 := hid hL1; have HR1 := hid hR1
  have he : evalP cs row (.lit x) = x := by unfold evalP; rfl
  rw [he]
  clear hobj hO hL1 hR1 hr hk ho hcost he
  go_enter Tryz.func57, Tryz.ntmps57
  go_upto_region 1 with (fail)
  rw [← hw1]
  clear hw1
  go_wp2_with fail
  exact bodyPost_ret (results_val rfl rfl (HR1.out.set x)) rfl ⟨rfl, setV_later HL1.out (Nat.le_refl _) _⟩
set_option maxRecDepth 100000 in
set_option maxHeartbeats 2000000 in
theorem ev_name (cs : List Col) (row : List Val) (hlen : row.length = cs.length) (s : List UInt8) (p : Nat) : EvC cs row (.name s p) := by
  intro k S ao c v w hn hr hk ho hcost
  unfold NodeG at hn
  obtain ⟨N, pos, -, rfl, hobj, i, hi, rfl⟩ := hn
  obtain ⟨hic, -⟩ := colAt_some hi
  have hir : i < row.length := by omega
  obtain ⟨a', c', hv, -, he⟩ := val_at hr
  obtain ⟨b, o, hao, h0, h1, h2⟩ := he i hir
  simp only [Value.slice.injEq] at hv
  obtain ⟨rfl, -, rfl⟩ := hv
  subst hao
  obtain ⟨y, hy⟩ : ∃ y, row[i]'hir = y := ⟨_, rfl⟩
  rw [hy] at h0 h1 h2
  obtain ⟨w1, hw1, hL1, hR1⟩ := ret_new w
  have p1 : w1.cell? ⟨N, 1, none⟩ = some (.int .i64 (i : Int)) := cell_obj (i := 1) (hL1.obj hobj) rfl
  have pl := cell_lt p1
  replace h0 := hL1.cell h0
  replace h1 := hL1.cell h1
  replace h2 := hL1.cell h2
  have hl := cell_lt h0
  obtain ⟨c0, c1, c2, f0, f1, f2, cl⟩ := hR1.cells
  simp only [nothing] at c0 c1 c2
  have HL1 := hid hL1; have HR1 := hid hR1
  have hev : evalP cs row (.name s p) = y := by
    unfold evalP
    rw [hi]
    simp only
    rw [List.getD_eq_getElem?_getD, List.getElem?_eq_getElem hir, hy]
    rfl
  rw [hev]
  have hi1 : (i : Int) < row.length := by omega
  have hi0 : (0 : Int) ≤ i := by omega
  clear hobj hL1 hR1 hr hk ho hcost hev hi hy hic he hlen hir
  go_enter Tryz.func57, Tryz.ntmps57
  go_upto_region 1 with (fail)
  rw [← hw1]
  clear hw1
  go_wp2_with fail
  exact bodyPost_ret (results_val rfl rfl (HR1.out.set y)) rfl ⟨rfl, setV_later HL1.out (Nat.le_refl _) _⟩
set_option maxRecDepth 100000 in
set_option maxHeartbeats 4000000 in
theorem ev_un (cs : List Col) (row : List Val) (neg : Bool) (p : Nat) (x : Ex) (hx : EvC cs row x) : EvC cs row (.un neg p x) := by
  intro k S ao c v w hn hr hk ho hcost
  unfold NodeG at hn
  obtain ⟨N, u, -, rfl, hobj, hnx⟩ := hn
  unfold ExOk at ho
  unfold costP at hcost
  have hkx : ∃ k', kindP cs x = .ok k' := by
    unfold kindP at hk
    cases hh : kindP cs x with
    | error e => rw [hh] at hk; cases hk
    | ok k' => exact ⟨k', rfl⟩
  obtain ⟨k', hkx⟩ := hkx
  obtain ⟨w1, hw1, hL1, hR1⟩ := ret_new w
  have HX := hid (hx k' S ao c u w1 (NodeG.keep (hL1.keeps S) (fun _ h => h) _ _ hnx) (hr.vals_kept (hL1.keeps (fun _ => True)) (fun _ _ => trivial)) hkx ho (by omega))
  obtain ⟨sv, hsv⟩ : ∃ s, s = strB (opW neg) := ⟨_, rfl⟩
  rw [← hsv] at hobj
  have HOBJ := hid hobj
  have q2 : w1.cell? ⟨N, 2, none⟩ = some u := cell_obj (i := 2) (hL1.obj hobj) rfl
  have ql := cell_lt q2
  have HL1 := hid hL1; have HR1 := hid hR1
  obtain ⟨y, hy⟩ : ∃ y, evalP cs row x = y := ⟨_, rfl⟩
  rw [hy] at HX
  obtain ⟨r, hr'⟩ : ∃ r, evalP cs row (.un neg p x) = r := ⟨_, rfl⟩
  have HR : Hid (r = if y.k = 0 then y else if neg = true then intV (wrap64 (-y.n)) else truthV (decide (y.n = 0))) := hid (by
    rw [← hr', ← hy]
    conv => lhs; unfold evalP)
  rw [hr']
  have e1 : (sv.toList == [110, 111, 116]) = !neg := by rw [hsv, strB_toL']; cases neg <;> rfl
  clear hobj hnx hr hk ho hcost hkx hL1 hR1 hy hr' hsv hx
  go_enter Tryz.func57, Tryz.ntmps57
  go_upto_region 1 with (fail)
  rw [← hw1]
  clear hw1
  go_wp2_with fail
  refine HX.out.mono ?_
  rintro e w2 ⟨rfl, hL2⟩
  have HL2 := hid (Later.trans _ _ _ HL1.out hL2)
  have HR2 := hid (HR1.out.later hL2)
  rw [vv y]
  clear hL2 q2 ql
  go_upto_region 11 with (fail)
  obtain ⟨V, hV⟩ : ∃ V, V = w2.heap.size := ⟨_, rfl⟩
  obtain ⟨w3, hw3⟩ : ∃ w3, w3 = w2.alloc (.cells #[.int .i64 y.k, .int .i64 y.n, .string y.t] 38) := ⟨_, rfl⟩
  have hL3 : Later w2 w3 := hw3 ▸ Later.alloc _ _
  have hY : VObj w3 V y := by unfold VObj; rw [hw3, hV]; exact obj_new _ _
  rw [← hw3, ← hV]
  have HL3 := hid (Later.trans _ _ _ HL2.out hL3)
  have HR3 := hid (HR2.out.later hL3)
  obtain ⟨y0, y1, y2, -, -, -, yl⟩ := hY.cells
  obtain ⟨c0, c1, c2, f0, f1, f2, cl⟩ := HR3.out.cells
  simp only [nothing] at c0 c1 c2
  have q0 : w3.cell? ⟨N, 0, none⟩ = some (.string sv) := cell_obj (i := 0) (HL3.out.obj HOBJ.out) rfl
  have ql := cell_lt q0
  have HY := hid hY
  clear hw3 hV hL3 hY
  by_cases h0 : y.k = 0
  · have hq : (y.k == 0) = true := by simpa using h0
    have HRR : Hid (r = y) := hid (by rw [HR.out, if_pos h0])
    clear h0
    go_wp2_with fail
    refine bodyPost_ret (results_val rfl rfl (HR3.out.set y)) rfl ⟨?_, setV_later HL3.out (Nat.le_refl _) _⟩
    rw [HRR.out]
  · have hq : (y.k == 0) = false := by simpa using h0
    cases neg with
    | true =>
      have HRR : Hid (r = ⟨1, wrap64 (-y.n), ByteArray.empty⟩) := hid (by rw [HR.out, if_neg h0, if_pos rfl]; rfl)
      clear h0
      go_wp2_with fail
      refine (vof_any (wrap64 (-y.n)) w3).mono ?_
      rintro e w4 ⟨rfl, hL4⟩
      have HL4 := hid (Later.trans _ _ _ HL3.out hL4)
      have HR4 := hid (HR3.out.later hL4)
      rw [← HRR.out, vv r]
      clear hL4 c0 c1 c2 f0 f1 f2 cl y0 y1 y2 yl q0 ql
      obtain ⟨c0, c1, c2, f0, f1, f2, cl⟩ := HR4.out.cells
      simp only [nothing] at c0 c1 c2
      go_wp2_with fail
      exact bodyPost_ret (results_val rfl rfl (HR4.out.set r)) rfl ⟨rfl, setV_later HL4.out (Nat.le_refl _) _⟩
    | false =>
      obtain ⟨bq, hbq⟩ : ∃ q, decide (y.n = 0) = q := ⟨_, rfl⟩
      have hbe : (y.n == 0) = bq := by rw [int_dec]; exact hbq
      have HRR : Hid (r = ⟨2, if bq = true then 1 else 0, ByteArray.empty⟩) := hid (by rw [HR.out, if_neg h0, if_neg (by simp), hbq]; rfl)
      clear h0 hbq
      go_wp2_with fail
      try rw [hbe]
      refine (vtruth_any bq w3).mono ?_
      rintro e w4 ⟨rfl, hL4⟩
      have HL4 := hid (Later.trans _ _ _ HL3.out hL4)
      have HR4 := hid (HR3.out.later hL4)
      rw [← HRR.out, vv r]
      clear hL4 c0 c1 c2 f0 f1 f2 cl y0 y1 y2 yl q0 ql hbe
      obtain ⟨c0, c1, c2, f0, f1, f2, cl⟩ := HR4.out.cells
      simp only [nothing] at c0 c1 c2
      go_wp2_with fail
      exact bodyPost_ret (results_val rfl rfl (HR4.out.set r)) rfl ⟨rfl, setV_later HL4.out (Nat.le_refl _) _⟩
end Go.Proofs.YtgajofkeidjbgaaGreatDoor
namespace Go.Proofs.YtgajofkeidjbgaaGreatDoor
set_option linter.unusedSimpArgs false
set_option linter.unusedVariables false
open Go.RowKit

attribute [local go_sem high] as_bin as_call no_bin_lit no_bin_name no_bin_un no_call_lit no_call_name no_call_un no_call_bin
set_option maxRecDepth 100000 in
set_option maxHeartbeats 8000000 in
theorem ev_bin (cs : List Col) (row : List Val) (hc : ColsOk cs) (hf : FitsOk cs row) (o : List UInt8) (p : Nat) (x y : Ex) (hx : EvC cs row x) (hy : EvC cs row y) : EvC cs row (.bin o p x y) := by
  intro k S ao c v w hn hr hk ho hcost
  unfold NodeG at hn
  obtain ⟨N, u1, u2, -, rfl, hobj, hn1, hn2⟩ := hn
  unfold ExOk at ho
  unfold costP at hcost
  obtain ⟨k1, k2, hk1, hk2⟩ : ∃ k1 k2, kindP cs x = .ok k1 ∧ kindP cs y = .ok k2 := by
    unfold kindP at hk
    cases h1 : kindP cs x with
    | error e => rw [h1] at hk; cases hk
    | ok k1 =>
      rw [h1] at hk
      simp only at hk
      cases h2 : kindP cs y with
      | error e => rw [h2] at hk; cases hk
      | ok k2 => exact ⟨k1, k2, rfl, rfl⟩
  have HV1 := hid (eval_of hc hf x k1 ho.2.1 hk1).2
  have HV2 := hid (eval_of hc hf y k2 ho.2.2 hk2).2
  have HX := hid hx; have HY := hid hy; have HK1 := hid hk1; have HK2 := hid hk2; have HO := hid ho
  have HCO : Hid (costP x ≤ 1000000 ∧ costP y ≤ 1000000) := hid ⟨by omega, by omega⟩
  have HOBJ := hid hobj
  have HNW : Hid (N ≠ w.heap.size) := hid (by have := obj_lt hobj; omega)
  obtain ⟨w1, hw1, hL1, hR1⟩ := ret_new w
  have HL1 := hid hL1; have HR1 := hid hR1
  have HN1 := hid (NodeG.keep (hL1.keeps S) (fun _ h => h) _ _ hn1); have HN2 := hid (NodeG.keep (hL1.keeps S) (fun _ h => h) _ _ hn2); have HR := hid (hr.vals_kept (hL1.keeps (fun _ => True)) (fun _ _ => trivial))
  obtain ⟨a, ha⟩ : ∃ a, evalP cs row x = a := ⟨_, rfl⟩
  obtain ⟨b, hb⟩ : ∃ b, evalP cs row y = b := ⟨_, rfl⟩
  have HA := hid ha; have HB := hid hb
  obtain ⟨r, hr'⟩ : ∃ r, evalP cs row (.bin o p x y) = r := ⟨_, rfl⟩
  have HRR : Hid (binV o a b = r) := hid (by
    rw [← hr', ← ha, ← hb]
    conv => rhs; unfold evalP)
  rw [hr']
  have hC : ∀ w', Later w1 w' → w'.cell? ⟨N, 0, none⟩ = some (.string (strB o)) ∧ w'.cell? ⟨N, 2, none⟩ = some u1 ∧ w'.cell? ⟨N, 3, none⟩ = some u2 := fun w' k => have ho := k.obj (HL1.out.obj HOBJ.out); ⟨cell_obj (i := 0) ho rfl, cell_obj (i := 2) ho rfl, cell_obj (i := 3) ho rfl⟩
  have HC := hid hC
  clear hobj hn1 hn2 hr hk hk1 hk2 ho hcost hL1 hR1 ha hb hr' hC hx hy hc hf
  go_enter Tryz.func57, Tryz.ntmps57
  go_upto_region 1 with (fail)
  rw [← hw1]
  clear hw1
  go_upto_region 18 with (fail)
  have HLD := hid (Later.drew w1)
  refine wp_region_held_drew (S := fun w => w.cell? ⟨N, 0, none⟩ = some (.string (strB o)) ∧ w.cell? ⟨N, 2, none⟩ = some u1 ∧ w.cell? ⟨N, 3, none⟩ = some u2) (by kernel_rfl) (HC.out _ HLD.out) (fun hS => ?_)
  refine wpAnyH_take (i := 0) (v := .pointer (some ⟨N, 0, none⟩)) rfl (by kernel_rfl) (by kernel_rfl) (by kernel_rfl) (fun _ _ _ h => h) (Or.inl ⟨by rfl, ?_⟩) hS ?_
  · intro w hS
    clear hS
    go_simp
  try simp only [Act.put, List.setIfInBounds_toArray, List.set]
  refine wpAnyH_take (i := 4) (v := .pointer (some ⟨N, 0, none⟩)) rfl (by kernel_rfl) (by kernel_rfl) (by kernel_rfl) (fun _ _ _ h => h) (Or.inl ⟨by rfl, ?_⟩) hS ?_
  · intro w hS
    clear hS
    go_simp
  try simp only [Act.put, List.setIfInBounds_toArray, List.set]
  refine wpAnyH_take (i := 8) (v := .slice ao row.length c) rfl (by kernel_rfl) (by kernel_rfl) (by kernel_rfl) (fun _ _ _ h => h) (Or.inl ⟨by rfl, ?_⟩) hS ?_
  · intro w hS
    clear hS
    go_simp
  try simp only [Act.put, List.setIfInBounds_toArray, List.set]
  refine wpAnyH_take (i := 10) (v := .pointer (some ⟨N, 0, none⟩)) rfl (by kernel_rfl) (by kernel_rfl) (by kernel_rfl) (fun _ _ _ h => h) (Or.inl ⟨by rfl, ?_⟩) hS ?_
  · intro w hS
    clear hS
    go_simp
  try simp only [Act.put, List.setIfInBounds_toArray, List.set]
  refine wpAnyH_take (i := 14) (v := .slice ao row.length c) rfl (by kernel_rfl) (by kernel_rfl) (by kernel_rfl) (fun _ _ _ h => h) (Or.inl ⟨by rfl, ?_⟩) hS ?_
  · intro w hS
    clear hS
    go_simp
  try simp only [Act.put, List.setIfInBounds_toArray, List.set]
  refine wpAnyH_take (i := 1) (v := .pointer (some ⟨N, 0, none⟩)) rfl (by kernel_rfl) (by kernel_rfl) (by kernel_rfl) (fun _ _ _ h => h) (Or.inl ⟨by rfl, ?_⟩) hS ?_
  · rintro w ⟨h0, -⟩
    try (have := cell_lt h0)
    go_simp
  try simp only [Act.put, List.setIfInBounds_toArray, List.set]
  refine wpAnyH_take (i := 5) (v := .pointer (some ⟨N, 0, none⟩)) rfl (by kernel_rfl) (by kernel_rfl) (by kernel_rfl) (fun _ _ _ h => h) (Or.inl ⟨by rfl, ?_⟩) hS ?_
  · rintro w ⟨h0, -⟩
    try (have := cell_lt h0)
    go_simp
  try simp only [Act.put, List.setIfInBounds_toArray, List.set]
  refine wpAnyH_take (i := 11) (v := .pointer (some ⟨N, 0, none⟩)) rfl (by kernel_rfl) (by kernel_rfl) (by kernel_rfl) (fun _ _ _ h => h) (Or.inl ⟨by rfl, ?_⟩) hS ?_
  · rintro w ⟨h0, -⟩
    try (have := cell_lt h0)
    go_simp
  try simp only [Act.put, List.setIfInBounds_toArray, List.set]
  refine wpAnyH_take (i := 2) (v := .pointer (some ⟨N, 0, none⟩)) rfl (by kernel_rfl) (by kernel_rfl) (by kernel_rfl) (fun _ _ _ h => h) (Or.inl ⟨by rfl, ?_⟩) hS ?_
  · rintro w ⟨h0, -⟩
    try (have := cell_lt h0)
    go_simp
  try simp only [Act.put, List.setIfInBounds_toArray, List.set]
  refine wpAnyH_take (i := 6) (v := .pointer (some ⟨N, 2, none⟩)) rfl (by kernel_rfl) (by kernel_rfl) (by kernel_rfl) (fun _ _ _ h => h) (Or.inl ⟨by rfl, ?_⟩) hS ?_
  · rintro w ⟨h0, -⟩
    try (have := cell_lt h0)
    go_simp
  try simp only [Act.put, List.setIfInBounds_toArray, List.set]
  refine wpAnyH_take (i := 12) (v := .pointer (some ⟨N, 3, none⟩)) rfl (by kernel_rfl) (by kernel_rfl) (by kernel_rfl) (fun _ _ _ h => h) (Or.inl ⟨by rfl, ?_⟩) hS ?_
  · rintro w ⟨h0, -⟩
    try (have := cell_lt h0)
    go_simp
  try simp only [Act.put, List.setIfInBounds_toArray, List.set]
  refine wpAnyH_take (i := 3) (v := .string (strB o)) rfl (by kernel_rfl) (by kernel_rfl) (by kernel_rfl) (fun _ _ _ h => h) (Or.inl ⟨by rfl, ?_⟩) hS ?_
  · rintro w ⟨h0, -⟩
    try (have := cell_lt h0)
    go_simp
  try simp only [Act.put, List.setIfInBounds_toArray, List.set]
  refine wpAnyH_take (i := 7) (v := u1) rfl (by kernel_rfl) (by kernel_rfl) (by kernel_rfl) (fun _ _ _ h => h) (Or.inl ⟨by rfl, ?_⟩) hS ?_
  · rintro w ⟨-, h0, -⟩
    try (have := cell_lt h0)
    go_simp
  try simp only [Act.put, List.setIfInBounds_toArray, List.set]
  refine wpAnyH_take (i := 13) (v := u2) rfl (by kernel_rfl) (by kernel_rfl) (by kernel_rfl) (fun _ _ _ h => h) (Or.inl ⟨by rfl, ?_⟩) hS ?_
  · rintro w ⟨-, -, h0⟩
    try (have := cell_lt h0)
    go_simp
  try simp only [Act.put, List.setIfInBounds_toArray, List.set]
  refine wpAnyH_ready (rs := [9]) (by kernel_rfl) (by simp) (AllReadyH.cons rfl (fun K hK => ?_) AllReadyH.nil)
  go_simp
  refine (HX.out k1 S ao c u1 _ (NodeG.keep (HLD.out.keeps S) (fun _ h => h) _ _ HN1.out) (HR.out.vals_kept (HLD.out.keeps (fun _ => True)) (fun _ _ => trivial)) HK1.out HO.out.2.1 HCO.out.1).mono ?_
  rintro e w2 ⟨rfl, hL2⟩
  have HL2 := hid (Later.trans _ _ _ HLD.out hL2)
  rw [HA.out]
  refine hK.out _ _ (HC.out _ HL2.out) (fun hS => ?_)
  clear hK K hL2
  try simp only [Act.put, List.setIfInBounds_toArray, List.set]
  refine wpAnyH_ready (rs := [15]) (by kernel_rfl) (by simp) (AllReadyH.cons rfl (fun K hK => ?_) AllReadyH.nil)
  go_simp
  refine (HY.out k2 S ao c u2 _ (NodeG.keep (HL2.out.keeps S) (fun _ h => h) _ _ HN2.out) (HR.out.vals_kept (HL2.out.keeps (fun _ => True)) (fun _ _ => trivial)) HK2.out HO.out.2.2 HCO.out.2).mono ?_
  rintro e w3 ⟨rfl, hL3⟩
  have HL3 := hid (Later.trans _ _ _ HL2.out hL3)
  rw [HB.out]
  refine hK.out _ _ (HC.out _ HL3.out) (fun hS => ?_)
  clear hK K hL3
  try simp only [Act.put, List.setIfInBounds_toArray, List.set]
  refine wpAnyH_ready (rs := [16]) (by kernel_rfl) (by simp) (AllReadyH.cons rfl (fun K hK => ?_) AllReadyH.nil)
  go_simp
  have h1 := HV1.out
  have h2 := HV2.out
  rw [HA.out] at h1
  rw [HB.out] at h2
  refine (vbinary_any o HO.out.1 a b k1 k2 h1 h2 w3).mono ?_
  clear h1 h2
  rintro e w4 ⟨rfl, hL4⟩
  have HL4 := hid (Later.trans _ _ _ HL3.out hL4)
  rw [HRR.out]
  refine hK.out _ _ (HC.out _ HL4.out) (fun hS => ?_)
  clear hK K hL4
  try simp only [Act.put, List.setIfInBounds_toArray, List.set]
  have HR4 := hid (HR1.out.later HL4.out)
  obtain ⟨c0, c1, c2, f0, f1, f2, cl⟩ := HR4.out.cells
  simp only [nothing] at c0 c1 c2
  rw [vv r]
  refine wpAnyH_ready (rs := [17]) (by kernel_rfl) (by simp) (AllReadyH.cons rfl (fun K hK => ?_) AllReadyH.nil)
  go_simp
  refine hK.out _ _ ⟨(setV_keeps w4 w.heap.size r).cell (p := ⟨N, 0, none⟩) HNW.out hS.1, (setV_keeps w4 w.heap.size r).cell (p := ⟨N, 2, none⟩) HNW.out hS.2.1, (setV_keeps w4 w.heap.size r).cell (p := ⟨N, 3, none⟩) HNW.out hS.2.2⟩ (fun hS => ?_)
  clear hK K hS c0 c1 c2 f0 f1 f2 cl
  refine wpAnyH_done (by kernel_rfl) ?_ _
  go_wp2_with fail
  exact bodyPost_ret (results_val rfl rfl (HR4.out.set r)) rfl ⟨rfl, setV_later (Later.trans _ _ _ HL1.out HL4.out) (Nat.le_refl _) _⟩
-- CALLS
/-- the values of a call's first arguments. -/
theorem evals_len (cs : List Col) (row : List Val) : ∀ l : List Ex, (evalsP cs row l).length = l.length
  | [] => by unfold evalsP; rfl
  | x :: l => by unfold evalsP; simp [evals_len cs row l]
theorem evals_take (cs : List Col) (row : List Val) : ∀ (l : List Ex) (k : Nat) (h : k < l.length), evalsP cs row (l.take (k + 1)) = evalsP cs row (l.take k) ++ [evalP cs row l[k]]
  | x :: l, 0, _ => by
    rw [List.take_succ_cons, List.take_zero]
    unfold evalsP
    unfold evalsP
    rfl
  | x :: l, k + 1, h => by
    rw [List.take_succ_cons, List.take_succ_cons]
    conv => lhs; unfold evalsP
    conv => rhs; unfold evalsP
    rw [evals_take cs row l k (by simpa using h)]
    rfl
theorem valCells_add (l : List Val) (x : Val) : valCells (l ++ [x]) = valCells l ++ x.cells := by unfold valCells; simp
theorem valElem : ElemInfo Tryz.prog 38 3 32 := ElemInfo.of (z := .agg #[.int .i64 0, .int .i64 0, .string ⟨#[]⟩]) (by kernel_rfl) rfl (by decide)
theorem ones_val (x : Val) : ∀ u ∈ x.cells, u.oneCell' = true := by
  intro u hu
  simp only [Val.cells, List.mem_cons, List.not_mem_nil, or_false] at hu
  rcases hu with rfl | rfl | rfl <;> rfl
theorem map_ret {w : World} {M n R : Nat} {g : List UInt8 → Option Value} {x : Val} (h : MapIn strI w M n g) (hO : VObj w R x) : M ≠ R := by
  rintro rfl
  obtain ⟨es, c, hm⟩ := MapIn.obj h
  unfold VObj at hO
  rw [hO] at hm
  cases hm
/-- the kinds of a tree's parts. -/
theorem call_parts {cs : List Col} {f : List UInt8} {p : Nat} {l : List Ex} {k : Int} (h : kindP cs (.call f p l) = .ok k) : ∃ ar out ks, argsF f = some (ar, out) ∧ kindsP cs l = .ok ks ∧ callK f ks = some k ∧ ar.length = l.length := by
  unfold kindP at h
  cases ha : argsF f with
  | none => rw [ha] at h; cases h
  | some a =>
    rw [ha] at h
    simp only at h
    cases hl : kindsP cs l with
    | error e => rw [hl] at h; cases h
    | ok ks =>
      rw [hl] at h
      simp only at h
      cases hk : callK f ks with
      | none => rw [hk] at h; cases h
      | some k' =>
        rw [hk] at h
        cases h
        refine ⟨a.1, a.2, ks, rfl, rfl, hk, ?_⟩
        unfold callK at hk
        rw [ha] at hk
        simp only at hk
        split at hk
        · cases hk
        · rename_i hn
          rw [← kinds_len hl]
          simpa using hn
theorem kinds_pre {cs : List Col} : ∀ {l : List Ex} {ks : List Int}, kindsP cs l = .ok ks → ∀ k, ∃ ks', kindsP cs (l.take k) = .ok ks'
  | _, _, _, 0 => ⟨[], by rw [List.take_zero]; unfold kindsP; rfl⟩
  | [], _, _, k + 1 => ⟨[], by unfold List.take; unfold kindsP; rfl⟩
  | x :: l, ks, h, k + 1 => by
    rw [List.take_succ_cons]
    unfold kindsP at h ⊢
    cases hx : kindP cs x with
    | error e => rw [hx] at h; cases h
    | ok a =>
      rw [hx] at h
      simp only at h ⊢
      cases hl : kindsP cs l with
      | error e => rw [hl] at h; cases h
      | ok ks2 =>
        obtain ⟨ks', h'⟩ := kinds_pre hl k
        rw [h']
        exact ⟨_, rfl⟩
theorem argsF_cases {f : List UInt8} {ar : List Int} {out : Int} (h : argsF f = some (ar, out)) : (f = lenW ∧ ar.length = 1) ∨ (f = absW ∧ ar.length = 1) ∨ (f = cutW ∧ ar.length = 2) ∨ (f = isnullW ∧ ar.length = 1) ∨ (f = coalW ∧ ar.length = 2) ∨ (f = ifW ∧ ar.length = 3) := by
  unfold argsF at h
  by_cases g0 : f = lenW
  · rw [if_pos g0] at h; cases h; exact .inl ⟨g0, rfl⟩
  rw [if_neg g0] at h
  by_cases g1 : f = absW
  · rw [if_pos g1] at h; cases h; exact .inr (.inl ⟨g1, rfl⟩)
  rw [if_neg g1] at h
  by_cases g2 : f = cutW
  · rw [if_pos g2] at h; cases h; exact .inr (.inr (.inl ⟨g2, rfl⟩))
  rw [if_neg g2] at h
  by_cases g3 : f = isnullW
  · rw [if_pos g3] at h; cases h; exact .inr (.inr (.inr (.inl ⟨g3, rfl⟩)))
  rw [if_neg g3] at h
  by_cases g4 : f = coalW
  · rw [if_pos g4] at h; cases h; exact .inr (.inr (.inr (.inr (.inl ⟨g4, rfl⟩))))
  rw [if_neg g4] at h
  by_cases g5 : f = ifW
  · rw [if_pos g5] at h; cases h; exact .inr (.inr (.inr (.inr (.inr ⟨g5, rfl⟩))))
  rw [if_neg g5] at h
  cases h
theorem list1 {α : Type} {l : List α} (h : l.length = 1) : ∃ a, l = [a] := by match l, h with | [a], _ => exact ⟨a, rfl⟩
theorem list2 {α : Type} {l : List α} (h : l.length = 2) : ∃ a b, l = [a, b] := by match l, h with | [a, b], _ => exact ⟨a, b, rfl⟩
theorem list3 {α : Type} {l : List α} (h : l.length = 3) : ∃ a b c, l = [a, b, c] := by match l, h with | [a, b, c], _ => exact ⟨a, b, c, rfl⟩
theorem vals_go {w w' : World} {v : Value} {l : List Val} (h : IsVals w v l) (k : Later w w') : IsVals w' v l := h.vals_kept (k.keeps (fun _ => True)) (fun _ _ => trivial)
theorem fn_strict {f : List UInt8} {ar : List Int} {out : Int} (ha : argsF f = some (ar, out)) (hs : isStrict f) (K : Nat) (ao : Option Addr) (n c : Nat) (l : List Val) (w : World) (hn : n = l.length) (hl : IsVals w (.slice ao n c) l) (hlen : l.length = ar.length) (hsz : ∀ x ∈ l, x.t.size ≤ 1000)
    (hK : w.heap[K]? = some (.cells #[.func (.func (fnF f)) #[] #[]] 84 (0, 0))) :
    Calls Tryz.prog 126 #[.slice ao n c, .pointer (some ⟨K, 0, none⟩)] w (ValueTo' (callV f l) w) := by
  subst hn
  rcases argsF_cases ha with ⟨rfl, h1⟩ | ⟨rfl, h1⟩ | ⟨rfl, h1⟩ | ⟨rfl, h1⟩ | ⟨rfl, h1⟩ | ⟨rfl, h1⟩
  · obtain ⟨a, rfl⟩ := list1 (hlen.trans h1)
    exact strict1_any 108 (enters_of Tryz.func108 (by kernel_rfl) rfl) K ao c [a] (intV a.t.size) w hl (by simp) hK (fun _ w' k => fn1_any a ao c w' (vals_go hl k))
  · obtain ⟨a, rfl⟩ := list1 (hlen.trans h1)
    exact strict1_any 109 (enters_of Tryz.func109 (by kernel_rfl) rfl) K ao c [a] (intV (max a.n (wrap64 (-a.n)))) w hl (by simp) hK (fun _ w' k => fn2_any a ao c w' (vals_go hl k))
  · obtain ⟨a, b, rfl⟩ := list2 (hlen.trans h1)
    exact strict1_any 110 (enters_of Tryz.func110 (by kernel_rfl) rfl) K ao c [a, b] (textV (a.t.data.toList.take (max 0 (min (a.t.size : Int) b.n)).toNat)) w hl (by simp) hK (fun _ w' k => fn3_any a b ao c w' (vals_go hl k) (hsz a (by simp)))
  all_goals exact absurd hs (by decide)
theorem fn_isnull {ar : List Int} {out : Int} (ha : argsF isnullW = some (ar, out)) (ao : Option Addr) (n c : Nat) (l : List Val) (w : World) (hn : n = l.length) (hl : IsVals w (.slice ao n c) l) (hlen : l.length = ar.length) : Calls Tryz.prog 111 #[.slice ao n c] w (ValueTo' (callV isnullW l) w) := by
  subst hn
  have h1 : ar.length = 1 := by cases ha; rfl
  obtain ⟨a, rfl⟩ := list1 (hlen.trans h1)
  exact fn4_any a ao c w hl
theorem fn_coal {ar : List Int} {out : Int} (ha : argsF coalW = some (ar, out)) (ao : Option Addr) (n c : Nat) (l : List Val) (w : World) (hn : n = l.length) (hl : IsVals w (.slice ao n c) l) (hlen : l.length = ar.length) : Calls Tryz.prog 112 #[.slice ao n c] w (ValueTo' (callV coalW l) w) := by
  subst hn
  have h1 : ar.length = 2 := by cases ha; rfl
  obtain ⟨a, b, rfl⟩ := list2 (hlen.trans h1)
  exact fn5_any a b ao c w hl
theorem fn_if {ar : List Int} {out : Int} (ha : argsF ifW = some (ar, out)) (ao : Option Addr) (n c : Nat) (l : List Val) (w : World) (hn : n = l.length) (hl : IsVals w (.slice ao n c) l) (hlen : l.length = ar.length) : Calls Tryz.prog 113 #[.slice ao n c] w (ValueTo' (callV ifW l) w) := by
  subst hn
  have h1 : ar.length = 3 := by cases ha; rfl
  obtain ⟨a, b, d, rfl⟩ := list3 (hlen.trans h1)
  exact fn6_any a b d ao c w hl
theorem field_ev (a : Option Addr) (n m : Nat) (k : Int) (fn : Fn) (caps : Array Value) (w : World) : (Instr.field 176 (.agg #[.slice a n m, .int .i64 k, .func fn #[] caps]) 2).run Tryz.prog w = .ok (.func fn #[] caps) w := by kernel_rfl
attribute [local go_sem high] field_ev
set_option maxRecDepth 100000 in
set_option maxHeartbeats 8000000 in
theorem ev_call (cs : List Col) (row : List Val) (hc : ColsOk cs) (hf : FitsOk cs row) (f : List UInt8) (p : Nat) (l : List Ex) (hx : ∀ x ∈ l, EvC cs row x) : EvC cs row (.call f p l) := by
  intro k S ao c v w hn hr hk ho hcost
  unfold NodeG at hn
  obtain ⟨N, vs, a, -, rfl, hobj, hargs, hns⟩ := hn
  unfold ExOk at ho
  unfold costP at hcost
  obtain ⟨ar, out, ks, harg, hks, hck, harl⟩ := call_parts hk
  have hev := evals_of hc hf l ks ho hks
  have HEV := hid hev
  have HX := hid hx; have HO := hid ho; have HCO := hid hcost; have HKS := hid hks; have HARG := hid harg; have HARL := hid harl
  have hvl := nodesG_len hns
  have HVL := hid hvl
  obtain ⟨ag, acap, rfl⟩ : ∃ ag cap, a = .slice ag l.length cap := by
    rcases hargs.1.2 with ⟨hv, h0⟩ | ⟨g, cap, cur, hv, _⟩
    · exact ⟨none, 0, by rw [hv, ← hvl, h0]⟩
    · exact ⟨_, _, by rw [hv, hvl]⟩
  have HLL : Hid (l.length ≤ 1000000) := hid (by have := xs_cost' l; omega)
  have HFL : Hid (f.length ≤ maxLen) := hid (by unfold maxLen; omega)
  have HOBJ := hid hobj
  have HNW : Hid (N ≠ w.heap.size) := hid (by have := obj_lt hobj; omega)
  obtain ⟨w1, hw1, hL1, hR1⟩ := ret_new w
  have HL1 := hid hL1; have HRET := hid hR1
  have HNS := hid (NodesG.keep (hL1.keeps S) (fun _ h => h) _ _ hns); have HR := hid (vals_go hr hL1); have HAR := hid (hargs.kept (hL1.keeps S) (fun _ h => h))
  obtain ⟨r, hr'⟩ : ∃ r, evalP cs row (.call f p l) = r := ⟨_, rfl⟩
  have HRV : Hid (callV f (evalsP cs row l) = r) := hid (by rw [← hr']; conv => rhs; unfold evalP)
  rw [hr']
  have hC0 : ∀ w', Later w1 w' → w'.cell? ⟨N, 0, none⟩ = some (.string (strB f)) := fun w' k => cell_obj (i := 0) (k.obj (HL1.out.obj HOBJ.out)) rfl
  have HC0 := hid hC0
  have q2 : w1.cell? ⟨N, 2, none⟩ = some (.slice ag l.length acap) := cell_obj (i := 2) (hL1.obj hobj) rfl
  have ql := cell_lt q2
  clear hobj hargs hns hr hk ho hcost hL1 hR1 hr' hC0 hx hc hf hks hck harl hev harg hvl
  go_enter Tryz.func57, Tryz.ntmps57
  go_upto_region 1 with (fail)
  rw [← hw1]
  clear hw1
  go_wp2_with fail
  obtain ⟨R1, hR1⟩ : ∃ RR_ : (Nat → Value) → World → Prop, RR_ = (fun us wx => ∃ (k : Nat) (lv : Value), us 88 = .int .i64 (k : Int) ∧ us 11 = lv ∧ k ≤ l.length ∧ Later w1 wx ∧ wx.ownsRow w1.heap.size 38 3 lv k (valCells (evalsP cs row (l.take k)))) := ⟨_, rfl⟩
  obtain ⟨mu1, hmu1⟩ : ∃ mu : (Nat → Value) → World → Nat, mu = (fun us _ => l.length - (intOf (us 88)).toNat) := ⟨_, rfl⟩
  have HR1 := hid hR1; have Hmu1 := hid hmu1; clear hR1 hmu1
  refine wp_loop_frame' [false, false, false, false, false, false, false, false, false, false, false, true, false, true, false, false, false, false, false, false, false, false, false, false, false, false, false, false, false, false, false, false, false, false, false, false, false, false, false, false, false, false, false, false, false, false, false, false, false, false, false, false, false, false, false, false, false, false, false, false, false, false, false, false, false, false, false, false, false, false, false, false, false, false, false, false, false, false, false, false, false, false, false, false, false, false, false, false, true, true, true, true, true, true, true, true, true, true, true] R1 _ mu1 HR1.out ?_ ?_
  · refine ⟨0, .slice none 0 0, rfl, rfl, Nat.zero_le _, Later.refl _, ?_⟩
    rw [List.take_zero]
    unfold evalsP valCells
    exact ⟨by simp, .inl ⟨rfl, rfl⟩⟩
  intro us1 wx hrel
  obtain ⟨k, lv, h88, h11, hk, hL, hown⟩ := hrel
  simp only [frameOf, Nat.reduceAdd, h88, h11]
  have Hh88 := hid h88; clear h88
  have Hh11 := hid h11; clear h11
  have HL := hid hL; have HOW := hid hown; have HKL := hid hk
  clear hL hown q2 ql
  by_cases hlt : k < l.length
  · have HLT := hid hlt
    have hki : (k : Int) < l.length := by omega
    have hkv : k < vs.length := by rw [HVL.out]; exact hlt
    have HKV := hid hkv
    have hcell : ∃ g, ag = some ⟨g, 0, none⟩ ∧ wx.cell? ⟨g, k, none⟩ = some (vs[k]'hkv) := by
      have har := HAR.out.kept (HL.out.keeps S) (fun _ h => h)
      rcases har.1.2 with ⟨hv, h0⟩ | ⟨g, cap', cur, hv, _⟩
      · omega
      · simp only [Value.slice.injEq] at hv
        refine ⟨g, hv.1, ?_⟩
        have h := har.1.cells (g := g) (by rw [hv.1]; rfl) k _ (List.getElem?_eq_getElem hkv)
        rw [add_none rfl, Nat.zero_add] at h
        exact h
    obtain ⟨g, rfl, hcc⟩ := hcell
    obtain ⟨v, hv⟩ : ∃ v, vs[k]'HKV.out = v := ⟨_, rfl⟩
    rw [hv] at hcc
    have hcl := cell_lt hcc
    have HWK : Hid (wrap64 ((k : Int) + 1) = ((k + 1 : Nat) : Int)) := hid (by have := HLT.out; have := HLL.out; unfold wrap64; omega)
    obtain ⟨x, hxk⟩ : ∃ x, l[k]'HLT.out = x := ⟨_, rfl⟩
    have HXK := hid hxk
    have HCX : Hid (costP x ≤ 1000000) := hid (by have := costs_at l k HLT.out; rw [hxk] at this; have := HCO.out; omega)
    have HNX : Hid (NodeG (qIdx cs) S wx v x) := hid (by
      have := nodesG_at HNS.out k HLT.out HKV.out
      rw [hv, hxk] at this
      exact NodeG.keep (HL.out.keeps S) (fun _ h => h) _ _ this)
    have HOX : Hid (ExOk x) := hid (by have := exs_at' HO.out k HLT.out; rw [hxk] at this; exact this)
    obtain ⟨kx, hkx⟩ : ∃ kx, kindP cs x = .ok kx := by
      cases hh : kindP cs x with
      | ok kx => exact ⟨kx, rfl⟩
      | error e =>
        exfalso
        obtain ⟨ks', hks'⟩ : ∃ ks', kindsP cs (l.take k) = .ok ks' := kinds_pre HKS.out k
        have h1 := kinds_take_err l k HLT.out ks' hks' (by rw [HXK.out]; exact hh)
        rw [HKS.out] at h1
        cases h1
    have HKX := hid hkx
    clear hlt hkv hv hxk hk hkx
    go_wp2_with fail
    refine (HX.out x (by rw [← HXK.out]; exact List.getElem_mem _) kx S ao c v wx HNX.out (vals_go HR.out HL.out) HKX.out HOX.out HCX.out).mono ?_
    rintro e w3 ⟨rfl, hL3⟩
    have HL3 := hid (Later.trans _ _ _ HL.out hL3)
    obtain ⟨y, hy⟩ : ∃ y, evalP cs row x = y := ⟨_, rfl⟩
    have HTK : Hid (evalsP cs row (l.take (k + 1)) = evalsP cs row (l.take k) ++ [y]) := hid (by rw [evals_take cs row l k HLT.out, HXK.out, hy])
    rw [hy, vv y]
    have HO4 := hid (owns_at (owns_at HOW.out hL3) (Later.alloc w3 (.cells #[.int .i64 y.k, .int .i64 y.n, .string y.t] 38)))
    have HN4 := hid (obj_new w3 (.cells #[.int .i64 y.k, .int .i64 y.n, .string y.t] 38))
    have HB4 : Hid (w1.heap.size ≤ (w3.alloc (.cells #[.int .i64 y.k, .int .i64 y.n, .string y.t] 38)).heap.size) := hid (by have := HL3.out.size; simp; omega)
    clear hL3 hcc hcl hy
    go_wp2_with (at_builtin; refine wpList_append_objx rfl _ _ 39 rfl 38 3 32 Tryz.underlying39 valElem rfl HO4.out (news := y.cells) rfl HN4.out rfl (ones_val y) ?c1 ?c2 HB4.out ?_)
    case c1 => have := HLT.out; have := HLL.out; omega
    case c2 => have := HLT.out; have := HLL.out; unfold maxLen; omega
    intro v5 w5 hA5
    have HA5 := hid hA5
    have HL5 : Hid (Later w1 w5) := hid (by
      have h0 := Later.trans _ _ _ HL3.out (Later.alloc w3 (.cells #[.int .i64 y.k, .int .i64 y.n, .string y.t] 38))
      rcases hA5.kind with ⟨g', cap', hg, -, hk⟩ | ⟨hk, -⟩
      · exact later_put h0 ((HO4.out.lt g' (by rw [hg]; rfl)).1) hk
      · exact Later.trans _ _ _ h0 hk)
    clear hA5
    go_wp2_with fail
    try simp only [HWK.out]
    refine Round.mk' HR1.out Hmu1.out rfl ?_ ?_
    · refine ⟨k + 1, v5, rfl, rfl, HLT.out, HL5.out, ?_⟩
      rw [HTK.out, valCells_add]
      exact HA5.out.own
    · rw [Hh88.out]; have := HLT.out; simp [intOf, slots]; omega
  · have hki : ¬ (k : Int) < l.length := by omega
    obtain rfl : k = l.length := by omega
    have hlz : (evalsP cs row l).length = l.length := evals_len cs row l
    obtain ⟨lao, lc, rfl⟩ : ∃ lao lc, lv = .slice lao l.length lc := by
      rcases HOW.out.2 with ⟨hv, h0⟩ | ⟨g, cap, cur, hv, _⟩
      · exact ⟨none, 0, by rw [hv, h0]⟩
      · exact ⟨_, _, hv⟩
    have HIV : Hid (IsVals wx (.slice lao l.length lc) (evalsP cs row l)) := hid (by
      have h := HOW.out
      rw [List.take_length] at h
      rw [show l.length = (evalsP cs row l).length from hlz.symm] at h
      rw [show l.length = (evalsP cs row l).length from hlz.symm]
      exact (owned_vals h).map fun _ _ _ _ hx => ⟨trivial, hx⟩)
    have HLZ := hid hlz
    have HSZ : Hid (∀ x ∈ evalsP cs row l, x.t.size ≤ 1000) := hid fun x hx => by
      obtain ⟨i, hi, rfl⟩ := List.getElem_of_mem hx
      have := val_small (HEV.out.2.2 i hi (by rw [← HEV.out.1]; exact hi))
      omega
    clear hlt hk hlz
    go_upto_region 27 with (fail)
    have HLD := hid (Later.trans _ _ _ HL.out (Later.drew wx))
    refine wp_region_held_drew (S := fun w => w.cell? ⟨N, 0, none⟩ = some (.string (strB f))) (by kernel_rfl) (HC0.out _ HLD.out) (fun hS => ?_)
    refine wpAnyH_take (i := 1) (v := .pointer (some ⟨N, 0, none⟩)) rfl (by kernel_rfl) (by kernel_rfl) (by kernel_rfl) (fun _ _ _ h => h) (Or.inl ⟨by rfl, ?_⟩) hS ?_
    · intro w hS
      clear hS
      go_simp
    try simp only [Act.put, List.setIfInBounds_toArray, List.set]
    refine wpAnyH_take (i := 7) (v := .slice lao l.length lc) rfl (by kernel_rfl) (by kernel_rfl) (by kernel_rfl) (fun _ _ _ h => h) (Or.inl ⟨by rfl, ?_⟩) hS ?_
    · intro w hS
      clear hS
      go_simp
    try simp only [Act.put, List.setIfInBounds_toArray, List.set]
    refine wpAnyH_take (i := 2) (v := .pointer (some ⟨N, 0, none⟩)) rfl (by kernel_rfl) (by kernel_rfl) (by kernel_rfl) (fun _ _ _ h => h) (Or.inl ⟨by rfl, ?_⟩) hS ?_
    · rintro w h0
      try (have := cell_lt h0)
      go_simp
    try simp only [Act.put, List.setIfInBounds_toArray, List.set]
    refine wpAnyH_take (i := 3) (v := .pointer (some ⟨N, 0, none⟩)) rfl (by kernel_rfl) (by kernel_rfl) (by kernel_rfl) (fun _ _ _ h => h) (Or.inl ⟨by rfl, ?_⟩) hS ?_
    · rintro w h0
      try (have := cell_lt h0)
      go_simp
    try simp only [Act.put, List.setIfInBounds_toArray, List.set]
    refine wpAnyH_take (i := 4) (v := .string (strB f)) rfl (by kernel_rfl) (by kernel_rfl) (by kernel_rfl) (fun _ _ _ h => h) (Or.inl ⟨by rfl, ?_⟩) hS ?_
    · rintro w h0
      try (have := cell_lt h0)
      go_simp
    try simp only [Act.put, List.setIfInBounds_toArray, List.set]
    refine wpAnyH_ready (rs := [0]) (by kernel_rfl) (by simp) (AllReadyH.cons rfl (fun K hK => ?_) AllReadyH.nil)
    go_simp
    refine (functions_any _).mono ?_
    rintro e w3 ⟨M, F, rfl, hL3, hM3, hF3⟩
    have HL3 := hid (Later.trans _ _ _ HLD.out hL3)
    refine hK.out _ _ (HC0.out _ HL3.out) (fun hS => ?_)
    clear hK K
    try simp only [Act.put, List.setIfInBounds_toArray, List.set]
    refine wpAnyH_mono (T := fun w' => w'.cell? ⟨N, 0, none⟩ = some (.string (strB f)) ∧ MapIn strI w' M 6 F) (fun w h => h.1) _ _ _ _ ?_
    have hS2 : w3.cell? ⟨N, 0, none⟩ = some (.string (strB f)) ∧ MapIn strI w3 M 6 F := ⟨hS, hM3⟩
    clear hS
    have hS := hS2
    clear hS2
    have hFf := hF3 f
    rw [HARG.out] at hFf
    obtain ⟨sv, hFv, b0, ev, rfl, hrow, hev⟩ := hFf
    refine wpAnyH_take (i := 5) (v := .agg #[.slice (some ⟨b0, 0, none⟩) ar.length ar.length, .int .i64 out, ev]) rfl (by kernel_rfl) (by kernel_rfl) (by kernel_rfl) (fun _ _ _ h => h) (Or.inl ⟨by rfl, ?_⟩) hS ?_
    · rintro w ⟨-, h0⟩
      have hlk : (Instr.lookup 177 (.map (some M)) (.string (strB f)) false).run Tryz.prog w = .ok (.agg #[.slice (some ⟨b0, 0, none⟩) ar.length ar.length, .int .i64 out, ev]) w := by
        have h := MapIn.look1 (mt := 177) (et := 176) Tryz.underlying177 zero_shape h0 f HFL.out
        rw [hFv] at h
        exact h
      clear h0 hFv hrow hev
      go_simp
    clear hFv hrow hM3 hF3
    try simp only [Act.put, List.setIfInBounds_toArray, List.set]
    have HIV3 := hid (vals_go HIV.out (Later.trans _ _ _ (Later.drew wx) hL3))
    have HRX := HRET
    have HLX := HL1
    clear hL3
    unfold EvV at hev
    by_cases hst : isStrict f
    · rw [if_pos hst] at hev
      obtain ⟨K0, rfl, hK0⟩ := hev
      have HK0 := hid hK0; have HST := hid hst
      clear hK0 hst
      refine wpAnyH_take (i := 6) (v := .func (.func 126) #[] #[.pointer (some ⟨K0, 0, none⟩)]) rfl (by kernel_rfl) (by kernel_rfl) (by kernel_rfl) (fun _ _ _ h => h) (Or.inl ⟨by rfl, ?_⟩) hS ?_
      · intro w hS
        clear hS
        go_simp
      try simp only [Act.put, List.setIfInBounds_toArray, List.set]
      refine wpAnyH_ready (rs := [8]) (by kernel_rfl) (by simp) (AllReadyH.cons rfl (fun K hK => ?_) AllReadyH.nil)
      go_simp
      refine (fn_strict HARG.out HST.out K0 lao l.length lc (evalsP cs row l) w3 HLZ.out.symm HIV3.out (by rw [HLZ.out, HARL.out]) HSZ.out HK0.out).mono ?_
      rintro e w4 ⟨rfl, hL4⟩
      have HL4 := hid (Later.trans _ _ _ HL3.out hL4)
      rw [HRV.out]
      refine hK.out _ _ ⟨HC0.out _ HL4.out, hS.2.later hL4⟩ (fun hS => ?_)
      clear hK K hL4
      try simp only [Act.put, List.setIfInBounds_toArray, List.set]
      have HR4 := hid (HRX.out.later HL4.out)
      obtain ⟨c0, c1, c2, f0, f1, f2, cl⟩ := HR4.out.cells
      simp only [nothing] at c0 c1 c2
      rw [vv r]
      refine wpAnyH_ready (rs := [9]) (by kernel_rfl) (by simp) (AllReadyH.cons rfl (fun K hK => ?_) AllReadyH.nil)
      go_simp
      refine hK.out _ _ ⟨(setV_keeps w4 w.heap.size r).cell (p := ⟨N, 0, none⟩) HNW.out hS.1, hS.2.kept (setV_keeps w4 w.heap.size r) (map_ret hS.2 HR4.out)⟩ (fun hS => ?_)
      clear hK K hS c0 c1 c2 f0 f1 f2 cl
      refine wpAnyH_done (by kernel_rfl) ?_ _
      go_wp2_with fail
      exact bodyPost_ret (results_val rfl rfl (HR4.out.set r)) rfl ⟨rfl, setV_later (Later.trans _ _ _ HLX.out HL4.out) (Nat.le_refl _) _⟩
    · rw [if_neg hst] at hev
      subst hev
      rcases argsF_cases HARG.out with ⟨rfl, -⟩ | ⟨rfl, -⟩ | ⟨rfl, -⟩ | ⟨rfl, -⟩ | ⟨rfl, -⟩ | ⟨rfl, -⟩
      · exact absurd (by decide) hst
      · exact absurd (by decide) hst
      · exact absurd (by decide) hst
      · rw [show fnF isnullW = 111 from rfl]
        clear hst
        refine wpAnyH_take (i := 6) (v := .func (.func 111) #[] #[]) rfl (by kernel_rfl) (by kernel_rfl) (by kernel_rfl) (fun _ _ _ h => h) (Or.inl ⟨by rfl, ?_⟩) hS ?_
        · intro w hS
          clear hS
          go_simp
        try simp only [Act.put, List.setIfInBounds_toArray, List.set]
        refine wpAnyH_ready (rs := [8]) (by kernel_rfl) (by simp) (AllReadyH.cons rfl (fun K hK => ?_) AllReadyH.nil)
        go_simp
        refine (fn_isnull HARG.out lao l.length lc (evalsP cs row l) w3 HLZ.out.symm HIV3.out (by rw [HLZ.out, HARL.out])).mono ?_
        rintro e w4 ⟨rfl, hL4⟩
        have HL4 := hid (Later.trans _ _ _ HL3.out hL4)
        rw [HRV.out]
        refine hK.out _ _ ⟨HC0.out _ HL4.out, hS.2.later hL4⟩ (fun hS => ?_)
        clear hK K hL4
        try simp only [Act.put, List.setIfInBounds_toArray, List.set]
        have HR4 := hid (HRX.out.later HL4.out)
        obtain ⟨c0, c1, c2, f0, f1, f2, cl⟩ := HR4.out.cells
        simp only [nothing] at c0 c1 c2
        rw [vv r]
        refine wpAnyH_ready (rs := [9]) (by kernel_rfl) (by simp) (AllReadyH.cons rfl (fun K hK => ?_) AllReadyH.nil)
        go_simp
        refine hK.out _ _ ⟨(setV_keeps w4 w.heap.size r).cell (p := ⟨N, 0, none⟩) HNW.out hS.1, hS.2.kept (setV_keeps w4 w.heap.size r) (map_ret hS.2 HR4.out)⟩ (fun hS => ?_)
        clear hK K hS c0 c1 c2 f0 f1 f2 cl
        refine wpAnyH_done (by kernel_rfl) ?_ _
        go_wp2_with fail
        exact bodyPost_ret (results_val rfl rfl (HR4.out.set r)) rfl ⟨rfl, setV_later (Later.trans _ _ _ HLX.out HL4.out) (Nat.le_refl _) _⟩
      · rw [show fnF coalW = 112 from rfl]
        clear hst
        refine wpAnyH_take (i := 6) (v := .func (.func 112) #[] #[]) rfl (by kernel_rfl) (by kernel_rfl) (by kernel_rfl) (fun _ _ _ h => h) (Or.inl ⟨by rfl, ?_⟩) hS ?_
        · intro w hS
          clear hS
          go_simp
        try simp only [Act.put, List.setIfInBounds_toArray, List.set]
        refine wpAnyH_ready (rs := [8]) (by kernel_rfl) (by simp) (AllReadyH.cons rfl (fun K hK => ?_) AllReadyH.nil)
        go_simp
        refine (fn_coal HARG.out lao l.length lc (evalsP cs row l) w3 HLZ.out.symm HIV3.out (by rw [HLZ.out, HARL.out])).mono ?_
        rintro e w4 ⟨rfl, hL4⟩
        have HL4 := hid (Later.trans _ _ _ HL3.out hL4)
        rw [HRV.out]
        refine hK.out _ _ ⟨HC0.out _ HL4.out, hS.2.later hL4⟩ (fun hS => ?_)
        clear hK K hL4
        try simp only [Act.put, List.setIfInBounds_toArray, List.set]
        have HR4 := hid (HRX.out.later HL4.out)
        obtain ⟨c0, c1, c2, f0, f1, f2, cl⟩ := HR4.out.cells
        simp only [nothing] at c0 c1 c2
        rw [vv r]
        refine wpAnyH_ready (rs := [9]) (by kernel_rfl) (by simp) (AllReadyH.cons rfl (fun K hK => ?_) AllReadyH.nil)
        go_simp
        refine hK.out _ _ ⟨(setV_keeps w4 w.heap.size r).cell (p := ⟨N, 0, none⟩) HNW.out hS.1, hS.2.kept (setV_keeps w4 w.heap.size r) (map_ret hS.2 HR4.out)⟩ (fun hS => ?_)
        clear hK K hS c0 c1 c2 f0 f1 f2 cl
        refine wpAnyH_done (by kernel_rfl) ?_ _
        go_wp2_with fail
        exact bodyPost_ret (results_val rfl rfl (HR4.out.set r)) rfl ⟨rfl, setV_later (Later.trans _ _ _ HLX.out HL4.out) (Nat.le_refl _) _⟩
      · rw [show fnF ifW = 113 from rfl]
        clear hst
        refine wpAnyH_take (i := 6) (v := .func (.func 113) #[] #[]) rfl (by kernel_rfl) (by kernel_rfl) (by kernel_rfl) (fun _ _ _ h => h) (Or.inl ⟨by rfl, ?_⟩) hS ?_
        · intro w hS
          clear hS
          go_simp
        try simp only [Act.put, List.setIfInBounds_toArray, List.set]
        refine wpAnyH_ready (rs := [8]) (by kernel_rfl) (by simp) (AllReadyH.cons rfl (fun K hK => ?_) AllReadyH.nil)
        go_simp
        refine (fn_if HARG.out lao l.length lc (evalsP cs row l) w3 HLZ.out.symm HIV3.out (by rw [HLZ.out, HARL.out])).mono ?_
        rintro e w4 ⟨rfl, hL4⟩
        have HL4 := hid (Later.trans _ _ _ HL3.out hL4)
        rw [HRV.out]
        refine hK.out _ _ ⟨HC0.out _ HL4.out, hS.2.later hL4⟩ (fun hS => ?_)
        clear hK K hL4
        try simp only [Act.put, List.setIfInBounds_toArray, List.set]
        have HR4 := hid (HRX.out.later HL4.out)
        obtain ⟨c0, c1, c2, f0, f1, f2, cl⟩ := HR4.out.cells
        simp only [nothing] at c0 c1 c2
        rw [vv r]
        refine wpAnyH_ready (rs := [9]) (by kernel_rfl) (by simp) (AllReadyH.cons rfl (fun K hK => ?_) AllReadyH.nil)
        go_simp
        refine hK.out _ _ ⟨(setV_keeps w4 w.heap.size r).cell (p := ⟨N, 0, none⟩) HNW.out hS.1, hS.2.kept (setV_keeps w4 w.heap.size r) (map_ret hS.2 HR4.out)⟩ (fun hS => ?_)
        clear hK K hS c0 c1 c2 f0 f1 f2 cl
        refine wpAnyH_done (by kernel_rfl) ?_ _
        go_wp2_with fail
        exact bodyPost_ret (results_val rfl rfl (HR4.out.set r)) rfl ⟨rfl, setV_later (Later.trans _ _ _ HLX.out HL4.out) (Nat.le_refl _) _⟩
mutual
theorem ev_all {cs : List Col} {row : List Val} (hc : ColsOk cs) (hf : FitsOk cs row) : ∀ x : Ex, EvC cs row x
  | .lit v => ev_lit cs row v
  | .name s p => ev_name cs row hf.1 s p
  | .un neg p x => ev_un cs row neg p x (ev_all hc hf x)
  | .bin o p x y => ev_bin cs row hc hf o p x y (ev_all hc hf x) (ev_all hc hf y)
  | .call f p l => ev_call cs row hc hf f p l (evs_all hc hf l)
theorem evs_all {cs : List Col} {row : List Val} (hc : ColsOk cs) (hf : FitsOk cs row) : ∀ l : List Ex, ∀ x ∈ l, EvC cs row x
  | [], _, h => absurd h (by simp)
  | y :: l, x, h => by
    rcases List.mem_cons.1 h with h | h
    · rw [h]; exact ev_all hc hf y
    · exact evs_all hc hf l x h
end
end Go.Proofs.YtgajofkeidjbgaaGreatDoor
