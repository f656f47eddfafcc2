/-
  PROVED HERE: the contract of the document's Print: a tree is written as the plain printer (the document's) writes it.
-/
import Derived.Test.YtgajofkeidjbgaaGreatDoorRefP6
import Derived.Test.YtgajofkeidjbgaaGreatDoorGDecimal
import Derived.Test.YtgajofkeidjbgaaGreatDoorGPrint4
namespace Go.Proofs.YtgajofkeidjbgaaGreatDoor
set_option linter.unusedSimpArgs false
set_option linter.unusedVariables false
open Go.RowKit

/-- the contract of the document's Print at a tree. -/
def RPrC (x : Ex) : Prop := ∀ (q B : Nat) (S : Nat → Prop) (w : World), q ≤ 9 → EIn S w (.pointer (some ⟨B, 0, none⟩)) x → ExOk x → costP x ≤ 1000000 → Calls Tryz.prog 11 #[.pointer (some ⟨B, 0, none⟩), .int .i64 (q : Int)] w (StrTo w (printD x q))
theorem what_eq {s : ByteArray} (l : List UInt8) (h : s = strB l) : (s.toList == l) = true := by rw [h, strB_toL']; simp
theorem what_ne {s : ByteArray} {l m : List UInt8} (h : s = strB l) (hn : l ≠ m) : (s.toList == m) = false := by rw [h, strB_toL']; simpa using hn
theorem ptr_inj {N N' : Nat} (h : Value.pointer (some ⟨N, 0, none⟩) = .pointer (some ⟨N', 0, none⟩)) : N = N' := by
  simp only [Value.pointer.injEq, Option.some.injEq, Addr.mk.injEq] at h
  exact h.1
theorem EIn.ptr {S : Nat → Prop} {w : World} {v : Value} {x : Ex} (h : EIn S w v x) : ∃ N, v = .pointer (some ⟨N, 0, none⟩) := by
  cases x <;> (unfold EIn at h)
  · obtain ⟨B, p, a, nm, -, h, -⟩ := h; exact ⟨B, h⟩
  · obtain ⟨B, a, v1, v2, v3, -, h, -⟩ := h; exact ⟨B, h⟩
  · obtain ⟨B, a, u, v1, v2, v3, nm, -, h, -⟩ := h; exact ⟨B, h⟩
  · obtain ⟨B, a, u1, u2, v1, v2, v3, nm, -, h, -⟩ := h; exact ⟨B, h⟩
  · obtain ⟨B, a, us, v1, v2, v3, -, h, -⟩ := h; exact ⟨B, h⟩
/-- where a tree's parts lie. -/
theorem kids_at {S : Nat → Prop} {w : World} {a : Value} {us : List Value} (h : KidsIn S w a us) (hu : us ≠ []) : ∃ b o c, a = .slice (some ⟨b, o, none⟩) us.length c ∧ ∀ i (hi : i < us.length), w.cell? ⟨b, o + i, none⟩ = some us[i] := by
  obtain ⟨ao, c, hv, -, -, -, he⟩ := h
  have h0 : 0 < us.length := List.length_pos_iff.2 hu
  obtain ⟨b, o, hao, -, -⟩ := he 0 h0
  subst hao
  refine ⟨b, o, c, hv, fun i hi => ?_⟩
  obtain ⟨b', o', e, -, hx⟩ := he i hi
  simp only [Option.some.injEq, Addr.mk.injEq, and_true] at e
  obtain ⟨rfl, rfl⟩ := e
  simpa using hx
theorem brk_pos {c : Prop} [Decidable c] (h : c) (l : List UInt8) : brk (decide c) l = 40 :: (l ++ [41]) := by unfold brk; rw [if_pos (decide_eq_true h)]
theorem brk_neg {c : Prop} [Decidable c] (h : ¬ c) (l : List UInt8) : brk (decide c) l = l := by unfold brk; rw [decide_eq_false h]; rfl
mutual
theorem printD_len : ∀ (x : Ex) (q : Nat), q ≤ 9 → (printD x q).length ≤ costP x
  | .lit v, q, hq => by unfold printD costP; rw [brk_neg (by omega)]; exact Nat.le_refl _
  | .name s p, q, hq => by unfold printD costP; rw [brk_neg (by omega)]; exact Nat.le_refl _
  | .un neg p x, q, hq => by
    unfold printD costP
    refine Nat.le_trans (brk_len _ _) ?_
    have := printD_len x (if neg = true then 7 else 3) (by split <;> omega)
    rw [List.length_append]
    have h : (if neg = true then ([45] : List UInt8) else [110, 111, 116, 32]).length ≤ 4 := by cases neg <;> decide
    omega
  | .bin o p x y, q, hq => by
    unfold printD costP
    refine Nat.le_trans (brk_len _ _) ?_
    have hp := powS_vals o
    have h1 := printD_len x (if powS o = 4 then 5 else powS o) (by split <;> omega)
    have h2 := printD_len y (powS o + 1) (by omega)
    simp only [List.length_append, List.length_cons, List.length_nil]
    omega
  | .call f p l, q, hq => by
    unfold printD costP
    rw [brk_neg (by omega)]
    have := printsD_len l false
    simp only [List.length_append, List.length_cons, List.length_nil]
    omega
theorem printsD_len : ∀ (l : List Ex) (m : Bool), (printsD m l).length ≤ costsP l
  | [], m => by unfold printsD costsP; exact Nat.le_refl _
  | x :: l, m => by
    unfold printsD costsP
    have h1 := printD_len x 0 (by omega)
    have h2 := printsD_len l true
    have h : (if m = true then ([44, 32] : List UInt8) else []).length ≤ 2 := by cases m <;> decide
    simp only [List.length_append]
    omega
end
theorem brk_str (l : List UInt8) : (⟨#[40]⟩ : ByteArray) ++ (strB l ++ ⟨#[41]⟩) = strB (40 :: (l ++ [41])) := by
  rw [show (⟨#[40]⟩ : ByteArray) = strB [40] from rfl, show (⟨#[41]⟩ : ByteArray) = strB [41] from rfl, strB_append, strB_append]; rfl
theorem brk_str' (l : List UInt8) : (⟨#[40]⟩ : ByteArray) ++ strB l ++ ⟨#[41]⟩ = strB (40 :: (l ++ [41])) := by
  rw [show (⟨#[40]⟩ : ByteArray) = strB [40] from rfl, show (⟨#[41]⟩ : ByteArray) = strB [41] from rfl, strB_append, strB_append]; rfl
set_option maxRecDepth 100000 in
set_option maxHeartbeats 4000000 in
theorem rprc_lit (v : Val) : RPrC (.lit v) := by
  intro q B S w hq hn ho hcost
  unfold EIn at hn
  obtain ⟨B', p, a, nm, -, hB, hobj⟩ := hn
  obtain rfl := ptr_inj hB
  unfold ExOk at ho
  obtain ⟨sv, hsv⟩ : ∃ s, s = strB valueN := ⟨_, rfl⟩
  rw [← hsv] at hobj
  have e1 : (sv.toList == [118, 97, 108, 117, 101]) = true := what_eq valueN hsv
  have HO := hid ho
  have c0 : w.cell? ⟨B, 0, none⟩ = some (.string sv) := cell_obj (i := 0) hobj rfl
  have c3 : w.cell? ⟨B, 3, none⟩ = some (.int .i64 v.k) := cell_obj (i := 3) hobj rfl
  have c4 : w.cell? ⟨B, 4, none⟩ = some (.int .i64 v.n) := cell_obj (i := 4) hobj rfl
  have c5 : w.cell? ⟨B, 5, none⟩ = some (.string v.t) := cell_obj (i := 5) hobj rfl
  have hlt := cell_lt c0
  have hq' : ¬ (9 : Int) < q := by omega
  have HQ := hid hq
  clear ho hobj hB hsv hq
  go_enter Tryz.func11, Tryz.ntmps11
  go_wp2_with fail
  refine (rshow_any v w (lit_ok HO.out.2.1)).mono ?_
  rintro e w1 ⟨rfl, hL1⟩
  have HL1 := hid hL1
  clear hL1 c0 c3 c4 c5 hlt
  go_wp2_with fail
  refine bodyPost_ret (results_tmp rfl _ _ _) rfl ⟨?_, HL1.out⟩
  unfold printD
  rw [brk_neg (by have := HQ.out; omega)]
  rfl
set_option maxRecDepth 100000 in
set_option maxHeartbeats 4000000 in
theorem rprc_name (s : List UInt8) (p : Nat) : RPrC (.name s p) := by
  intro q B S w hq hn ho hcost
  unfold EIn at hn
  obtain ⟨B', a, v1, v2, v3, -, hB, hobj⟩ := hn
  obtain rfl := ptr_inj hB
  obtain ⟨sv, hsv⟩ : ∃ s, s = strB nameN := ⟨_, rfl⟩
  rw [← hsv] at hobj
  have e1 : (sv.toList == [118, 97, 108, 117, 101]) = false := what_ne hsv (by decide)
  have e2 : (sv.toList == [110, 97, 109, 101]) = true := what_eq nameN hsv
  have c0 : w.cell? ⟨B, 0, none⟩ = some (.string sv) := cell_obj (i := 0) hobj rfl
  have c6 : w.cell? ⟨B, 6, none⟩ = some (.string (strB s)) := cell_obj (i := 6) hobj rfl
  have hlt := cell_lt c0
  have hq' : ¬ (9 : Int) < q := by omega
  have HQ := hid hq
  clear ho hobj hB hsv hq
  go_enter Tryz.func11, Tryz.ntmps11
  go_wp2_with fail
  refine bodyPost_ret (results_tmp rfl _ _ _) rfl ⟨?_, Later.refl _⟩
  unfold printD
  rw [brk_neg (by have := HQ.out; omega)]
  rfl
set_option maxRecDepth 100000 in
set_option maxHeartbeats 4000000 in
theorem rprc_un (neg : Bool) (p : Nat) (x : Ex) (hx : RPrC x) : RPrC (.un neg p x) := by
  intro q B S w hq hn ho hcost
  unfold EIn at hn
  obtain ⟨B', a, u, v1, v2, v3, nm, -, hB, hobj, hk, hux⟩ := hn
  obtain rfl := ptr_inj hB
  unfold ExOk at ho
  obtain ⟨b, o, c, rfl, hcell⟩ := kids_at hk (by simp)
  have k0 := hcell 0 (by simp)
  simp only [Nat.add_zero, List.getElem_cons_zero] at k0
  obtain ⟨X, rfl⟩ := hux.ptr
  have HUX := hid hux; have HO := hid ho; have HQ := hid hq; have HX := hid hx
  obtain ⟨sv, hsv⟩ : ∃ s, s = strB (unN neg) := ⟨_, rfl⟩
  rw [← hsv] at hobj
  have c0 : w.cell? ⟨B, 0, none⟩ = some (.string sv) := cell_obj (i := 0) hobj rfl
  have c2 : w.cell? ⟨B, 2, none⟩ = some (.slice (some ⟨b, o, none⟩) 1 c) := cell_obj (i := 2) hobj rfl
  have hlt := cell_lt c0
  have hkl := cell_lt k0
  have e1 : (sv.toList == [118, 97, 108, 117, 101]) = false := what_ne hsv (by cases neg <;> decide)
  have e2 : (sv.toList == [110, 97, 109, 101]) = false := what_ne hsv (by cases neg <;> decide)
  have e3 : (sv.toList == [99, 97, 108, 108]) = false := what_ne hsv (by cases neg <;> decide)
  clear hk hcell hux ho hB hq hx hobj
  have HCO : Hid (6 + costP x ≤ 1000000) := hid (by unfold costP at hcost; exact hcost)
  clear hcost
  cases neg with
  | true =>
    have e4 : (sv.toList == [109, 105, 110, 117, 115]) = true := what_eq minusN hsv
    clear hsv
    have HLN : Hid ((printD x 7).length ≤ 1000000) := hid (by have := printD_len x 7 (by omega); have := HCO.out; omega)
    go_enter Tryz.func11, Tryz.ntmps11
    go_wp2_with fail
    refine (HX.out 7 X S w (by omega) HUX.out HO.out (by have := HCO.out; omega)).mono ?_
    rintro e w1 ⟨rfl, hL1⟩
    have HL1 := hid hL1
    obtain ⟨s1, hs1⟩ : ∃ s, strB (printD x 7) = s := ⟨_, rfl⟩
    rw [hs1]
    have hz : s1.size ≤ 1000000 := by rw [← hs1, strB_size]; exact HLN.out
    have z1 : ¬ 9223372036854775807 < 1 + s1.size := by omega
    obtain ⟨s2, hs2⟩ : ∃ s, (⟨#[45]⟩ : ByteArray) ++ s1 = s := ⟨_, rfl⟩
    have HS2 : Hid (s2 = strB ([45] ++ printD x 7)) := hid (by rw [← hs2, ← hs1, show (⟨#[45]⟩ : ByteArray) = strB [45] from rfl, strB_append])
    have hz2 : s2.size ≤ 1000010 := by rw [HS2.out, strB_size, List.length_append]; have := HLN.out; simp only [List.length_cons, List.length_nil]; omega
    have z2 : ¬ 9223372036854775807 < 1 + s2.size := by omega
    have z3 : ¬ 9223372036854775807 < 1 + s2.size + 1 := by omega
    clear hL1 c0 c2 hlt k0 hkl hs1 hz hz2
    by_cases hqq : 7 < q
    · have hqi : (7 : Int) < q := by omega
      have HQQ := hid hqq
      clear hqq
      go_wp2_with fail
      refine bodyPost_ret (results_tmp rfl _ _ _) rfl ⟨?_, HL1.out⟩
      unfold printD
      simp only [if_true]
      rw [brk_pos HQQ.out, HS2.out]
      show Ending.returned (.string _) = _
      simp only [brk_str, brk_str']
    · have hqi : ¬ (7 : Int) < q := by omega
      have HQQ := hid hqq
      clear hqq
      go_wp2_with fail
      refine bodyPost_ret (results_tmp rfl _ _ _) rfl ⟨?_, HL1.out⟩
      unfold printD
      simp only [if_true]
      rw [brk_neg HQQ.out, HS2.out]
      rfl
  | false =>
    have e4 : (sv.toList == [109, 105, 110, 117, 115]) = false := what_ne hsv (by decide)
    have e5 : (sv.toList == [110, 111, 116]) = true := what_eq notW hsv
    clear hsv
    have HLN : Hid ((printD x 3).length ≤ 1000000) := hid (by have := printD_len x 3 (by omega); have := HCO.out; omega)
    go_enter Tryz.func11, Tryz.ntmps11
    go_wp2_with fail
    refine (HX.out 3 X S w (by omega) HUX.out HO.out (by have := HCO.out; omega)).mono ?_
    rintro e w1 ⟨rfl, hL1⟩
    have HL1 := hid hL1
    obtain ⟨s1, hs1⟩ : ∃ s, strB (printD x 3) = s := ⟨_, rfl⟩
    rw [hs1]
    have hz : s1.size ≤ 1000000 := by rw [← hs1, strB_size]; exact HLN.out
    have z1 : ¬ 9223372036854775807 < 4 + s1.size := by omega
    obtain ⟨s2, hs2⟩ : ∃ s, (⟨#[110, 111, 116, 32]⟩ : ByteArray) ++ s1 = s := ⟨_, rfl⟩
    have HS2 : Hid (s2 = strB ([110, 111, 116, 32] ++ printD x 3)) := hid (by rw [← hs2, ← hs1, show (⟨#[110, 111, 116, 32]⟩ : ByteArray) = strB [110, 111, 116, 32] from rfl, strB_append])
    have hz2 : s2.size ≤ 1000010 := by rw [HS2.out, strB_size, List.length_append]; have := HLN.out; simp only [List.length_cons, List.length_nil]; omega
    have z2 : ¬ 9223372036854775807 < 1 + s2.size := by omega
    have z3 : ¬ 9223372036854775807 < 1 + s2.size + 1 := by omega
    clear hL1 c0 c2 hlt k0 hkl hs1 hz hz2
    by_cases hqq : 3 < q
    · have hqi : (3 : Int) < q := by omega
      have HQQ := hid hqq
      clear hqq
      go_wp2_with fail
      refine bodyPost_ret (results_tmp rfl _ _ _) rfl ⟨?_, HL1.out⟩
      unfold printD
      simp only [Bool.false_eq_true, if_false]
      rw [brk_pos HQQ.out, HS2.out]
      show Ending.returned (.string _) = _
      simp only [brk_str, brk_str']
    · have hqi : ¬ (3 : Int) < q := by omega
      have HQQ := hid hqq
      clear hqq
      go_wp2_with fail
      refine bodyPost_ret (results_tmp rfl _ _ _) rfl ⟨?_, HL1.out⟩
      unfold printD
      simp only [Bool.false_eq_true, if_false]
      rw [brk_neg HQQ.out, HS2.out]
      rfl
theorem ops_what : ∀ o ∈ opsW, o ≠ valueN ∧ o ≠ nameN ∧ o ≠ callN ∧ o ≠ minusN ∧ o ≠ notW := by decide
theorem pow_le {o : List UInt8} (ho : o ∈ opsW) : powS o ≤ 6 := by rcases op_corr ho with h | h | h | h | h <;> omega
theorem bin_str (a o b : List UInt8) : strB a ++ ((⟨#[32]⟩ : ByteArray) ++ (strB o ++ ((⟨#[32]⟩ : ByteArray) ++ strB b))) = strB (a ++ (32 :: (o ++ [32]) ++ b)) := by
  rw [show (⟨#[32]⟩ : ByteArray) = strB [32] from rfl, strB_append, strB_append, strB_append, strB_append]
  simp
theorem bin_str' (a o b : List UInt8) : strB a ++ (⟨#[32]⟩ : ByteArray) ++ strB o ++ (⟨#[32]⟩ : ByteArray) ++ strB b = strB (a ++ (32 :: (o ++ [32]) ++ b)) := by
  rw [show (⟨#[32]⟩ : ByteArray) = strB [32] from rfl, strB_append, strB_append, strB_append, strB_append]
  simp
set_option maxRecDepth 100000 in
set_option maxHeartbeats 4000000 in
theorem rprc_bin (o : List UInt8) (p : Nat) (x y : Ex) (hx : RPrC x) (hy : RPrC y) : RPrC (.bin o p x y) := by
  intro q B S w hq hn ho hcost
  unfold EIn at hn
  obtain ⟨B', a, u1, u2, v1, v2, v3, nm, -, hB, hobj, hk, hux, huy⟩ := hn
  obtain rfl := ptr_inj hB
  unfold ExOk at ho
  obtain ⟨b, of, c, rfl, hcell⟩ := kids_at hk (by simp)
  have k0 := hcell 0 (by simp)
  have k1 := hcell 1 (by simp)
  simp only [Nat.add_zero, List.getElem_cons_zero, List.getElem_cons_succ] at k0 k1
  obtain ⟨X, rfl⟩ := hux.ptr
  obtain ⟨Y, rfl⟩ := huy.ptr
  have HUX := hid hux; have HUY := hid huy; have HO := hid ho; have HQ := hid hq; have HX := hid hx; have HY := hid hy
  have hne := ops_what o ho.1
  have HCO : Hid (o.length + 4 + costP x + costP y ≤ 1000000) := hid (by unfold costP at hcost; exact hcost)
  clear hcost
  have c0 : w.cell? ⟨B, 0, none⟩ = some (.string (strB o)) := cell_obj (i := 0) hobj rfl
  have c2 : w.cell? ⟨B, 2, none⟩ = some (.slice (some ⟨b, of, none⟩) 2 c) := cell_obj (i := 2) hobj rfl
  have hlt := cell_lt c0
  have hkl := cell_lt k0
  have e1 : ((strB o).toList == [118, 97, 108, 117, 101]) = false := what_ne rfl hne.1
  have e2 : ((strB o).toList == [110, 97, 109, 101]) = false := what_ne rfl hne.2.1
  have e3 : ((strB o).toList == [99, 97, 108, 108]) = false := what_ne rfl hne.2.2.1
  have e4 : ((strB o).toList == [109, 105, 110, 117, 115]) = false := what_ne rfl hne.2.2.2.1
  have e5 : ((strB o).toList == [110, 111, 116]) = false := what_ne rfl hne.2.2.2.2
  have HC : Hid (w.cell? ⟨B, 0, none⟩ = some (.string (strB o)) ∧ w.cell? ⟨B, 2, none⟩ = some (.slice (some ⟨b, of, none⟩) 2 c) ∧ w.cell? ⟨b, of + 1, none⟩ = some (.pointer (some ⟨Y, 0, none⟩))) := hid ⟨c0, c2, k1⟩
  clear hk hcell hux huy ho hB hq hx hy hobj hne k1
  go_enter Tryz.func11, Tryz.ntmps11
  go_wp2_with fail
  refine (power_any o w).mono ?_
  rintro e w' ⟨rfl, hw'⟩
  subst w'
  obtain ⟨pw, hpw⟩ : ∃ n, powS o = n := ⟨_, rfl⟩
  have HP6 : Hid (pw ≤ 6) := hid (by rw [← hpw]; exact pow_le HO.out.1)
  rw [hpw]
  have HPW := hid hpw
  clear hpw e1 e2 e3 e4 e5
  go_upto_if 25 with (fail)
  obtain ⟨lf, hlf⟩ : ∃ n, n = (if pw = 4 then 5 else pw) := ⟨_, rfl⟩
  have HLF := hid hlf
  have HL9 : Hid (lf ≤ 9) := hid (by have := HP6.out; rw [hlf]; split <;> omega)
  obtain ⟨R2, hR2⟩ : ∃ RR_ : (Nat → Value) → World → Prop, RR_ = (fun us wy => us 11 = .int .i64 (lf : Int) ∧ wy = w) := ⟨_, rfl⟩
  have HR2 := hid hR2; clear hR2
  refine wp_cut_frame' [false, false, false, false, false, false, false, false, false, false, false, true, false, false, false, false, false, false, false, false, false, false, false, false, false, true] R2 _ HR2.out ?_ ?_
  · by_cases h4 : pw = 4
    · have h4i : ((pw : Int) == 4) = true := by rw [h4]; rfl
      have H4 := hid h4
      have hl : lf = 5 := by rw [hlf, if_pos h4]
      have HL := hid hl
      clear h4 hlf hl
      go_wp2_with fail
      refine Meet.mk' HR2.out rfl ?_
      exact ⟨by rw [HL.out]; rfl, rfl⟩
    · have h4i : ((pw : Int) == 4) = false := by rw [beq_eq_false_iff_ne]; omega
      have hl : lf = pw := by rw [hlf, if_neg h4]
      have HL := hid hl
      clear h4 hlf hl
      go_wp2_with fail
      refine Meet.mk' HR2.out rfl ?_
      exact ⟨by rw [HL.out]; simp [slots], rfl⟩
  intro us2 wy hrel
  obtain ⟨h11, hwy⟩ := hrel
  simp only [frameOf, Nat.reduceAdd, h11]
  have Hh11 := hid h11; clear h11
  subst hwy
  clear hlf
  go_wp2_with fail
  refine (HX.out lf X S wy HL9.out HUX.out HO.out.2.1 (by have := HCO.out; omega)).mono ?_
  rintro e w1 ⟨rfl, hL1⟩
  have HL1 := hid hL1
  have HC1 := hid (And.intro (hL1.cell HC.out.1) (And.intro (hL1.cell HC.out.2.1) (hL1.cell HC.out.2.2)))
  obtain ⟨d0, d2, m1⟩ := HC1.out
  have hlt1 := cell_lt d0
  have hkl1 := cell_lt m1
  have hp1 : ¬ (9223372036854775807 : Int) < pw + 1 := by have := HP6.out; omega
  clear hL1 c0 c2 hlt k0 hkl
  go_wp2_with fail
  rw [show ((pw : Int) + 1) = ((pw + 1 : Nat) : Int) by omega]
  refine (HY.out (pw + 1) Y S w1 (by have := HP6.out; omega) (EIn.kept (HL1.out.keeps S) (fun _ h => h) _ _ HUY.out) HO.out.2.2 (by have := HCO.out; omega)).mono ?_
  rintro e w2 ⟨rfl, hL2⟩
  have HL2 := hid (Later.trans _ _ _ HL1.out hL2)
  have f0 := hL2.cell d0
  have hlt2 := cell_lt f0
  clear hL2 d0 d2 m1 hlt1 hkl1 hp1
  have HS : Hid (printD (.bin o p x y) q = brk (decide (pw < q)) (printD x lf ++ (32 :: (o ++ [32]) ++ printD y (pw + 1)))) := hid (by
    rw [HLF.out, ← HPW.out]
    conv => lhs; unfold printD)
  obtain ⟨s1, hs1⟩ : ∃ s, strB (printD x lf) = s := ⟨_, rfl⟩
  obtain ⟨s2, hs2⟩ : ∃ s, strB (printD y (pw + 1)) = s := ⟨_, rfl⟩
  obtain ⟨so, hso⟩ : ∃ s, strB o = s := ⟨_, rfl⟩
  rw [hso] at f0
  rw [hs1, hs2]
  have hz1 : s1.size ≤ costP x := by rw [← hs1, strB_size]; exact printD_len x lf HL9.out
  have hz2 : s2.size ≤ costP y := by rw [← hs2, strB_size]; exact printD_len y (pw + 1) (by have := HP6.out; omega)
  have hzo : so.size = o.length := by rw [← hso, strB_size]
  have hco := HCO.out
  have z1 : ¬ 9223372036854775807 < s1.size + 1 := by omega
  have z2 : ¬ 9223372036854775807 < s1.size + 1 + so.size := by omega
  have z3 : ¬ 9223372036854775807 < s1.size + 1 + so.size + 1 := by omega
  have z4 : ¬ 9223372036854775807 < s1.size + 1 + so.size + 1 + s2.size := by omega
  obtain ⟨s3, hs3⟩ : ∃ s, s1 ++ ((⟨#[32]⟩ : ByteArray) ++ (so ++ ((⟨#[32]⟩ : ByteArray) ++ s2))) = s := ⟨_, rfl⟩
  have hs3' : s1 ++ (⟨#[32]⟩ : ByteArray) ++ so ++ (⟨#[32]⟩ : ByteArray) ++ s2 = s3 := by rw [← hs3]; simp only [ByteArray.append_assoc]
  have HS3 : Hid (s3 = strB (printD x lf ++ (32 :: (o ++ [32]) ++ printD y (pw + 1)))) := hid (by rw [← hs3, ← hs1, ← hs2, ← hso, bin_str])
  have HZ3 : Hid (s3.size ≤ 1000000) := hid (by rw [HS3.out, strB_size]; simp only [List.length_append, List.length_cons, List.length_nil]; rw [← hs1, strB_size] at hz1; rw [← hs2, strB_size] at hz2; omega)
  have HS3a := hid hs3; have HS3b := hid hs3'
  clear hs1 hs2 hso hz1 hz2 hzo hco hs3 hs3'
  go_upto_region 33 with (fail)
  first | rw [HS3b.out] | rw [HS3a.out]
  have z5 : ¬ 9223372036854775807 < 1 + s3.size := by have := HZ3.out; omega
  have z6 : ¬ 9223372036854775807 < 1 + s3.size + 1 := by have := HZ3.out; omega
  clear z1 z2 z3 z4 f0 hlt2
  by_cases hqq : pw < q
  · have hqi : (pw : Int) < q := by omega
    have HQQ := hid hqq
    clear hqq
    go_wp2_with fail
    refine bodyPost_ret (results_tmp rfl _ _ _) rfl ⟨?_, HL2.out⟩
    rw [HS.out, brk_pos HQQ.out, HS3.out]
    show Ending.returned (.string _) = _
    simp only [brk_str, brk_str']
  · have hqi : ¬ (pw : Int) < q := by omega
    have HQQ := hid hqq
    clear hqq
    go_wp2_with fail
    refine bodyPost_ret (results_tmp rfl _ _ _) rfl ⟨?_, HL2.out⟩
    rw [HS.out, brk_neg HQQ.out, HS3.out]
    rfl
theorem printsD_snoc (x : Ex) : ∀ (m : Bool) (l : List Ex), printsD m (l ++ [x]) = printsD m l ++ ((if m = true ∨ l ≠ [] then [44, 32] else []) ++ printD x 0)
  | m, [] => by
    show printsD m [x] = _
    unfold printsD
    unfold printsD
    cases m <;> simp
  | m, y :: l => by
    show printsD m (y :: (l ++ [x])) = _
    conv => lhs; unfold printsD
    conv => rhs; unfold printsD
    rw [printsD_snoc x true l]
    simp
theorem es_at {S : Nat → Prop} {w : World} : ∀ {vs : List Value} {l : List Ex}, EsIn S w vs l → ∀ k (h : k < l.length) (h' : k < vs.length), EIn S w vs[k] l[k]
  | [], [], _, k, h, _ => absurd h (by simp)
  | v :: vs, x :: l, hn, k, h, h' => by
    unfold EsIn at hn
    cases k with
    | zero => exact hn.1
    | succ k => exact es_at hn.2 k (by simpa using h) (by simpa using h')
  | [], _ :: _, h, _, _, _ => by unfold EsIn at h; exact h.elim
  | _ :: _, [], h, _, _, _ => by unfold EsIn at h; exact h.elim
theorem rexs_at : ∀ {l : List Ex}, ExsOk l → ∀ x ∈ l, ExOk x
  | [], _, x, h => absurd h (by simp)
  | y :: l, ho, x, h => by
    unfold ExsOk at ho
    rcases List.mem_cons.1 h with rfl | h
    · exact ho.1
    · exact rexs_at ho.2 x h
theorem step_str (s : List UInt8) (xs : List Ex) (k : Nat) (hk : k < xs.length) : strB (s ++ printsD false (xs.take k) ++ (if k = 0 then [] else [44, 32])) ++ strB (printD (xs[k]) 0) = strB (s ++ printsD false (xs.take (k + 1))) := by
  rw [strB_append, List.take_succ_eq_append_getElem hk, printsD_snoc]
  congr 1
  have : (xs.take k ≠ []) ↔ k ≠ 0 := by
    rw [ne_eq, List.take_eq_nil_iff]
    have : xs ≠ [] := fun h => by rw [h] at hk; simp at hk
    simp [this]
  by_cases h0 : k = 0
  · simp [h0]
  · simp [this.2 h0, h0]
set_option maxRecDepth 100000 in
set_option maxHeartbeats 4000000 in
theorem rprc_call (f : List UInt8) (p : Nat) (xs : List Ex) (hx : ∀ x ∈ xs, RPrC x) : RPrC (.call f p xs) := by
  intro q B S w hq hn ho hcost
  unfold EIn at hn
  obtain ⟨B', a, vs, v1, v2, v3, -, hB, hobj, hk, hes⟩ := hn
  obtain rfl := ptr_inj hB
  unfold ExOk at ho
  obtain ⟨ao, c, rfl, hlc, hcm, -, hel⟩ := hk
  have HML := hid (And.intro hlc hcm)
  have hvl := es_len hes
  obtain ⟨sv, hsv⟩ : ∃ s, s = strB callN := ⟨_, rfl⟩
  rw [← hsv] at hobj
  have e1 : (sv.toList == [118, 97, 108, 117, 101]) = false := what_ne hsv (by decide)
  have e2 : (sv.toList == [110, 97, 109, 101]) = false := what_ne hsv (by decide)
  have e3 : (sv.toList == [99, 97, 108, 108]) = true := what_eq callN hsv
  have c0 : w.cell? ⟨B, 0, none⟩ = some (.string sv) := cell_obj (i := 0) hobj rfl
  have c2 : w.cell? ⟨B, 2, none⟩ = some (.slice ao vs.length c) := cell_obj (i := 2) hobj rfl
  have c6 : w.cell? ⟨B, 6, none⟩ = some (.string (strB f)) := cell_obj (i := 6) hobj rfl
  have hlt := cell_lt c0
  have HES := hid hes; have HO := hid ho; have HQ := hid hq; have HX := hid hx; have HEL := hid hel; have HVL := hid hvl; have HC2 := hid c2
  have HCO : Hid (f.length + 2 + costsP xs ≤ 1000000) := hid (by unfold costP at hcost; exact hcost)
  clear hcost
  obtain ⟨sf, hsf⟩ : ∃ s, strB f = s := ⟨_, rfl⟩
  rw [hsf] at c6
  have hzf : ¬ 9223372036854775807 < sf.size + 1 := by rw [← hsf, strB_size]; have := HCO.out; omega
  have HCAT : Hid (sf ++ ⟨#[40]⟩ = strB (f ++ [40] ++ printsD false (xs.take 0))) := hid (by
    rw [← hsf, show (⟨#[40]⟩ : ByteArray) = strB [40] from rfl, strB_append, List.take_zero, show printsD false [] = [] by unfold printsD; rfl, List.append_nil])
  clear hes ho hq hx hel hvl hB hobj hsv hlc hcm hsf
  go_enter Tryz.func11, Tryz.ntmps11
  go_wp2_with fail
  clear c0 c2 c6 hlt e1 e2 e3 hzf
  obtain ⟨R1, hR1⟩ : ∃ RR_ : (Nat → Value) → World → Prop, RR_ = (fun us wx => ∃ (k : Nat) (s6 : ByteArray), us 7 = .int .i64 k ∧ k ≤ xs.length ∧ us 6 = .string s6 ∧ s6 = strB (f ++ [40] ++ printsD false (xs.take k)) ∧ Later w wx) := ⟨_, rfl⟩
  obtain ⟨mu1, hmu1⟩ : ∃ mu : (Nat → Value) → World → Nat, mu = (fun us _ => xs.length - (intOf (us 7)).toNat) := ⟨_, rfl⟩
  have HR1 := hid hR1; have Hmu1 := hid hmu1; clear hR1 hmu1
  refine wp_loop_frame' [false, false, false, false, false, false, true, true, true, false, false, false, false, false, false, false, false, false, false, false, false, false, false, false, false, false, false, false, false, false, false, false, false, false, false, false, false, false, false, false, false, false, false, false, false, false, false, false, false, false, false, false, false, false, false, false, false, false, false, false, false, false, false, false, false, false, false, false, false, false, false, false, false, true, true, true, true, true, true, true, true, true, true, true, true, true, true, true, true, true, true, true, true, true, true, true, true] R1 _ mu1 HR1.out ?_ ?_
  · exact ⟨0, _, rfl, Nat.zero_le _, rfl, HCAT.out, Later.refl _⟩
  intro us1 wx hrel
  obtain ⟨k, s6, h7, hkx, h6, hs6, hL⟩ := hrel
  simp only [frameOf, Nat.reduceAdd, h7, h6]
  have Hh7 := hid h7; clear h7
  have Hh6 := hid h6; clear h6
  have HKX := hid hkx; have HL := hid hL
  have HS6 := hid hs6
  have c2 : wx.cell? ⟨B, 2, none⟩ = some (.slice ao vs.length c) := hL.cell HC2.out
  have hlt := cell_lt c2
  clear hL hs6
  by_cases hke : k < xs.length
  · have HKE := hid hke
    have hki : (k : Int) < vs.length := by have := HVL.out; omega
    have hkv : k < vs.length := by have := HVL.out; omega
    obtain ⟨b, of, rfl, -, hcell⟩ := HEL.out k hkv
    obtain ⟨X, hX⟩ := (es_at HES.out k hke hkv).ptr
    have hEX := es_at HES.out k hke hkv
    rw [hX] at hEX hcell
    have HEX := hid hEX
    have m0 : wx.cell? ⟨b, of + k, none⟩ = some (.pointer (some ⟨X, 0, none⟩)) := by simpa using HL.out.cell hcell
    have hml := cell_lt m0
    have HTK := hid (costs_take xs k hke)
    have HZ6 : Hid (s6.size + 2 + costP (xs[k]'hke) ≤ 1000000) := hid (by
      have h1 := printsD_len (xs.take k) false
      have h2 := HTK.out
      have h3 := HCO.out
      rw [HS6.out, strB_size]
      simp only [List.length_append, List.length_cons, List.length_nil]
      omega)
    have z2 : ¬ 9223372036854775807 < s6.size + 2 := by have := HZ6.out; omega
    clear hkx hcell hX hEX
    go_upto_if 83 with (fail)
    obtain ⟨R2, hR2⟩ : ∃ RR_ : (Nat → Value) → World → Prop, RR_ = (fun us wy => ∃ s7 : ByteArray, us 6 = .string s7 ∧ s7 = strB (f ++ [40] ++ printsD false (xs.take k) ++ (if k = 0 then [] else [44, 32])) ∧ wy = wx) := ⟨_, rfl⟩
    have HR2 := hid hR2; clear hR2
    refine wp_cut_frame' [false, false, false, false, false, false, true, false, false, false, false, false, false, false, false, false, false, false, false, false, false, false, false, false, false, false, false, false, false, false, false, false, false, false, false, false, false, false, false, false, false, false, false, false, false, false, false, false, false, false, false, false, false, false, false, false, false, false, false, false, false, false, false, false, false, false, false, false, false, false, false, false, false, false, false, false, false, false, false, false, false, false, false, true, true, true] R2 _ HR2.out ?_ ?_
    · by_cases h0 : k = 0
      · have h0i : ¬ (0 : Int) < (k : Int) := by omega
        have H0 := hid h0
        clear h0
        go_wp2_with fail
        refine Meet.mk' HR2.out rfl ?_
        refine ⟨s6, ?_, ?_, rfl⟩
        · simp [slots]
        · rw [if_pos H0.out, List.append_nil, HS6.out]
      · have h0i : (0 : Int) < (k : Int) := by omega
        have H0 := hid h0
        clear h0
        go_wp2_with fail
        refine Meet.mk' HR2.out rfl ?_
        refine ⟨_, rfl, ?_, rfl⟩
        rw [if_neg H0.out, ← strB_append _ [44, 32], HS6.out]
        rfl
    intro us2 wy hrel
    obtain ⟨s7, h6', hs7, hwy⟩ := hrel
    simp only [frameOf, Nat.reduceAdd, h6']
    have Hh6' := hid h6'; clear h6'
    subst hwy
    have HS7 := hid hs7
    have hk1 : ¬ (9223372036854775807 : Int) < k + 1 := by have h1 := HML.out; have h2 := HVL.out; have h3 := HKE.out; unfold maxLen at h1; omega
    clear hs7 z2
    go_wp2_with fail
    refine (HX.out (xs[k]'HKE.out) (List.getElem_mem _) 0 X S wy (by omega) (EIn.kept (HL.out.keeps S) (fun _ h => h) _ _ HEX.out) (rexs_at HO.out _ (List.getElem_mem _)) (by have := HZ6.out; omega)).mono ?_
    rintro e w1 ⟨rfl, hL1⟩
    have HL1 := hid (Later.trans _ _ _ HL.out hL1)
    obtain ⟨s8, hs8⟩ : ∃ s, strB (printD (xs[k]'HKE.out) 0) = s := ⟨_, rfl⟩
    rw [hs8]
    have z3 : ¬ 9223372036854775807 < s7.size + s8.size := by
      have h1 := HZ6.out
      have h2 := printD_len (xs[k]'HKE.out) 0 (by omega)
      rw [← hs8, strB_size]
      have h3 : s7.size ≤ s6.size + 2 := by
        rw [HS7.out, HS6.out, strB_size, strB_size, List.length_append]
        have : (if k = 0 then ([] : List UInt8) else [44, 32]).length ≤ 2 := by split <;> decide
        omega
      omega
    have HCAT2 : Hid (s7 ++ s8 = strB (f ++ [40] ++ printsD false (xs.take (k + 1)))) := hid (by rw [HS7.out, ← hs8]; exact step_str (f ++ [40]) xs k HKE.out)
    clear hL1 c2 hlt m0 hml hs8
    go_wp2_with fail
    refine Round.mk' HR1.out Hmu1.out rfl ?_ ?_
    · exact ⟨k + 1, _, rfl, HKE.out, rfl, HCAT2.out, HL1.out⟩
    · rw [Hh7.out]; have := HKE.out; simp [intOf, slots]; omega
  · have hki : ¬ (k : Int) < vs.length := by have := HVL.out; omega
    have hkk : k = xs.length := by have := HKX.out; omega
    subst hkk
    have hq' : ¬ (9 : Int) < q := by have := HQ.out; omega
    have z2 : ¬ 9223372036854775807 < s6.size + 1 := by
      have h1 := printsD_len xs false
      have h3 := HCO.out
      rw [HS6.out, strB_size, List.take_length]
      simp only [List.length_append, List.length_cons, List.length_nil]
      omega
    clear hke hkx
    go_wp2_with fail
    refine bodyPost_ret (results_tmp rfl _ _ _) rfl ⟨?_, HL.out⟩
    unfold printD
    rw [brk_neg (by have := HQ.out; omega)]
    show Ending.returned (.string (s6 ++ ⟨#[41]⟩)) = _
    rw [HS6.out, List.take_length, show (⟨#[41]⟩ : ByteArray) = strB [41] from rfl, strB_append]
    simp
mutual
theorem rprc_all : ∀ x : Ex, RPrC x
  | .lit v => rprc_lit v
  | .name s p => rprc_name s p
  | .un neg p x => rprc_un neg p x (rprc_all x)
  | .bin o p x y => rprc_bin o p x y (rprc_all x) (rprc_all y)
  | .call f p l => rprc_call f p l (rprcs_all l)
theorem rprcs_all : ∀ l : List Ex, ∀ x ∈ l, RPrC x
  | [], _, h => absurd h (by simp)
  | y :: l, x, h => by
    rcases List.mem_cons.1 h with h | h
    · rw [h]; exact rprc_all y
    · exact rprcs_all l x h
end
end Go.Proofs.YtgajofkeidjbgaaGreatDoor
