/-
  PROVED HERE: the contracts of run.Show and of the document's Show of a row.
-/
import Derived.Test.YtbabfibmopfghaaGreatDoorGRowPlain
import Derived.Test.YtbabfibmopfghaaGreatDoorShowLen
namespace Go.Proofs.YtbabfibmopfghaaGreatDoor
set_option linter.unusedSimpArgs false
set_option linter.unusedVariables false
open Go.RowKit

theorem joinT_snoc (x : Val) : ∀ l : List Val, joinT (l ++ [x]) = (if l = [] then [] else joinT l ++ [44]) ++ 32 :: showV x
  | [] => rfl
  | [v] => by simp [joinT]
  | v :: u :: r => by
    have ih := joinT_snoc x (u :: r)
    rw [if_neg (by simp)] at ih
    rw [if_neg (by simp), List.cons_append, joinT_cons (r := u :: r ++ [x]) (by simp), ih, joinT_cons (r := u :: r) (by simp)]
    simp
def headT (t : Int) : List UInt8 := Lib.itoa t ++ [58]
/-- what is written after 'k' values. -/
def showK (t : Int) (l : List Val) (k : Nat) : List UInt8 := headT t ++ joinT (l.take k)
theorem showK_all (t : Int) (l : List Val) : showK t l l.length = showRow t l := by unfold showK headT showRow; rw [List.take_length]; simp
theorem showK_zero (t : Int) (l : List Val) : showK t l 0 = headT t := by unfold showK; simp [joinT]
theorem showK_one (t : Int) {l : List Val} (h : 0 < l.length) : showK t l (0 + 1) = showK t l 0 ++ 32 :: showV l[0] := by
  rw [showK_zero]
  unfold showK
  rw [List.take_succ_eq_append_getElem h, joinT_snoc]; simp
theorem showK_snoc (t : Int) {l : List Val} {k : Nat} (h : k < l.length) (hk : k ≠ 0) : showK t l (k + 1) = showK t l k ++ 44 :: 32 :: showV l[k] := by
  have hn : l.take k ≠ [] := by
    intro e
    have := congrArg List.length e
    rw [List.length_take, List.length_nil] at this
    omega
  unfold showK
  rw [List.take_succ_eq_append_getElem h, joinT_snoc, if_neg hn]; simp
theorem itoa_len20 {n : Int} (h : (Lit.int .i64 n).wf = true) : (Lib.itoa n).length ≤ 21 := by
  have hn : -9223372036854775808 ≤ n ∧ n ≤ 9223372036854775807 := by simpa [Lit.wf, IntKind.min, IntKind.max, IntKind.bits, IntKind.signed] using h
  unfold Lib.itoa
  split
  · have := dec_len 19 n.natAbs (by omega)
    simp only [List.length_cons]; omega
  · have := dec_len 19 n.toNat (by omega)
    omega
theorem showK_len (t : Int) (l : List Val) (ht : (Lit.int .i64 t).wf = true) (hl : ∀ x ∈ l, (Lit.int .i64 x.n).wf = true) : ∀ k, k ≤ l.length → (showK t l k).length ≤ 22 + 202 * k
  | 0, _ => by rw [showK_zero]; have := itoa_len20 ht; simp only [headT, List.length_append, List.length_cons, List.length_nil]; omega
  | k + 1, h => by
    have ih := showK_len t l ht hl k (by omega)
    have hx := showV_len l[k] (by simpa [Lit.wf, IntKind.min, IntKind.max, IntKind.bits, IntKind.signed] using hl _ (List.getElem_mem (by omega)))
    by_cases hk : k = 0
    · subst hk
      rw [showK_one t (by omega)]
      simp only [List.length_append, List.length_cons]; omega
    · rw [showK_snoc t (by omega) hk]
      simp only [List.length_append, List.length_cons]; omega

set_option maxRecDepth 100000 in
set_option maxHeartbeats 2000000 in
theorem show_row (t : Int) (l : List Val) (v : Value) (w : World) (hv : IsVals w v l) (hlz : l.length ≤ 1099511627776) (htw : (Lit.int .i64 t).wf = true) (hg : ∀ x ∈ l, (Lit.int .i64 x.n).wf = true) (ht : PowTab w) :
    Calls Tryz.prog 18 #[.agg #[.int .i64 t, v]] w (StrTo w (showRow t l)) := by
  obtain ⟨p, c, rfl, hac, hcm, -, hea⟩ := hv
  have HT := hid ht
  have HE := hid hea
  have HG := hid hg
  have HLN := hid (showK_len t l htw hg)
  have htn : -9223372036854775808 ≤ t ∧ t ≤ 9223372036854775807 := by simpa [Lit.wf, IntKind.min, IntKind.max, IntKind.bits, IntKind.signed] using htw
  have HTN := hid htn
  have HI20 := hid (itoa_len20 htw)
  clear ht hea hg hac hcm htw htn
  go_enter Tryz.func18, Tryz.ntmps18
  go_wp2_with fail
  refine (fmt_int t _ HTN.out.1 HTN.out.2 (HT.out.later (Later.alloc _ _))).mono ?_
  rintro e w1 ⟨rfl, hL1⟩
  have hX := hL1.obj (obj_new w _)
  have HX := hid hX
  have HL1 := hid hL1
  have hz0 : (strB (Lib.itoa t)).size = (Lib.itoa t).length := strB_size _
  have hz1 := HI20.out
  have HQ0 : Hid (strB (Lib.itoa t) ++ (⟨#[58]⟩ : ByteArray) = strB (showK t l 0)) := hid (by rw [showK_zero, show (⟨#[58]⟩ : ByteArray) = strB [58] from rfl, strB_append]; rfl)
  have x1 := cell_obj (i := 1) hX rfl
  clear hL1 hX
  go_wp2_with fail
  clear x1 hz0 hz1
  obtain ⟨R1, hR1⟩ : ∃ RR_ : (Nat → Value) → World → Prop, RR_ = (fun us wx => ∃ k : Nat, k ≤ l.length ∧ us 13 = .int .i64 k ∧ us 3 = .string (strB (showK t l k)) ∧ Later w1 wx) := ⟨_, rfl⟩
  obtain ⟨mu1, hmu1⟩ : ∃ mu : (Nat → Value) → World → Nat, mu = (fun us _ => l.length - (intOf (us 13)).toNat) := ⟨_, rfl⟩
  have HR1 := hid hR1; have Hmu1 := hid hmu1; clear hR1 hmu1
  refine wp_loop_frame' [false, false, false, true, true, true, false, false, false, false, false, false, false, true, true, true, true, true, true, true, true, true, true, true, true, true, true, true] R1 _ mu1 HR1.out ?_ ?_
  · exact ⟨0, by omega, rfl, congrArg Value.string HQ0.out, Later.refl _⟩
  intro us1 wx hrel
  obtain ⟨k, hk, h13, h3, hL⟩ := hrel
  simp only [frameOf, Nat.reduceAdd, h13, h3]
  have Hh13 := hid h13; clear h13
  have Hh3 := hid h3; clear h3
  have HL := hid hL
  clear hL
  by_cases hlt : k < l.length
  · obtain ⟨b1, o1, rfl, -, e1⟩ := HE.out k hlt
    obtain ⟨p1, p2, p3⟩ := e1.later (Later.trans _ _ _ (Later.of_alloc HL1.out) HL.out)
    have HX0 : Hid (k = 0 → showK t l (k + 1) = showK t l k ++ 32 :: showV l[k]) := hid (fun e => by subst e; exact showK_one t hlt)
    have HX1 : Hid (k ≠ 0 → showK t l (k + 1) = showK t l k ++ 44 :: 32 :: showV l[k]) := hid (fun e => showK_snoc t hlt e)
    have hok := HG.out _ (List.getElem_mem hlt)
    have hkk : (0 : Int) ≤ k := by omega
    have hln := HLN.out k hk
    generalize hS : showK t l k = S at *
    generalize l[k] = x at *
    obtain ⟨xk, xn, xt⟩ := x
    simp only at p1 p2 p3 hok
    have HN := hid hok
    have hsl := showV_len ⟨xk, xn, xt⟩ (by simpa [Lit.wf, IntKind.min, IntKind.max, IntKind.bits, IntKind.signed] using hok)
    have hz1 : (strB (showV ⟨xk, xn, xt⟩)).size = (showV ⟨xk, xn, xt⟩).length := strB_size _
    have hz2 : (strB S).size = S.length := strB_size _
    clear e1 hok hS
    by_cases k0 : k = 0
    · have HX := hid (HX0.out k0)
      have hk0 : ¬ (0 : Int) < k := by omega
      clear HX0 HX1 k0
      go_wp2_with fail
      refine (show_any ⟨xk, xn, xt⟩ _ HN.out (HT.out.later (Later.trans _ _ _ (Later.of_alloc HL1.out) (Later.trans _ _ _ HL.out (Later.alloc _ _))))).mono ?_
      rintro e w2 ⟨rfl, hL2⟩
      have HL2 := hid (Later.trans _ _ _ HL.out (Later.of_alloc hL2))
      have HEQ : Hid (strB S ++ ((⟨#[32]⟩ : ByteArray) ++ strB (showV ⟨xk, xn, xt⟩)) = strB (showK t l (k + 1))) := hid (by
        rw [HX.out, show (⟨#[32]⟩ : ByteArray) = strB [32] from rfl]
        simp only [strB_append]
        simp)
      clear hL2 p1 p2 p3 hk0
      go_wp2_with fail
      refine Round.mk' HR1.out Hmu1.out rfl ?_ ?_
      · exact ⟨k + 1, by omega, by go_num, congrArg Value.string HEQ.out, HL2.out⟩
      · rw [Hh13.out]; simp [intOf, slots]; omega
    · have HX := hid (HX1.out k0)
      have hk0 : (0 : Int) < k := by omega
      clear HX0 HX1 k0
      go_wp2_with fail
      refine (show_any ⟨xk, xn, xt⟩ _ HN.out (HT.out.later (Later.trans _ _ _ (Later.of_alloc HL1.out) (Later.trans _ _ _ HL.out (Later.alloc _ _))))).mono ?_
      rintro e w2 ⟨rfl, hL2⟩
      have HL2 := hid (Later.trans _ _ _ HL.out (Later.of_alloc hL2))
      have HEQ : Hid (strB S ++ (⟨#[44]⟩ : ByteArray) ++ ((⟨#[32]⟩ : ByteArray) ++ strB (showV ⟨xk, xn, xt⟩)) = strB (showK t l (k + 1))) := hid (by
        rw [HX.out, show (⟨#[32]⟩ : ByteArray) = strB [32] from rfl, show (⟨#[44]⟩ : ByteArray) = strB [44] from rfl]
        simp only [strB_append]
        simp)
      clear hL2 p1 p2 p3 hk0
      go_wp2_with fail
      refine Round.mk' HR1.out Hmu1.out rfl ?_ ?_
      · exact ⟨k + 1, by omega, by go_num, congrArg Value.string HEQ.out, HL2.out⟩
      · rw [Hh13.out]; simp [intOf, slots]; omega
  · obtain rfl : k = l.length := by omega
    rw [showK_all]
    go_wp2_with fail
    go_ret
    exact ⟨rfl, Later.trans _ _ _ (Later.of_alloc HL1.out) HL.out⟩
set_option maxRecDepth 100000 in
set_option maxHeartbeats 2000000 in
theorem rshow_row (t : Int) (l : List Val) (v : Value) (w : World) (hv : IsVals w v l) (hlz : l.length ≤ 1099511627776) (htw : (Lit.int .i64 t).wf = true) (hg : ∀ x ∈ l, (Lit.int .i64 x.n).wf = true):
    Calls Tryz.prog 19 #[.agg #[.int .i64 t, v]] w (StrTo w (showRow t l)) := by
  obtain ⟨p, c, rfl, hac, hcm, -, hea⟩ := hv
  have HE := hid hea
  have HG := hid hg
  have HLN := hid (showK_len t l htw hg)
  have htn : -9223372036854775808 ≤ t ∧ t ≤ 9223372036854775807 := by simpa [Lit.wf, IntKind.min, IntKind.max, IntKind.bits, IntKind.signed] using htw
  have HTN := hid htn
  have HI20 := hid (itoa_len20 htw)
  have HSH : Hid (showV ⟨1, t, ByteArray.empty⟩ = Lib.itoa t) := hid (show_int (x := ⟨1, t, ByteArray.empty⟩) (by simp [validV]; decide +kernel) rfl)
  have HTW := hid htw
  clear hea hg hac hcm htw htn
  go_enter Tryz.func19, Tryz.ntmps19
  go_wp2_with fail
  refine (rshow_any ⟨1, t, ByteArray.empty⟩ _ HTW.out).mono ?_
  rintro e w1 ⟨rfl, hL1⟩
  rw [HSH.out]
  have hX := hL1.obj (obj_new w _)
  have HX := hid hX
  have HL1 := hid hL1
  have hz0 : (strB (Lib.itoa t)).size = (Lib.itoa t).length := strB_size _
  have hz1 := HI20.out
  have HQ0 : Hid (strB (Lib.itoa t) ++ (⟨#[58]⟩ : ByteArray) = strB (showK t l 0)) := hid (by rw [showK_zero, show (⟨#[58]⟩ : ByteArray) = strB [58] from rfl, strB_append]; rfl)
  have x1 := cell_obj (i := 1) hX rfl
  clear hL1 hX
  go_wp2_with fail
  clear x1 hz0 hz1
  obtain ⟨R1, hR1⟩ : ∃ RR_ : (Nat → Value) → World → Prop, RR_ = (fun us wx => ∃ k : Nat, k ≤ l.length ∧ us 4 = .int .i64 k ∧ us 3 = .string (strB (showK t l k)) ∧ Later w1 wx) := ⟨_, rfl⟩
  obtain ⟨mu1, hmu1⟩ : ∃ mu : (Nat → Value) → World → Nat, mu = (fun us _ => l.length - (intOf (us 4)).toNat) := ⟨_, rfl⟩
  have HR1 := hid hR1; have Hmu1 := hid hmu1; clear hR1 hmu1
  refine wp_loop_frame' [false, false, false, true, true, true, false, false, false, false, false, false, true, true, true, true, true, true, true, true, true, true, true, true, true, true, true, true, true, true, true, true, true] R1 _ mu1 HR1.out ?_ ?_
  · exact ⟨0, by omega, rfl, congrArg Value.string HQ0.out, Later.refl _⟩
  intro us1 wx hrel
  obtain ⟨k, hk, h4, h3, hL⟩ := hrel
  simp only [frameOf, Nat.reduceAdd, h4, h3]
  have Hh4 := hid h4; clear h4
  have Hh3 := hid h3; clear h3
  have HL := hid hL
  have x1 := cell_obj (i := 1) (hL.obj HX.out) rfl
  clear hL
  by_cases hlt : k < l.length
  · obtain ⟨b1, o1, rfl, -, e1⟩ := HE.out k hlt
    obtain ⟨p1, p2, p3⟩ := e1.later (Later.trans _ _ _ (Later.of_alloc HL1.out) HL.out)
    have HX0 : Hid (k = 0 → showK t l (k + 1) = showK t l k ++ 32 :: showV l[k]) := hid (fun e => by subst e; exact showK_one t hlt)
    have HX1 : Hid (k ≠ 0 → showK t l (k + 1) = showK t l k ++ 44 :: 32 :: showV l[k]) := hid (fun e => showK_snoc t hlt e)
    have hok := HG.out _ (List.getElem_mem hlt)
    have hkk : (0 : Int) ≤ k := by omega
    have hln := HLN.out k hk
    generalize hS : showK t l k = S at *
    generalize l[k] = x at *
    obtain ⟨xk, xn, xt⟩ := x
    simp only at p1 p2 p3 hok
    have HN := hid hok
    have hsl := showV_len ⟨xk, xn, xt⟩ (by simpa [Lit.wf, IntKind.min, IntKind.max, IntKind.bits, IntKind.signed] using hok)
    have hz1 : (strB (showV ⟨xk, xn, xt⟩)).size = (showV ⟨xk, xn, xt⟩).length := strB_size _
    have hz2 : (strB S).size = S.length := strB_size _
    clear e1 hok hS
    by_cases k0 : k = 0
    · have HX := hid (HX0.out k0)
      have hk0 : ¬ (0 : Int) < k := by omega
      clear HX0 HX1 k0
      go_wp2_with fail
      refine (rshow_any ⟨xk, xn, xt⟩ _ HN.out).mono ?_
      rintro e w2 ⟨rfl, hL2⟩
      have HL2 := hid (Later.trans _ _ _ HL.out hL2)
      have HEQ : Hid (strB S ++ (⟨#[32]⟩ : ByteArray) ++ strB (showV ⟨xk, xn, xt⟩) = strB (showK t l (k + 1))) := hid (by
        rw [HX.out, show (⟨#[32]⟩ : ByteArray) = strB [32] from rfl]
        simp only [strB_append]
        simp)
      clear hL2 p1 p2 p3 hk0 x1
      go_wp2_with fail
      refine Round.mk' HR1.out Hmu1.out rfl ?_ ?_
      · exact ⟨k + 1, by omega, by go_num, congrArg Value.string HEQ.out, HL2.out⟩
      · rw [Hh4.out]; simp [intOf, slots]; omega
    · have HX := hid (HX1.out k0)
      have hk0 : (0 : Int) < k := by omega
      clear HX0 HX1 k0
      go_wp2_with fail
      refine (rshow_any ⟨xk, xn, xt⟩ _ HN.out).mono ?_
      rintro e w2 ⟨rfl, hL2⟩
      have HL2 := hid (Later.trans _ _ _ HL.out hL2)
      have HEQ : Hid (strB S ++ (⟨#[44]⟩ : ByteArray) ++ (⟨#[32]⟩ : ByteArray) ++ strB (showV ⟨xk, xn, xt⟩) = strB (showK t l (k + 1))) := hid (by
        rw [HX.out, show (⟨#[32]⟩ : ByteArray) = strB [32] from rfl, show (⟨#[44]⟩ : ByteArray) = strB [44] from rfl]
        simp only [strB_append]
        simp)
      clear hL2 p1 p2 p3 hk0 x1
      go_wp2_with fail
      refine Round.mk' HR1.out Hmu1.out rfl ?_ ?_
      · exact ⟨k + 1, by omega, by go_num, congrArg Value.string HEQ.out, HL2.out⟩
      · rw [Hh4.out]; simp [intOf, slots]; omega
  · obtain rfl : k = l.length := by omega
    rw [showK_all]
    go_wp2_with fail
    go_ret
    exact ⟨rfl, Later.trans _ _ _ (Later.of_alloc HL1.out) HL.out⟩
end Go.Proofs.YtbabfibmopfghaaGreatDoor
