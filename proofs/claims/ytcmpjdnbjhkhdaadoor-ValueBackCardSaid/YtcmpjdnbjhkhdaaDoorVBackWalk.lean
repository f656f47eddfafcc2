/-
  PROVED HERE: streamwrightlaw1.ValueBack walked: it returns true.
-/
import Derived.Test.YtcmpjdnbjhkhdaaDoorValueRead
import Derived.Test.YtcmpjdnbjhkhdaaDoorEqSelf
namespace Go.Proofs.YtcmpjdnbjhkhdaaDoor
set_option linter.unusedSimpArgs false
set_option linter.unusedVariables false
open Go.RowKit

attribute [local go_sem high] run_eql_val' run_neq_val'
theorem show_emp (x : Val) : (strB (showV x)).toList.isEmpty = !validV x := by
  cases hv : validV x with
  | true =>
    have h := show_some hv
    cases hs : showV x with
    | nil => exact absurd hs h
    | cons c r =>
      rw [← decide_eq_emptyBytes]
      exact decide_eq_false (fun h => by have := congrArg ByteArray.size h; rw [strB_size] at this; simp at this)
  | false =>
    have h : showV x = [] := by unfold showV; rw [hv]; rfl
    rw [h]
    decide +kernel
theorem show_seven : showV ⟨1, -7, ⟨#[]⟩⟩ = [45, 55] := by decide +kernel
theorem show_len (x : Val) (hn : IntOk x) : (showV x).length ≤ 200 := by
  unfold showV
  split
  · rename_i hv
    split
    · unfold Lib.itoa
      split
      · have := dec_len 19 x.n.natAbs (by have := hn.1; have := hn.2; omega)
        simp only [List.length_cons]; omega
      · have := dec_len 19 x.n.toNat (by have := hn.1; have := hn.2; omega)
        omega
    · split
      · split <;> simp
      · split
        · rename_i h1 h2 h3
          unfold validV at hv
          simp [h3] at hv
          have := flat_len x.t.data.toList
          have hz : x.t.data.toList.length = x.t.size := rfl
          simp only [quoteL, List.length_cons, List.length_append, List.length_nil]
          omega
        · simp
  · simp
theorem seven_list : (strB [45, 55]).toList = [45, 55] := by decide +kernel
theorem read_show {x : Val} (h : validV x = true) (ho : IntOk x) : readP (showV x) = some x := by
  unfold readP
  rw [guess_show h ho, if_pos rfl]
theorem show_eq {x y : Val} (hx : validV x = true) (hy : validV y = true) (ox : IntOk x) (oy : IntOk y) : ((strB (showV x)).toList == (strB (showV y)).toList) = eqV x y := by
  cases h : eqV x y with
  | true => rw [eqv_same h]; exact beq_self_eq_true _
  | false => exact str_ne fun e => by have := show_inj hx hy ox oy e; rw [this, eqv_refl] at h; cases h
set_option maxRecDepth 100000 in
set_option maxHeartbeats 2000000 in
theorem vback_walk (x y : Val) (w : World) (hx : (Lit.int .i64 x.n).wf = true) (hy : (Lit.int .i64 y.n).wf = true) (hE : ErrVars w) (ht : PowTab w) : Calls Tryd.prog 8 #[x.v, y.v] w fun e w' => e = .returned (.bool true) ∧ Later w w' := by
  have HX := hid hx; have HY := hid hy; have HE := hid hE; have HT := hid ht
  have HXO : Hid (IntOk x) := hid (by have h : -9223372036854775808 ≤ x.n ∧ x.n ≤ 9223372036854775807 := by simpa [Lit.wf, IntKind.min, IntKind.max, IntKind.bits, IntKind.signed] using hx
                                      exact h)
  have HYO : Hid (IntOk y) := hid (by have h : -9223372036854775808 ≤ y.n ∧ y.n ≤ 9223372036854775807 := by simpa [Lit.wf, IntKind.min, IntKind.max, IntKind.bits, IntKind.signed] using hy
                                      exact h)
  clear hx hy hE ht
  obtain ⟨xk, xn, xt⟩ := x
  obtain ⟨yk, yn, yt⟩ := y
  go_enter Tryd.func8, Tryd.ntmps8
  go_upto_region 1 with (fail)
  obtain ⟨w0, hw0⟩ : ∃ w0, w0 = (w.alloc (.cells #[.int .i64 xk, .int .i64 xn, .string xt] 25 (0, 0))).alloc (.cells #[.int .i64 yk, .int .i64 yn, .string yt] 25 (0, 0)) := ⟨_, rfl⟩
  obtain ⟨A, hA⟩ : ∃ A, A = w.heap.size := ⟨_, rfl⟩
  obtain ⟨B, hB⟩ : ∃ B, B = w.heap.size + 1 := ⟨_, rfl⟩
  have HL0 : Hid (Later w w0) := hid (by rw [hw0]; exact (Later.alloc _ _).alloc' _)
  have HA0 : Hid (VObj w0 A ⟨xk, xn, xt⟩) := hid (by rw [hw0, hA]; exact (Later.alloc _ _).obj (obj_new w _))
  have HB0 : Hid (VObj w0 B ⟨yk, yn, yt⟩) := hid (by
    have h := obj_new (w.alloc (.cells #[.int .i64 xk, .int .i64 xn, .string xt] 25 (0, 0))) (.cells #[.int .i64 yk, .int .i64 yn, .string yt] 25 (0, 0))
    rw [World.size_alloc, ← hB, ← hw0] at h
    exact h)
  rw [← hw0, ← hB, ← hA]
  clear hw0 hB hA
  go_wp2_with fail
  refine (show_any ⟨1, -7, ⟨#[]⟩⟩ w0 (by decide) (HT.out.later HL0.out)).mono ?_
  rintro e w1 ⟨rfl, hL1⟩
  rw [show_seven]
  have HL1 := hid (Later.trans _ _ _ HL0.out hL1)
  have HA1 := hid (HA0.out.later hL1); have HB1 := hid (HB0.out.later hL1)
  have a0 := HA1.out.c0; have a1 := HA1.out.c1; have a2 := HA1.out.c2
  have b0 := HB1.out.c0; have b1 := HB1.out.c1; have b2 := HB1.out.c2
  have ha := cell_lt a0; have hb := cell_lt b0
  clear hL1 HA0 HB0 HL0
  go_wp2_with fail
  refine (valid_any ⟨xk, xn, xt⟩ _).mono ?_
  rintro e w2 ⟨rfl, hL2⟩
  have HL2 := hid (Later.trans _ _ _ HL1.out hL2)
  have HA2 := hid (HA1.out.later hL2); have HB2 := hid (HB1.out.later hL2)
  clear hL2 a0 a1 a2 b0 b1 b2 ha hb HA1 HB1 HL1
  have a0 := HA2.out.c0; have a1 := HA2.out.c1; have a2 := HA2.out.c2
  have b0 := HB2.out.c0; have b1 := HB2.out.c1; have b2 := HB2.out.c2
  have ha := cell_lt a0; have hb := cell_lt b0
  go_wp2_with fail
  refine (valid_any ⟨yk, yn, yt⟩ _).mono ?_
  rintro e w3 ⟨rfl, hL3⟩
  have HL3 := hid (Later.trans _ _ _ HL2.out hL3)
  have HA3 := hid (HA2.out.later hL3); have HB3 := hid (HB2.out.later hL3)
  clear hL3 a0 a1 a2 b0 b1 b2 ha hb HA2 HB2 HL2
  have a0 := HA3.out.c0; have a1 := HA3.out.c1; have a2 := HA3.out.c2
  have b0 := HB3.out.c0; have b1 := HB3.out.c1; have b2 := HB3.out.c2
  have ha := cell_lt a0; have hb := cell_lt b0
  go_wp2_with fail
  refine (show_any ⟨xk, xn, xt⟩ _ HX.out (HT.out.later HL3.out)).mono ?_
  rintro e w4 ⟨rfl, hL4⟩
  have HL4 := hid (Later.trans _ _ _ HL3.out hL4)
  have HA4 := hid (HA3.out.later hL4); have HB4 := hid (HB3.out.later hL4)
  clear hL4 a0 a1 a2 b0 b1 b2 ha hb HA3 HB3 HL3
  have a0 := HA4.out.c0; have a1 := HA4.out.c1; have a2 := HA4.out.c2
  have b0 := HB4.out.c0; have b1 := HB4.out.c1; have b2 := HB4.out.c2
  have ha := cell_lt a0; have hb := cell_lt b0
  go_wp2_with fail
  refine (show_any ⟨yk, yn, yt⟩ _ HY.out (HT.out.later HL4.out)).mono ?_
  rintro e w5 ⟨rfl, hL5⟩
  have HL5 := hid (Later.trans _ _ _ HL4.out hL5)
  have HA5 := hid (HA4.out.later hL5); have HB5 := hid (HB4.out.later hL5)
  clear hL5 a0 a1 a2 b0 b1 b2 ha hb HA4 HB4 HL4
  have hs7 : ((strB [45, 55]).toList == [45, 55]) = true := by decide +kernel
  have hex := show_emp ⟨xk, xn, xt⟩
  have hey := show_emp ⟨yk, yn, yt⟩
  have HLX := hid (show_len ⟨xk, xn, xt⟩ HXO.out)
  have HRX : Hid (validV ⟨xk, xn, xt⟩ = true → readP (showV ⟨xk, xn, xt⟩) = some ⟨xk, xn, xt⟩) := hid fun h => read_show h HXO.out
  have HEQ : Hid (validV ⟨xk, xn, xt⟩ = true → validV ⟨yk, yn, yt⟩ = true → ((strB (showV ⟨xk, xn, xt⟩)).toList == (strB (showV ⟨yk, yn, yt⟩)).toList) = eqV ⟨xk, xn, xt⟩ ⟨yk, yn, yt⟩) := hid fun h k => show_eq h k HXO.out HYO.out
  generalize validV ⟨xk, xn, xt⟩ = va at *
  generalize validV ⟨yk, yn, yt⟩ = vb at *
  generalize showV ⟨xk, xn, xt⟩ = sx at *
  generalize showV ⟨yk, yn, yt⟩ = sy at *
  cases va with
  | false =>
    cases vb <;>
      (simp only [Bool.not_false, Bool.not_true] at hex hey
       go_wp2_with fail
       go_ret
       exact ⟨rfl, HL5.out⟩)
  | true =>
    cases vb with
    | false =>
      simp only [Bool.not_false, Bool.not_true] at hex hey
      go_wp2_with fail
      go_ret
      exact ⟨rfl, HL5.out⟩
    | true =>
      simp only [Bool.not_true] at hex hey
      go_wp2_with fail
      refine (vread_any sx _ (by have := HLX.out; omega) (HE.out.later HL5.out) (HT.out.later HL5.out)).mono ?_
      rintro e w6 ⟨hL6, rfl⟩
      rw [HRX.out (by simp)]
      simp only [Option.getD_some, Option.isSome_some, if_true]
      have HL6 := hid (Later.trans _ _ _ HL5.out hL6)
      have HA6 := hid (HA5.out.later hL6); have HB6 := hid (HB5.out.later hL6)
      clear hL6 HA5 HB5 HL5
      go_upto_region 11 with (fail)
      obtain ⟨w7, hw7⟩ : ∃ w7, w7 = w6.alloc (.cells #[.int .i64 xk, .int .i64 xn, .string xt] 25 (0, 0)) := ⟨_, rfl⟩
      obtain ⟨C, hC⟩ : ∃ C, C = w6.heap.size := ⟨_, rfl⟩
      have HL7 : Hid (Later w w7) := hid (by rw [hw7]; exact Later.trans _ _ _ HL6.out (Later.alloc _ _))
      have HA7 : Hid (VObj w7 A ⟨xk, xn, xt⟩) := hid (by rw [hw7]; exact HA6.out.later (Later.alloc _ _))
      have HB7 : Hid (VObj w7 B ⟨yk, yn, yt⟩) := hid (by rw [hw7]; exact HB6.out.later (Later.alloc _ _))
      have HC7 : Hid (VObj w7 C ⟨xk, xn, xt⟩) := hid (by rw [hw7, hC]; exact obj_new _ _)
      rw [← hw7, ← hC]
      clear hw7 hC HA6 HB6 HL6
      have a0 := HA7.out.c0; have a1 := HA7.out.c1; have a2 := HA7.out.c2
      have b0 := HB7.out.c0; have b1 := HB7.out.c1; have b2 := HB7.out.c2
      have c0 := HC7.out.c0; have c1 := HC7.out.c1; have c2 := HC7.out.c2
      have ha := cell_lt a0; have hb := cell_lt b0; have hc := cell_lt c0
      have hst := HEQ.out (by simp) (by simp)
      have hself := eqv_refl ⟨xk, xn, xt⟩
      clear hs7 hex hey
      go_wp2_with fail
      go_ret
      refine ⟨ret_bool ?_, HL7.out⟩
      simp [slots]
end Go.Proofs.YtcmpjdnbjhkhdaaDoor
