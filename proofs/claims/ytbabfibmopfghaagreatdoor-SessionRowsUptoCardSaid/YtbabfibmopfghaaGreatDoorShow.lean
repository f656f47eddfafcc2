/-
  PROVED HERE: the contracts of value.Show and of the document's Show.
-/
import Derived.Test.YtbabfibmopfghaaGreatDoorDecimal
import Derived.Test.YtbabfibmopfghaaGreatDoorValid
import Derived.Test.YtbabfibmopfghaaGreatDoorShelf
namespace Go.Proofs.YtbabfibmopfghaaGreatDoor
set_option linter.unusedSimpArgs false
set_option linter.unusedVariables false
open Go.RowKit

/-- what is written of a value. -/
def showV (x : Val) : List UInt8 :=
  if validV x = true then (if x.k = 1 then Lib.itoa x.n else if x.k = 2 then (if x.n = 1 then [116, 114, 117, 101] else [102, 97, 108, 115, 101]) else if x.k = 3 then quoteL x.t.data.toList else [110, 117, 108, 108]) else []
abbrev PowTab (w : World) : Prop := Lib.TabIs Tryz.prog w "internal/strconv.uint64pow10" .u64 Lib.pow10Tab

theorem fmt_int (n : Int) (w : World) (h0 : -9223372036854775808 ≤ n) (h1 : n ≤ 9223372036854775807) (ht : PowTab w) : Calls Tryz.prog 53 #[.int .i64 n, .int .i64 10] w (StrTo w (Lib.itoa n)) := by
  have HT := hid ht
  clear ht
  go_enter Tryz.func53, Tryz.ntmps53
  go_wp2_with (go_at_call 128; refine (Tryz.internal_strconv_FormatInt_10 n h0 h1 _ HT.out).mono ?_; rintro e w1 ⟨rfl, k, os, rfl⟩)
  go_ret
  exact ⟨rfl, grow_later _ _ _⟩
def boolT (b : Bool) : List UInt8 := if b = true then [116, 114, 117, 101] else [102, 97, 108, 115, 101]
theorem fmt_bool (b : Bool) (w : World) : Calls Tryz.prog 129 #[.bool b] w (StrTo w (boolT b)) := by
  have h : Calls Tryz.prog 196 #[.bool b] w (StrTo w (boolT b)) := by
    cases b
    ·
      go_enter Tryz.func196, Tryz.ntmps196
      go_wp2
      go_ret
      exact ⟨rfl, Later.refl _⟩
    ·
      go_enter Tryz.func196, Tryz.ntmps196
      go_wp2
      go_ret
      exact ⟨rfl, Later.refl _⟩
  have H := hid h
  clear h
  go_enter Tryz.func129, Tryz.ntmps129
  go_wp2_with (go_at_call 196; refine H.out.mono ?_; rintro e w1 ⟨rfl, hL⟩)
  go_ret
  exact ⟨rfl, hL⟩
theorem PowTab.later {w w' : World} (h : PowTab w) (k : Later w w') : PowTab w' := Lib.tabBelow_of_tabIs h w' k

set_option maxRecDepth 100000 in
set_option maxHeartbeats 2000000 in
theorem show_any (x : Val) (w : World) (hx : (Lit.int .i64 x.n).wf = true) (ht : PowTab w) : Calls Tryz.prog 54 #[x.v] w (StrTo w (showV x)) := by
  have hn' : -9223372036854775808 ≤ x.n ∧ x.n ≤ 9223372036854775807 := by simpa [Lit.wf, IntKind.min, IntKind.max, IntKind.bits, IntKind.signed] using hx
  have HN := hid hn'
  have HT := hid ht
  clear hn' hx ht
  cases hv : validV x with
  | false =>
    have HS : Hid (showV x = []) := hid (by unfold showV; rw [hv]; rfl)
    have HV := hid hv
    obtain ⟨k, n, t⟩ := x
    clear hv
    go_enter Tryz.func54, Tryz.ntmps54
    go_wp2_with fail
    refine (valid_any ⟨k, n, t⟩ _).mono ?_
    rintro e w1 ⟨rfl, hL⟩
    rw [HV.out]
    have HL := hid (Later.of_alloc hL)
    clear hL
    go_wp2_with fail
    go_ret
    exact ⟨ret_str HS.out.symm, HL.out⟩
  | true =>
    have HV := hid hv
    have HS : Hid (showV x = if x.k = 1 then Lib.itoa x.n else if x.k = 2 then (if x.n = 1 then [116, 114, 117, 101] else [102, 97, 108, 115, 101]) else if x.k = 3 then quoteL x.t.data.toList else [110, 117, 108, 108]) := hid (by unfold showV; rw [if_pos hv])
    have HTZ : Hid (x.k = 3 → x.t.size ≤ 60) := hid fun h3 => by
      unfold validV at hv
      simp [h3] at hv
      exact hv.2
    obtain ⟨k, n, t⟩ := x
    simp only at HN HS HTZ
    clear hv
    go_enter Tryz.func54, Tryz.ntmps54
    go_wp2_with fail
    refine (valid_any ⟨k, n, t⟩ _).mono ?_
    rintro e w1 ⟨rfl, hL⟩
    rw [HV.out]
    have hX := hL.obj (obj_new w _)
    have x0 := cell_obj (i := 0) hX rfl
    have x1 := cell_obj (i := 1) hX rfl
    have x2 := cell_obj (i := 2) hX rfl
    have HL := hid (Later.of_alloc hL)
    clear hL hX
    by_cases k1 : k = 1
    · subst k1
      have HS1 : Hid (showV ⟨1, n, t⟩ = Lib.itoa n) := hid (HS.out.trans (if_pos rfl))
      clear HS
      go_wp2_with fail
      refine (fmt_int n _ HN.out.1 HN.out.2 (HT.out.later HL.out)).mono ?_
      rintro e w2 ⟨rfl, hL2⟩
      have HL2 := hid (Later.trans _ _ _ HL.out hL2)
      clear hL2 x0 x1 x2
      go_wp2
      go_ret
      exact ⟨ret_str HS1.out.symm, HL2.out⟩
    have HS1 : Hid (showV ⟨k, n, t⟩ = if k = 2 then (if n = 1 then [116, 114, 117, 101] else [102, 97, 108, 115, 101]) else if k = 3 then quoteL t.data.toList else [110, 117, 108, 108]) := hid (HS.out.trans (if_neg k1))
    clear HS
    by_cases k2 : k = 2
    · subst k2
      have HS2 : Hid (showV ⟨2, n, t⟩ = boolT (n == 1)) := hid (HS1.out.trans ((if_pos rfl).trans (by simp [boolT])))
      clear HS1
      go_wp2_with fail
      refine (fmt_bool (n == 1) _).mono ?_
      rintro e w2 ⟨rfl, hL2⟩
      have HL2 := hid (Later.trans _ _ _ HL.out hL2)
      rw [← HS2.out]
      clear hL2 x0 x1 x2 k1
      go_wp2
      go_ret
      exact ⟨rfl, HL2.out⟩
    have HS2 : Hid (showV ⟨k, n, t⟩ = if k = 3 then quoteL t.data.toList else [110, 117, 108, 108]) := hid (HS1.out.trans (if_neg k2))
    clear HS1
    by_cases k3 : k = 3
    · subst k3
      have HS3 : Hid (showV ⟨3, n, t⟩ = quoteL t.data.toList) := hid (HS2.out.trans (if_pos rfl))
      clear HS2
      go_wp2_with fail
      refine (quote_any t _ (by have := HTZ.out (by first | rfl | trivial); omega)).mono ?_
      rintro e w2 ⟨rfl, hL2⟩
      have HL2 := hid (Later.trans _ _ _ HL.out hL2)
      rw [← HS3.out]
      clear hL2 x0 x1 x2 k1 k2
      go_wp2
      go_ret
      exact ⟨rfl, HL2.out⟩
    have HS3 : Hid (showV ⟨k, n, t⟩ = [110, 117, 108, 108]) := hid (HS2.out.trans (if_neg k3))
    clear HS2
    go_wp2
    go_ret
    exact ⟨ret_str HS3.out.symm, HL.out⟩

set_option maxRecDepth 100000 in
set_option maxHeartbeats 2000000 in
theorem rshow_any (x : Val) (w : World) (hx : (Lit.int .i64 x.n).wf = true) : Calls Tryz.prog 55 #[x.v] w (StrTo w (showV x)) := by
  have hn' : -9223372036854775808 ≤ x.n ∧ x.n ≤ 9223372036854775807 := by simpa [Lit.wf, IntKind.min, IntKind.max, IntKind.bits, IntKind.signed] using hx
  have HN := hid hn'
  clear hn' hx
  cases hv : validV x with
  | false =>
    have HS : Hid (showV x = []) := hid (by unfold showV; rw [hv]; rfl)
    have HV := hid hv
    obtain ⟨k, n, t⟩ := x
    clear hv
    go_enter Tryz.func55, Tryz.ntmps55
    go_wp2_with fail
    refine (rvalid_any ⟨k, n, t⟩ _).mono ?_
    rintro e w1 ⟨rfl, hL⟩
    rw [HV.out]
    have HL := hid (Later.of_alloc hL)
    clear hL
    go_wp2_with fail
    go_ret
    exact ⟨ret_str HS.out.symm, HL.out⟩
  | true =>
    have HV := hid hv
    have HS : Hid (showV x = if x.k = 1 then Lib.itoa x.n else if x.k = 2 then (if x.n = 1 then [116, 114, 117, 101] else [102, 97, 108, 115, 101]) else if x.k = 3 then quoteL x.t.data.toList else [110, 117, 108, 108]) := hid (by unfold showV; rw [if_pos hv])
    have HTZ : Hid (x.k = 3 → x.t.size ≤ 60) := hid fun h3 => by
      unfold validV at hv
      simp [h3] at hv
      exact hv.2
    obtain ⟨k, n, t⟩ := x
    simp only at HN HS HTZ
    clear hv
    go_enter Tryz.func55, Tryz.ntmps55
    go_wp2_with fail
    refine (rvalid_any ⟨k, n, t⟩ _).mono ?_
    rintro e w1 ⟨rfl, hL⟩
    rw [HV.out]
    have hX := hL.obj (obj_new w _)
    have x0 := cell_obj (i := 0) hX rfl
    have x1 := cell_obj (i := 1) hX rfl
    have x2 := cell_obj (i := 2) hX rfl
    have HL := hid (Later.of_alloc hL)
    clear hL hX
    by_cases k1 : k = 1
    · subst k1
      have HS1 : Hid (showV ⟨1, n, t⟩ = Lib.itoa n) := hid (HS.out.trans (if_pos rfl))
      clear HS
      go_wp2_with fail
      refine (decimal_any n _ HN.out.1 HN.out.2).mono ?_
      rintro e w2 ⟨rfl, hL2⟩
      have HL2 := hid (Later.trans _ _ _ HL.out hL2)
      clear hL2 x0 x1 x2
      go_wp2
      go_ret
      exact ⟨ret_str HS1.out.symm, HL2.out⟩
    have HS1 : Hid (showV ⟨k, n, t⟩ = if k = 2 then (if n = 1 then [116, 114, 117, 101] else [102, 97, 108, 115, 101]) else if k = 3 then quoteL t.data.toList else [110, 117, 108, 108]) := hid (HS.out.trans (if_neg k1))
    clear HS
    by_cases k3 : k = 3
    · subst k3
      have HS3 : Hid (showV ⟨3, n, t⟩ = quoteL t.data.toList) := hid (HS1.out.trans ((if_neg (by decide)).trans (if_pos rfl)))
      clear HS1
      go_wp2_with fail
      refine (rquote_any t _ (by have := HTZ.out (by first | rfl | trivial); omega)).mono ?_
      rintro e w2 ⟨rfl, hL2⟩
      have HL2 := hid (Later.trans _ _ _ HL.out hL2)
      rw [← HS3.out]
      clear hL2 x0 x1 x2 k1
      go_wp2
      go_ret
      exact ⟨rfl, HL2.out⟩
    by_cases k2 : k = 2
    · subst k2
      by_cases n1 : n = 1
      · subst n1
        have HS2 : Hid (showV ⟨2, 1, t⟩ = [116, 114, 117, 101]) := hid HS1.out
        clear HS1
        go_wp2
        go_ret
        exact ⟨ret_str HS2.out.symm, HL.out⟩
      · have HS2 : Hid (showV ⟨2, n, t⟩ = [102, 97, 108, 115, 101]) := hid (HS1.out.trans ((if_pos rfl).trans (if_neg n1)))
        clear HS1
        go_wp2
        go_ret
        exact ⟨ret_str HS2.out.symm, HL.out⟩
    · have HS2 : Hid (showV ⟨k, n, t⟩ = [110, 117, 108, 108]) := hid (HS1.out.trans ((if_neg k2).trans (if_neg k3)))
      clear HS1
      go_wp2
      go_ret
      exact ⟨ret_str HS2.out.symm, HL.out⟩
end Go.Proofs.YtbabfibmopfghaaGreatDoor
