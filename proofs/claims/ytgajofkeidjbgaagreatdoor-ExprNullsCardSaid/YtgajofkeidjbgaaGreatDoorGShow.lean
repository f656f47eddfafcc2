/-
  PROVED HERE: the contracts of value.Show and of the document's Show.
  PROVED HERE: in plain Lean: what is written of a value is read as it: numbers, texts between quotes; what is read of a text is one thing, whichever way. No program of its own.
-/
import Derived.Test.YtgajofkeidjbgaaGreatDoorGRefQuote
import Derived.Test.YtgajofkeidjbgaaGreatDoorShelf
import Derived.Lib.ParseIntBCases
import Derived.Lib.ParseIntBTie
namespace Go.Proofs.YtgajofkeidjbgaaGreatDoor
set_option linter.unusedSimpArgs false
set_option linter.unusedVariables false
open Go.RowKit

/-- what is written of a value. -/
def showV (x : Val) : List UInt8 :=
  if validV x = true then (if x.k = 1 then Lib.itoa x.n else if x.k = 2 then (if x.n = 1 then [116, 114, 117, 101] else [102, 97, 108, 115, 101]) else if x.k = 3 then quoteL x.t.data.toList else [110, 117, 108, 108]) else []
abbrev PowTab (w : World) : Prop := Lib.TabIs Tryz.prog w "internal/strconv.uint64pow10" .u64 Lib.pow10Tab

theorem fmt_int (n : Int) (w : World) (h0 : -9223372036854775808 ≤ n) (h1 : n ≤ 9223372036854775807) (ht : PowTab w) : Calls Tryz.prog 141 #[.int .i64 n, .int .i64 10] w (StrTo w (Lib.itoa n)) := by
  have HT := hid ht
  clear ht
  go_enter Tryz.func141, Tryz.ntmps141
  go_wp2_with (go_at_call 150; refine (Tryz.internal_strconv_FormatInt_10 n h0 h1 _ HT.out).mono ?_; rintro e w1 ⟨rfl, k, os, rfl⟩)
  go_ret
  exact ⟨rfl, grow_later _ _ _⟩
def boolT (b : Bool) : List UInt8 := if b = true then [116, 114, 117, 101] else [102, 97, 108, 115, 101]
theorem fmt_bool (b : Bool) (w : World) : Calls Tryz.prog 142 #[.bool b] w (StrTo w (boolT b)) := by
  have h : Calls Tryz.prog 151 #[.bool b] w (StrTo w (boolT b)) := by
    cases b
    ·
      go_enter Tryz.func151, Tryz.ntmps151
      go_wp2
      go_ret
      exact ⟨rfl, Later.refl _⟩
    ·
      go_enter Tryz.func151, Tryz.ntmps151
      go_wp2
      go_ret
      exact ⟨rfl, Later.refl _⟩
  have H := hid h
  clear h
  go_enter Tryz.func142, Tryz.ntmps142
  go_wp2_with (go_at_call 151; refine H.out.mono ?_; rintro e w1 ⟨rfl, hL⟩)
  go_ret
  exact ⟨rfl, hL⟩
theorem PowTab.later {w w' : World} (h : PowTab w) (k : Later w w') : PowTab w' := Lib.tabBelow_of_tabIs h w' k

set_option maxRecDepth 100000 in
set_option maxHeartbeats 2000000 in
theorem show_any (x : Val) (w : World) (hx : (Lit.int .i64 x.n).wf = true) (ht : PowTab w) : Calls Tryz.prog 133 #[x.v] w (StrTo w (showV x)) := by
  have hn' : -9223372036854775808 ≤ x.n ∧ x.n ≤ 9223372036854775807 := by simpa [Lit.wf, IntKind.min, IntKind.max, IntKind.bits, IntKind.signed] using hx
  have HN := hid hn'
  have HT := hid ht
  clear hn' hx ht
  cases hv : validV x with
  | false =>
    have HS : Hid (showV x = []) := hid (by unfold showV; rw [hv]; rfl)
    have HV := hid hv
    obtain ⟨k, n, t⟩ := x
    clear hv
    go_enter Tryz.func133, Tryz.ntmps133
    go_wp2_with fail
    refine (valid_any ⟨k, n, t⟩ _).mono ?_
    rintro e w1 ⟨rfl, hL⟩
    rw [HV.out]
    have HL := hid (Later.of_alloc hL)
    clear hL
    go_wp2_with fail
    go_ret
    exact ⟨ret_str HS.out.symm, HL.out⟩
  | true =>
    have HV := hid hv
    have HS : Hid (showV x = if x.k = 1 then Lib.itoa x.n else if x.k = 2 then (if x.n = 1 then [116, 114, 117, 101] else [102, 97, 108, 115, 101]) else if x.k = 3 then quoteL x.t.data.toList else [110, 117, 108, 108]) := hid (by unfold showV; rw [if_pos hv])
    have HTZ : Hid (x.k = 3 → x.t.size ≤ 60) := hid fun h3 => by
      unfold validV at hv
      simp [h3] at hv
      exact hv.2
    obtain ⟨k, n, t⟩ := x
    simp only at HN HS HTZ
    clear hv
    go_enter Tryz.func133, Tryz.ntmps133
    go_wp2_with fail
    refine (valid_any ⟨k, n, t⟩ _).mono ?_
    rintro e w1 ⟨rfl, hL⟩
    rw [HV.out]
    have hX := hL.obj (obj_new w _)
    have x0 := cell_obj (i := 0) hX rfl
    have x1 := cell_obj (i := 1) hX rfl
    have x2 := cell_obj (i := 2) hX rfl
    have HL := hid (Later.of_alloc hL)
    clear hL hX
    by_cases k1 : k = 1
    · subst k1
      have HS1 : Hid (showV ⟨1, n, t⟩ = Lib.itoa n) := hid (HS.out.trans (if_pos rfl))
      clear HS
      go_wp2_with fail
      refine (fmt_int n _ HN.out.1 HN.out.2 (HT.out.later HL.out)).mono ?_
      rintro e w2 ⟨rfl, hL2⟩
      have HL2 := hid (Later.trans _ _ _ HL.out hL2)
      clear hL2 x0 x1 x2
      go_wp2
      go_ret
      exact ⟨ret_str HS1.out.symm, HL2.out⟩
    have HS1 : Hid (showV ⟨k, n, t⟩ = if k = 2 then (if n = 1 then [116, 114, 117, 101] else [102, 97, 108, 115, 101]) else if k = 3 then quoteL t.data.toList else [110, 117, 108, 108]) := hid (HS.out.trans (if_neg k1))
    clear HS
    by_cases k2 : k = 2
    · subst k2
      have HS2 : Hid (showV ⟨2, n, t⟩ = boolT (n == 1)) := hid (HS1.out.trans ((if_pos rfl).trans (by simp [boolT])))
      clear HS1
      go_wp2_with fail
      refine (fmt_bool (n == 1) _).mono ?_
      rintro e w2 ⟨rfl, hL2⟩
      have HL2 := hid (Later.trans _ _ _ HL.out hL2)
      rw [← HS2.out]
      clear hL2 x0 x1 x2 k1
      go_wp2
      go_ret
      exact ⟨rfl, HL2.out⟩
    have HS2 : Hid (showV ⟨k, n, t⟩ = if k = 3 then quoteL t.data.toList else [110, 117, 108, 108]) := hid (HS1.out.trans (if_neg k2))
    clear HS1
    by_cases k3 : k = 3
    · subst k3
      have HS3 : Hid (showV ⟨3, n, t⟩ = quoteL t.data.toList) := hid (HS2.out.trans (if_pos rfl))
      clear HS2
      go_wp2_with fail
      refine (quote_any t _ (by have := HTZ.out (by first | rfl | trivial); omega)).mono ?_
      rintro e w2 ⟨rfl, hL2⟩
      have HL2 := hid (Later.trans _ _ _ HL.out hL2)
      rw [← HS3.out]
      clear hL2 x0 x1 x2 k1 k2
      go_wp2
      go_ret
      exact ⟨rfl, HL2.out⟩
    have HS3 : Hid (showV ⟨k, n, t⟩ = [110, 117, 108, 108]) := hid (HS2.out.trans (if_neg k3))
    clear HS2
    go_wp2
    go_ret
    exact ⟨ret_str HS3.out.symm, HL.out⟩

set_option maxRecDepth 100000 in
set_option maxHeartbeats 2000000 in
theorem rshow_any (x : Val) (w : World) (hx : (Lit.int .i64 x.n).wf = true) : Calls Tryz.prog 25 #[x.v] w (StrTo w (showV x)) := by
  have hn' : -9223372036854775808 ≤ x.n ∧ x.n ≤ 9223372036854775807 := by simpa [Lit.wf, IntKind.min, IntKind.max, IntKind.bits, IntKind.signed] using hx
  have HN := hid hn'
  clear hn' hx
  cases hv : validV x with
  | false =>
    have HS : Hid (showV x = []) := hid (by unfold showV; rw [hv]; rfl)
    have HV := hid hv
    obtain ⟨k, n, t⟩ := x
    clear hv
    go_enter Tryz.func25, Tryz.ntmps25
    go_wp2_with fail
    refine (rvalid_any ⟨k, n, t⟩ _).mono ?_
    rintro e w1 ⟨rfl, hL⟩
    rw [HV.out]
    have HL := hid (Later.of_alloc hL)
    clear hL
    go_wp2_with fail
    go_ret
    exact ⟨ret_str HS.out.symm, HL.out⟩
  | true =>
    have HV := hid hv
    have HS : Hid (showV x = if x.k = 1 then Lib.itoa x.n else if x.k = 2 then (if x.n = 1 then [116, 114, 117, 101] else [102, 97, 108, 115, 101]) else if x.k = 3 then quoteL x.t.data.toList else [110, 117, 108, 108]) := hid (by unfold showV; rw [if_pos hv])
    have HTZ : Hid (x.k = 3 → x.t.size ≤ 60) := hid fun h3 => by
      unfold validV at hv
      simp [h3] at hv
      exact hv.2
    obtain ⟨k, n, t⟩ := x
    simp only at HN HS HTZ
    clear hv
    go_enter Tryz.func25, Tryz.ntmps25
    go_wp2_with fail
    refine (rvalid_any ⟨k, n, t⟩ _).mono ?_
    rintro e w1 ⟨rfl, hL⟩
    rw [HV.out]
    have hX := hL.obj (obj_new w _)
    have x0 := cell_obj (i := 0) hX rfl
    have x1 := cell_obj (i := 1) hX rfl
    have x2 := cell_obj (i := 2) hX rfl
    have HL := hid (Later.of_alloc hL)
    clear hL hX
    by_cases k1 : k = 1
    · subst k1
      have HS1 : Hid (showV ⟨1, n, t⟩ = Lib.itoa n) := hid (HS.out.trans (if_pos rfl))
      clear HS
      go_wp2_with fail
      refine (decimal_any n _ HN.out.1 HN.out.2).mono ?_
      rintro e w2 ⟨rfl, hL2⟩
      have HL2 := hid (Later.trans _ _ _ HL.out hL2)
      clear hL2 x0 x1 x2
      go_wp2
      go_ret
      exact ⟨ret_str HS1.out.symm, HL2.out⟩
    have HS1 : Hid (showV ⟨k, n, t⟩ = if k = 2 then (if n = 1 then [116, 114, 117, 101] else [102, 97, 108, 115, 101]) else if k = 3 then quoteL t.data.toList else [110, 117, 108, 108]) := hid (HS.out.trans (if_neg k1))
    clear HS
    by_cases k3 : k = 3
    · subst k3
      have HS3 : Hid (showV ⟨3, n, t⟩ = quoteL t.data.toList) := hid (HS1.out.trans ((if_neg (by decide)).trans (if_pos rfl)))
      clear HS1
      go_wp2_with fail
      refine (rquote_any t _ (by have := HTZ.out (by first | rfl | trivial); omega)).mono ?_
      rintro e w2 ⟨rfl, hL2⟩
      have HL2 := hid (Later.trans _ _ _ HL.out hL2)
      rw [← HS3.out]
      clear hL2 x0 x1 x2 k1
      go_wp2
      go_ret
      exact ⟨rfl, HL2.out⟩
    by_cases k2 : k = 2
    · subst k2
      by_cases n1 : n = 1
      · subst n1
        have HS2 : Hid (showV ⟨2, 1, t⟩ = [116, 114, 117, 101]) := hid HS1.out
        clear HS1
        go_wp2
        go_ret
        exact ⟨ret_str HS2.out.symm, HL.out⟩
      · have HS2 : Hid (showV ⟨2, n, t⟩ = [102, 97, 108, 115, 101]) := hid (HS1.out.trans ((if_pos rfl).trans (if_neg n1)))
        clear HS1
        go_wp2
        go_ret
        exact ⟨ret_str HS2.out.symm, HL.out⟩
    · have HS2 : Hid (showV ⟨k, n, t⟩ = [110, 117, 108, 108]) := hid (HS1.out.trans ((if_neg k2).trans (if_neg k3)))
      clear HS1
      go_wp2
      go_ret
      exact ⟨ret_str HS2.out.symm, HL.out⟩
end Go.Proofs.YtgajofkeidjbgaaGreatDoor
namespace Go.Proofs.YtgajofkeidjbgaaGreatDoor
set_option linter.unusedSimpArgs false
set_option linter.unusedVariables false
open Go.RowKit Go.Lib

theorem parse_app (M : Nat) : ∀ (a : List UInt8) (acc : Nat) (b : List UInt8) (u : Nat), parseUintM M acc a = .ok u → parseUintM M acc (a ++ b) = parseUintM M u b
  | [], acc, b, u, h => by
    simp only [parseUintM] at h
    injection h with h
    subst h
    rfl
  | c :: a, acc, b, u, h => by
    simp only [parseUintM, List.cons_append] at h ⊢
    split at h
    · rename_i h1
      rw [if_pos h1]
      split at h
      · cases h
      · rename_i h2
        rw [if_neg h2]
        split at h
        · cases h
        · rename_i h3
          rw [if_neg h3]
          exact parse_app M a _ b u h
    · cases h
theorem digit_nat (d : Nat) (h : d < 10) : (UInt8.ofNat (48 + d)).toNat = 48 + d := by rw [UInt8.toNat_ofNat']; omega
theorem parse_dec (M u : Nat) (hu : u ≤ M) (h64 : u < 18446744073709551616) : parseUintM M 0 (decDigits u) = .ok u := by
  induction u using Nat.strongRecOn with
  | ind u ih =>
    rw [decDigits]
    by_cases h : u < 10
    · rw [dif_pos h]
      simp only [parseUintM, digit_nat u h]
      rw [if_pos (by omega), if_neg (by omega), if_neg (by omega)]
      congr 1
      omega
    · rw [dif_neg h, parse_app M _ 0 _ _ (ih (u / 10) (by omega) (by omega) (by omega))]
      simp only [parseUintM, digit_nat (u % 10) (by omega)]
      rw [if_pos (by omega), if_neg (by omega), if_neg (by omega)]
      congr 1
      omega
theorem dec_ne (u : Nat) : decDigits u ≠ [] := by
  rw [decDigits]
  split <;> simp
theorem dec_digits (u : Nat) : ∀ c ∈ decDigits u, 48 ≤ c.toNat ∧ c.toNat ≤ 57 := by
  induction u using Nat.strongRecOn with
  | ind u ih =>
    rw [decDigits]
    by_cases h : u < 10
    · rw [dif_pos h]
      intro c hc
      obtain rfl := List.mem_singleton.1 hc
      rw [digit_nat u h]; omega
    · rw [dif_neg h]
      intro c hc
      rcases List.mem_append.1 hc with hc | hc
      · exact ih (u / 10) (by omega) c hc
      · obtain rfl := List.mem_singleton.1 hc
        rw [digit_nat (u % 10) (by omega)]; omega
theorem parseUint_dec (u : Nat) (hu : u < 18446744073709551616) : parseUintB 64 (decDigits u) = .ok u := by
  unfold parseUintB
  rw [if_neg (dec_ne u)]
  exact parse_dec _ u (by omega) hu
theorem parse_itoa (n : Int) (h0 : -9223372036854775808 ≤ n) (h1 : n ≤ 9223372036854775807) : parseIntB 64 (itoa n) = .ok n := by
  unfold itoa
  by_cases hn : n < 0
  · rw [if_pos hn, parseIntB_minus, parseUint_dec _ (by omega)]
    unfold signedC
    simp only
    rw [if_neg (by have : (2 : Nat) ^ (64 - 1) = 9223372036854775808 := by decide
                   omega)]
    congr 1
    omega
  · rw [if_neg hn]
    obtain ⟨c, r, hcr⟩ : ∃ c r, decDigits n.toNat = c :: r := by
      cases h : decDigits n.toNat with
      | nil => exact absurd h (dec_ne _)
      | cons c r => exact ⟨c, r, rfl⟩
    have hd := dec_digits n.toNat c (by rw [hcr]; exact List.mem_cons_self)
    have hp := parseUint_dec n.toNat (by omega)
    rw [hcr] at hp ⊢
    rw [parseIntB_plain _ _ _ (by omega) (by omega), hp]
    unfold signlessC
    simp only
    rw [if_neg (by have : (2 : Nat) ^ (64 - 1) = 9223372036854775808 := by decide
                   omega)]
    congr 1
    omega
theorem parse_bad (c : UInt8) (r : List UInt8) (h : ¬ (48 ≤ c.toNat ∧ c.toNat ≤ 57)) (h43 : c.toNat ≠ 43) (h45 : c.toNat ≠ 45) : parseIntB 64 (c :: r) = NumEnd.syntax := by
  rw [parseIntB_plain _ _ _ h43 h45]
  unfold parseUintB
  rw [if_neg (by simp)]
  simp only [parseUintM, if_neg h]
  rfl

/-- the number that digits make, with a sign ahead; it wraps. -/
def wholeF (n : Int) (l : List UInt8) : Int := l.foldl (fun n c => if 48 ≤ c.toNat ∧ c.toNat ≤ 57 then wrap64 (wrap64 (n * 10) + ((c.toNat : Int) - 48)) else n) n
def wholeR (l : List UInt8) : Int := if l.head? = some 45 then wrap64 (-(wholeF 0 l)) else wholeF 0 l
theorem wholeF_dec (u : Nat) : wholeF 0 (decDigits u) = wrap64 u := by
  induction u using Nat.strongRecOn with
  | ind u ih =>
    rw [decDigits]
    by_cases h : u < 10
    · rw [dif_pos h]
      unfold wholeF
      simp only [List.foldl_cons, List.foldl_nil, digit_nat u h]
      rw [if_pos (by omega)]
      unfold wrap64
      omega
    · rw [dif_neg h]
      unfold wholeF at *
      rw [List.foldl_append, ih (u / 10) (by omega)]
      simp only [List.foldl_cons, List.foldl_nil, digit_nat (u % 10) (by omega)]
      rw [if_pos (by omega)]
      unfold wrap64
      omega
theorem wholeR_itoa (n : Int) (h0 : -9223372036854775808 ≤ n) (h1 : n ≤ 9223372036854775807) : wholeR (itoa n) = n := by
  unfold itoa wholeR
  by_cases hn : n < 0
  · rw [if_pos hn, if_pos (show (45 :: decDigits n.natAbs).head? = some 45 from rfl)]
    have e : wholeF 0 (45 :: decDigits n.natAbs) = wholeF 0 (decDigits n.natAbs) := by
      unfold wholeF
      rw [List.foldl_cons, if_neg (by decide)]
    rw [e, wholeF_dec]
    unfold wrap64
    omega
  · rw [if_neg hn]
    obtain ⟨c, r, hcr⟩ : ∃ c r, decDigits n.toNat = c :: r := by
      cases h : decDigits n.toNat with
      | nil => exact absurd h (dec_ne _)
      | cons c r => exact ⟨c, r, rfl⟩
    have hd := dec_digits n.toNat c (by rw [hcr]; exact List.mem_cons_self)
    rw [if_neg (by
      rw [hcr]
      simp only [List.head?_cons, Option.some.injEq]
      intro e
      subst e
      have : (45 : UInt8).toNat = 45 := rfl
      omega), wholeF_dec]
    unfold wrap64
    omega

/-- what stands between quotes, by what a digit is. -/
def unqG (hv : UInt8 → Option Nat) : List UInt8 → List UInt8
  | [] => []
  | c :: r =>
    match r with
    | a :: b :: r' => if c = 92 then (match hv a, hv b with
        | some x, some y => UInt8.ofNat (16 * x + y) :: unqG hv r'
        | _, _ => c :: unqG hv (a :: b :: r')) else c :: unqG hv (a :: b :: r')
    | [a] => c :: unqG hv [a]
    | [] => [c]
theorem unqG_plain (hv : UInt8 → Option Nat) (c : UInt8) (r : List UInt8) (h : c ≠ 92) : unqG hv (c :: r) = c :: unqG hv r := by
  match r with
  | [] => simp [unqG]
  | [a] => simp [unqG]
  | a :: b :: r' => rw [unqG, if_neg h]
theorem unqG_hex (hv : UInt8 → Option Nat) (a b : UInt8) (r : List UInt8) {x y : Nat} (hx : hv a = some x) (hy : hv b = some y) : unqG hv (92 :: a :: b :: r) = UInt8.ofNat (16 * x + y) :: unqG hv r := by
  rw [unqG, if_pos rfl, hx, hy]
theorem unqG_quote (hv : UInt8 → Option Nat) (hh : ∀ k, k < 16 → hv (hexD k) = some k) : ∀ t : List UInt8, unqG hv (t.flatMap quoteC) = t
  | [] => rfl
  | c :: t => by
    have ih := unqG_quote hv hh t
    rw [List.flatMap_cons]
    have hc := UInt8.toNat_lt c
    have eq : quoteC c = if oddB c = true then [92, hexD (c.toNat / 16), hexD (c.toNat % 16)] else [c] := rfl
    rw [eq]
    split
    · rw [List.cons_append, List.cons_append, List.cons_append, List.nil_append, unqG_hex hv _ _ _ (hh _ (by omega)) (hh _ (by omega)), ih]
      congr 1
      apply UInt8.toNat_inj.1
      rw [UInt8.toNat_ofNat']
      omega
    · rename_i ho
      rw [List.cons_append, List.nil_append, unqG_plain hv c _ (fun e => ho (by subst e; decide)), ih]
def hexP (c : UInt8) : Option Nat := if 48 ≤ c.toNat ∧ c.toNat ≤ 57 then some (c.toNat - 48) else if 97 ≤ c.toNat ∧ c.toNat ≤ 102 then some (c.toNat - 87) else if 65 ≤ c.toNat ∧ c.toNat ≤ 70 then some (c.toNat - 55) else none
def hexR (c : UInt8) : Option Nat := if 48 ≤ c.toNat ∧ c.toNat ≤ 57 then some (c.toNat - 48) else if 97 ≤ c.toNat ∧ c.toNat ≤ 102 then some (c.toNat - 87) else none
theorem hexP_digit : ∀ k, k < 16 → hexP (hexD k) = some k := by decide
theorem hexR_digit : ∀ k, k < 16 → hexR (hexD k) = some k := by decide

def innerL (s : List UInt8) : List UInt8 := (s.drop 1).take (s.length - 2)
theorem inner_quote (l : List UInt8) : innerL (quoteL l) = l.flatMap quoteC := by
  unfold innerL quoteL
  simp
def trueL : List UInt8 := [116, 114, 117, 101]
def falseL : List UInt8 := [102, 97, 108, 115, 101]
def textV (l : List UInt8) : Val := ⟨3, 0, strB l⟩
def nothing : Val := ⟨0, 0, ByteArray.empty⟩
/-- what the program takes a text for. -/
def guessP (s : List UInt8) : Val :=
  match parseIntB 64 s with
  | .ok n => ⟨1, n, ByteArray.empty⟩
  | _ => if s = trueL ∨ s = falseL then ⟨2, if s = trueL then 1 else 0, ByteArray.empty⟩ else if 1 < s.length ∧ s.head? = some 39 then textV (unqG hexP (innerL s)) else nothing
def readP (s : List UInt8) : Option Val := if showV (guessP s) = s then some (guessP s) else none
def triesR (s : List UInt8) : List Val := [nothing, ⟨2, 0, ByteArray.empty⟩, ⟨2, 1, ByteArray.empty⟩, ⟨1, wholeR s, ByteArray.empty⟩, ⟨3, 0, if 1 < s.length then strB (unqG hexR (innerL s)) else ByteArray.empty⟩]
def readR (s : List UInt8) : Option Val := (triesR s).find? fun x => decide (showV x = s ∧ s ≠ [])
def IntOk (x : Val) : Prop := -9223372036854775808 ≤ x.n ∧ x.n ≤ 9223372036854775807
theorem str_empty {t : ByteArray} (h : (str t).isEmpty = true) : t = ByteArray.empty := by
  rw [← str_data] at h
  cases t
  simp only [List.isEmpty_iff] at h
  congr 1
  exact Array.toList_eq_nil_iff.1 h
/-- each value that is one, by its kind. -/
theorem valid_cases {x : Val} (h : validV x = true) : x = nothing ∨ (x.k = 1 ∧ x.t = ByteArray.empty) ∨ x = ⟨2, 0, ByteArray.empty⟩ ∨ x = ⟨2, 1, ByteArray.empty⟩ ∨ (x = textV x.t.data.toList ∧ x.t.size ≤ 60) := by
  obtain ⟨k, n, t⟩ := x
  unfold validV at h
  simp only at h
  split at h
  · rename_i hk
    simp only [Bool.and_eq_true, decide_eq_true_eq] at h
    exact .inl (by rw [hk, h.1, str_empty h.2]; rfl)
  split at h
  · rename_i hk
    exact .inr (.inl ⟨hk, str_empty h⟩)
  split at h
  · rename_i hk
    simp only [Bool.and_eq_true, Bool.or_eq_true, decide_eq_true_eq] at h
    rcases h.2 with h2 | h2
    · exact .inr (.inr (.inl (by rw [hk, h2, str_empty h.1])))
    · exact .inr (.inr (.inr (.inl (by rw [hk, h2, str_empty h.1]))))
  split at h
  · rename_i hk
    simp only [Bool.and_eq_true, decide_eq_true_eq] at h
    exact .inr (.inr (.inr (.inr ⟨by unfold textV; rw [hk, h.1, strB_data], h.2⟩)))
  · cases h
theorem show_int {x : Val} (h : validV x = true) (hk : x.k = 1) : showV x = itoa x.n := by unfold showV; rw [if_pos h, if_pos hk]
theorem show_text {x : Val} (h : validV x = true) (hk : x.k = 3) : showV x = quoteL x.t.data.toList := by unfold showV; rw [if_pos h, if_neg (by omega), if_neg (by omega), if_pos hk]
theorem itoa_ne (n : Int) : itoa n ≠ [] := by unfold itoa; split; simp; exact dec_ne _
theorem guess_show {x : Val} (h : validV x = true) (ho : IntOk x) : guessP (showV x) = x := by
  rcases valid_cases h with rfl | ⟨hk, ht⟩ | rfl | rfl | ⟨hx, ht⟩
  · have e : showV nothing = [110, 117, 108, 108] := by decide +kernel
    rw [e]
    unfold guessP
    rw [parse_bad 110 _ (by decide) (by decide) (by decide)]
    rfl
  · rw [show_int h hk]
    unfold guessP
    rw [parse_itoa _ ho.1 ho.2]
    obtain ⟨k, n, t⟩ := x
    simp only at hk ht ⊢
    rw [hk, ht]
  · have e : showV ⟨2, 0, ByteArray.empty⟩ = falseL := by decide +kernel
    rw [e]
    unfold guessP
    rw [show parseIntB 64 falseL = NumEnd.syntax from parse_bad 102 _ (by decide) (by decide) (by decide)]
    rfl
  · have e : showV ⟨2, 1, ByteArray.empty⟩ = trueL := by decide +kernel
    rw [e]
    unfold guessP
    rw [show parseIntB 64 trueL = NumEnd.syntax from parse_bad 116 _ (by decide) (by decide) (by decide)]
    rfl
  · have hk : x.k = 3 := by rw [hx]; rfl
    rw [show_text h hk]
    unfold guessP
    have e : parseIntB 64 (quoteL x.t.data.toList) = NumEnd.syntax := parse_bad 39 _ (by decide) (by decide) (by decide)
    rw [e]
    simp only
    rw [if_neg (by unfold quoteL trueL falseL; simp), if_pos ⟨by unfold quoteL; simp, rfl⟩, inner_quote, unqG_quote hexP hexP_digit]
    exact hx.symm
theorem tries_show {x : Val} (h : validV x = true) (ho : IntOk x) : x ∈ triesR (showV x) := by
  rcases valid_cases h with rfl | ⟨hk, ht⟩ | rfl | rfl | ⟨hx, ht⟩
  · exact List.mem_cons_self
  · rw [show_int h hk]
    unfold triesR
    rw [wholeR_itoa _ ho.1 ho.2]
    obtain ⟨k, n, t⟩ := x
    simp only at hk ht ⊢
    rw [hk, ht]
    simp
  · exact List.mem_cons_of_mem _ List.mem_cons_self
  · exact List.mem_cons_of_mem _ (List.mem_cons_of_mem _ List.mem_cons_self)
  · have hk : x.k = 3 := by rw [hx]; rfl
    rw [show_text h hk]
    unfold triesR
    rw [if_pos (show 1 < (quoteL x.t.data.toList).length by unfold quoteL; simp), inner_quote, unqG_quote hexR hexR_digit]
    have e : x = ⟨3, 0, strB x.t.data.toList⟩ := hx
    rw [← e]
    simp
theorem show_ne {x : Val} (h : showV x ≠ []) : validV x = true := by
  cases hv : validV x with
  | true => rfl
  | false => exact absurd (by unfold showV; rw [hv]; rfl) h
theorem show_some {x : Val} (h : validV x = true) : showV x ≠ [] := by
  unfold showV
  rw [if_pos h]
  split
  · exact itoa_ne _
  split
  · split <;> simp
  split
  · unfold quoteL; simp
  · simp
theorem show_inj {x y : Val} (hx : validV x = true) (hy : validV y = true) (ox : IntOk x) (oy : IntOk y) (h : showV x = showV y) : x = y := by rw [← guess_show hx ox, h, guess_show hy oy]
theorem wholeF_ok (l : List UInt8) : ∀ n : Int, (-9223372036854775808 ≤ n ∧ n ≤ 9223372036854775807) → -9223372036854775808 ≤ wholeF n l ∧ wholeF n l ≤ 9223372036854775807 := by
  unfold wholeF
  induction l with
  | nil => intro n h; exact h
  | cons c l ih =>
    intro n h
    rw [List.foldl_cons]
    refine ih _ ?_
    split
    · unfold wrap64; omega
    · exact h
theorem tries_ok (s : List UInt8) : ∀ x ∈ triesR s, IntOk x := by
  intro x hx
  unfold triesR at hx
  simp only [List.mem_cons, List.not_mem_nil, or_false] at hx
  have hw : -9223372036854775808 ≤ wholeR s ∧ wholeR s ≤ 9223372036854775807 := by
    unfold wholeR
    split
    · unfold wrap64; omega
    · exact wholeF_ok s 0 (by omega)
  unfold IntOk
  rcases hx with rfl | rfl | rfl | rfl | rfl <;> simp only [nothing] <;> first | exact hw | omega
theorem guess_ok (s : List UInt8) : IntOk (guessP s) := by
  unfold guessP
  split
  · rename_i n h
    have := parseIntB_bounds h
    have e : (2 : Nat) ^ (64 - 1) = 9223372036854775808 := by decide
    rw [e] at this
    unfold IntOk
    simp only
    omega
  · split
    · unfold IntOk
      simp only
      split <;> omega
    split
    · unfold IntOk textV; simp only; omega
    · unfold IntOk nothing; simp only; omega
theorem read_same (s : List UInt8) : readP s = readR s := by
  unfold readP
  by_cases h : showV (guessP s) = s
  · rw [if_pos h]
    have hne : s ≠ [] := by
      intro e
      subst e
      revert h
      decide +kernel
    have hv := show_ne (x := guessP s) (by rw [h]; exact hne)
    have hm := tries_show hv (guess_ok s)
    rw [h] at hm
    unfold readR
    symm
    have hex : ∃ y, (triesR s).find? (fun x => decide (showV x = s ∧ s ≠ [])) = some y := by
      cases hf : (triesR s).find? (fun x => decide (showV x = s ∧ s ≠ [])) with
      | some y => exact ⟨y, rfl⟩
      | none =>
        have := List.find?_eq_none.1 hf _ hm
        exact absurd (decide_eq_true ⟨h, hne⟩) this
    obtain ⟨y, hy⟩ := hex
    rw [hy]
    have h0 : decide (showV y = s ∧ s ≠ []) = true := List.find?_some (p := fun x => decide (showV x = s ∧ s ≠ [])) hy
    have h1 := of_decide_eq_true h0
    have h2 := List.mem_of_find?_eq_some hy
    rw [show_inj (show_ne (by rw [h1.1]; exact hne)) hv (tries_ok s y h2) (guess_ok s) (h1.1.trans h.symm)]
  · rw [if_neg h]
    unfold readR
    symm
    rw [List.find?_eq_none]
    intro y hy hc
    have h1 := of_decide_eq_true hc
    have hv := show_ne (x := y) (by rw [h1.1]; exact h1.2)
    have := guess_show hv (tries_ok s y hy)
    rw [h1.1] at this
    exact h (by rw [this]; exact h1.1)
end Go.Proofs.YtgajofkeidjbgaaGreatDoor
