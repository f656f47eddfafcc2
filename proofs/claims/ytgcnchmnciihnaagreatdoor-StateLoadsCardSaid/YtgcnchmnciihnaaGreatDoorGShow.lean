/-
  PROVED HERE: the contracts of value.Show and of the document's Show.
  PROVED HERE: what a row of the stores' laws lists (tables, the variable of a type) gives a walk; a world that meets the list.
  PROVED HERE: values that came in, opened by their cells.
  PROVED HERE: a map of texts to slices, by what it holds at each text: looking up, storing, deleting in a walk. No program of its own.
-/
import Derived.Test.YtgcnchmnciihnaaGreatDoorGRefQuote
import Derived.Test.YtgcnchmnciihnaaGreatDoorShelf
import Derived.Test.YtgcnchmnciihnaaGreatDoorGErr
import Derived.RowKitTokens
import Derived.Stop.LaidErr
import Derived.MakeChecks
import Derived.Lay
import Derived.Test.YtgcnchmnciihnaaGreatDoorRows
import Derived.Test.YtgcnchmnciihnaaGreatDoorGOpen
import Derived.Test.YtgcnchmnciihnaaGreatDoorGData
import Derived.Maps.OwnSet
import Derived.Maps.Range
import Derived.Sort.KeysCollected
import Derived.StringKeys
namespace Go.Proofs.YtgcnchmnciihnaaGreatDoor
set_option linter.unusedSimpArgs false
set_option linter.unusedVariables false
open Go.RowKit

/-- what is written of a value. -/
def showV (x : Val) : List UInt8 :=
  if validV x = true then (if x.k = 1 then Lib.itoa x.n else if x.k = 2 then (if x.n = 1 then [116, 114, 117, 101] else [102, 97, 108, 115, 101]) else if x.k = 3 then quoteL x.t.data.toList else [110, 117, 108, 108]) else []
abbrev PowTab (w : World) : Prop := Lib.TabIs Tryz.prog w "internal/strconv.uint64pow10" .u64 Lib.pow10Tab

theorem fmt_int (n : Int) (w : World) (h0 : -9223372036854775808 ≤ n) (h1 : n ≤ 9223372036854775807) (ht : PowTab w) : Calls Tryz.prog 98 #[.int .i64 n, .int .i64 10] w (StrTo w (Lib.itoa n)) := by
  have HT := hid ht
  clear ht
  go_enter Tryz.func98, Tryz.ntmps98
  go_wp2_with (go_at_call 109; refine (Tryz.internal_strconv_FormatInt_10 n h0 h1 _ HT.out).mono ?_; rintro e w1 ⟨rfl, k, os, rfl⟩)
  go_ret
  exact ⟨rfl, grow_later _ _ _⟩
def boolT (b : Bool) : List UInt8 := if b = true then [116, 114, 117, 101] else [102, 97, 108, 115, 101]
theorem fmt_bool (b : Bool) (w : World) : Calls Tryz.prog 99 #[.bool b] w (StrTo w (boolT b)) := by
  have h : Calls Tryz.prog 110 #[.bool b] w (StrTo w (boolT b)) := by
    cases b
    ·
      go_enter Tryz.func110, Tryz.ntmps110
      go_wp2
      go_ret
      exact ⟨rfl, Later.refl _⟩
    ·
      go_enter Tryz.func110, Tryz.ntmps110
      go_wp2
      go_ret
      exact ⟨rfl, Later.refl _⟩
  have H := hid h
  clear h
  go_enter Tryz.func99, Tryz.ntmps99
  go_wp2_with (go_at_call 110; refine H.out.mono ?_; rintro e w1 ⟨rfl, hL⟩)
  go_ret
  exact ⟨rfl, hL⟩
theorem PowTab.later {w w' : World} (h : PowTab w) (k : Later w w') : PowTab w' := Lib.tabBelow_of_tabIs h w' k

set_option maxRecDepth 100000 in
set_option maxHeartbeats 2000000 in
theorem show_any (x : Val) (w : World) (hx : (Lit.int .i64 x.n).wf = true) (ht : PowTab w) : Calls Tryz.prog 77 #[x.v] w (StrTo w (showV x)) := by
  have hn' : -9223372036854775808 ≤ x.n ∧ x.n ≤ 9223372036854775807 := by simpa [Lit.wf, IntKind.min, IntKind.max, IntKind.bits, IntKind.signed] using hx
  have HN := hid hn'
  have HT := hid ht
  clear hn' hx ht
  cases hv : validV x with
  | false =>
    have HS : Hid (showV x = []) := hid (by unfold showV; rw [hv]; rfl)
    have HV := hid hv
    obtain ⟨k, n, t⟩ := x
    clear hv
    go_enter Tryz.func77, Tryz.ntmps77
    go_wp2_with fail
    refine (valid_any ⟨k, n, t⟩ _).mono ?_
    rintro e w1 ⟨rfl, hL⟩
    rw [HV.out]
    have HL := hid (Later.of_alloc hL)
    clear hL
    go_wp2_with fail
    go_ret
    exact ⟨ret_str HS.out.symm, HL.out⟩
  | true =>
    have HV := hid hv
    have HS : Hid (showV x = if x.k = 1 then Lib.itoa x.n else if x.k = 2 then (if x.n = 1 then [116, 114, 117, 101] else [102, 97, 108, 115, 101]) else if x.k = 3 then quoteL x.t.data.toList else [110, 117, 108, 108]) := hid (by unfold showV; rw [if_pos hv])
    have HTZ : Hid (x.k = 3 → x.t.size ≤ 60) := hid fun h3 => by
      unfold validV at hv
      simp [h3] at hv
      exact hv.2
    obtain ⟨k, n, t⟩ := x
    simp only at HN HS HTZ
    clear hv
    go_enter Tryz.func77, Tryz.ntmps77
    go_wp2_with fail
    refine (valid_any ⟨k, n, t⟩ _).mono ?_
    rintro e w1 ⟨rfl, hL⟩
    rw [HV.out]
    have hX := hL.obj (obj_new w _)
    have x0 := cell_obj (i := 0) hX rfl
    have x1 := cell_obj (i := 1) hX rfl
    have x2 := cell_obj (i := 2) hX rfl
    have HL := hid (Later.of_alloc hL)
    clear hL hX
    by_cases k1 : k = 1
    · subst k1
      have HS1 : Hid (showV ⟨1, n, t⟩ = Lib.itoa n) := hid (HS.out.trans (if_pos rfl))
      clear HS
      go_wp2_with fail
      refine (fmt_int n _ HN.out.1 HN.out.2 (HT.out.later HL.out)).mono ?_
      rintro e w2 ⟨rfl, hL2⟩
      have HL2 := hid (Later.trans _ _ _ HL.out hL2)
      clear hL2 x0 x1 x2
      go_wp2
      go_ret
      exact ⟨ret_str HS1.out.symm, HL2.out⟩
    have HS1 : Hid (showV ⟨k, n, t⟩ = if k = 2 then (if n = 1 then [116, 114, 117, 101] else [102, 97, 108, 115, 101]) else if k = 3 then quoteL t.data.toList else [110, 117, 108, 108]) := hid (HS.out.trans (if_neg k1))
    clear HS
    by_cases k2 : k = 2
    · subst k2
      have HS2 : Hid (showV ⟨2, n, t⟩ = boolT (n == 1)) := hid (HS1.out.trans ((if_pos rfl).trans (by simp [boolT])))
      clear HS1
      go_wp2_with fail
      refine (fmt_bool (n == 1) _).mono ?_
      rintro e w2 ⟨rfl, hL2⟩
      have HL2 := hid (Later.trans _ _ _ HL.out hL2)
      rw [← HS2.out]
      clear hL2 x0 x1 x2 k1
      go_wp2
      go_ret
      exact ⟨rfl, HL2.out⟩
    have HS2 : Hid (showV ⟨k, n, t⟩ = if k = 3 then quoteL t.data.toList else [110, 117, 108, 108]) := hid (HS1.out.trans (if_neg k2))
    clear HS1
    by_cases k3 : k = 3
    · subst k3
      have HS3 : Hid (showV ⟨3, n, t⟩ = quoteL t.data.toList) := hid (HS2.out.trans (if_pos rfl))
      clear HS2
      go_wp2_with fail
      refine (quote_any t _ (by have := HTZ.out (by first | rfl | trivial); omega)).mono ?_
      rintro e w2 ⟨rfl, hL2⟩
      have HL2 := hid (Later.trans _ _ _ HL.out hL2)
      rw [← HS3.out]
      clear hL2 x0 x1 x2 k1 k2
      go_wp2
      go_ret
      exact ⟨rfl, HL2.out⟩
    have HS3 : Hid (showV ⟨k, n, t⟩ = [110, 117, 108, 108]) := hid (HS2.out.trans (if_neg k3))
    clear HS2
    go_wp2
    go_ret
    exact ⟨ret_str HS3.out.symm, HL.out⟩

set_option maxRecDepth 100000 in
set_option maxHeartbeats 2000000 in
theorem rshow_any (x : Val) (w : World) (hx : (Lit.int .i64 x.n).wf = true) : Calls Tryz.prog 61 #[x.v] w (StrTo w (showV x)) := by
  have hn' : -9223372036854775808 ≤ x.n ∧ x.n ≤ 9223372036854775807 := by simpa [Lit.wf, IntKind.min, IntKind.max, IntKind.bits, IntKind.signed] using hx
  have HN := hid hn'
  clear hn' hx
  cases hv : validV x with
  | false =>
    have HS : Hid (showV x = []) := hid (by unfold showV; rw [hv]; rfl)
    have HV := hid hv
    obtain ⟨k, n, t⟩ := x
    clear hv
    go_enter Tryz.func61, Tryz.ntmps61
    go_wp2_with fail
    refine (rvalid_any ⟨k, n, t⟩ _).mono ?_
    rintro e w1 ⟨rfl, hL⟩
    rw [HV.out]
    have HL := hid (Later.of_alloc hL)
    clear hL
    go_wp2_with fail
    go_ret
    exact ⟨ret_str HS.out.symm, HL.out⟩
  | true =>
    have HV := hid hv
    have HS : Hid (showV x = if x.k = 1 then Lib.itoa x.n else if x.k = 2 then (if x.n = 1 then [116, 114, 117, 101] else [102, 97, 108, 115, 101]) else if x.k = 3 then quoteL x.t.data.toList else [110, 117, 108, 108]) := hid (by unfold showV; rw [if_pos hv])
    have HTZ : Hid (x.k = 3 → x.t.size ≤ 60) := hid fun h3 => by
      unfold validV at hv
      simp [h3] at hv
      exact hv.2
    obtain ⟨k, n, t⟩ := x
    simp only at HN HS HTZ
    clear hv
    go_enter Tryz.func61, Tryz.ntmps61
    go_wp2_with fail
    refine (rvalid_any ⟨k, n, t⟩ _).mono ?_
    rintro e w1 ⟨rfl, hL⟩
    rw [HV.out]
    have hX := hL.obj (obj_new w _)
    have x0 := cell_obj (i := 0) hX rfl
    have x1 := cell_obj (i := 1) hX rfl
    have x2 := cell_obj (i := 2) hX rfl
    have HL := hid (Later.of_alloc hL)
    clear hL hX
    by_cases k1 : k = 1
    · subst k1
      have HS1 : Hid (showV ⟨1, n, t⟩ = Lib.itoa n) := hid (HS.out.trans (if_pos rfl))
      clear HS
      go_wp2_with fail
      refine (decimal_any n _ HN.out.1 HN.out.2).mono ?_
      rintro e w2 ⟨rfl, hL2⟩
      have HL2 := hid (Later.trans _ _ _ HL.out hL2)
      clear hL2 x0 x1 x2
      go_wp2
      go_ret
      exact ⟨ret_str HS1.out.symm, HL2.out⟩
    have HS1 : Hid (showV ⟨k, n, t⟩ = if k = 2 then (if n = 1 then [116, 114, 117, 101] else [102, 97, 108, 115, 101]) else if k = 3 then quoteL t.data.toList else [110, 117, 108, 108]) := hid (HS.out.trans (if_neg k1))
    clear HS
    by_cases k3 : k = 3
    · subst k3
      have HS3 : Hid (showV ⟨3, n, t⟩ = quoteL t.data.toList) := hid (HS1.out.trans ((if_neg (by decide)).trans (if_pos rfl)))
      clear HS1
      go_wp2_with fail
      refine (rquote_any t _ (by have := HTZ.out (by first | rfl | trivial); omega)).mono ?_
      rintro e w2 ⟨rfl, hL2⟩
      have HL2 := hid (Later.trans _ _ _ HL.out hL2)
      rw [← HS3.out]
      clear hL2 x0 x1 x2 k1
      go_wp2
      go_ret
      exact ⟨rfl, HL2.out⟩
    by_cases k2 : k = 2
    · subst k2
      by_cases n1 : n = 1
      · subst n1
        have HS2 : Hid (showV ⟨2, 1, t⟩ = [116, 114, 117, 101]) := hid HS1.out
        clear HS1
        go_wp2
        go_ret
        exact ⟨ret_str HS2.out.symm, HL.out⟩
      · have HS2 : Hid (showV ⟨2, n, t⟩ = [102, 97, 108, 115, 101]) := hid (HS1.out.trans ((if_pos rfl).trans (if_neg n1)))
        clear HS1
        go_wp2
        go_ret
        exact ⟨ret_str HS2.out.symm, HL.out⟩
    · have HS2 : Hid (showV ⟨k, n, t⟩ = [110, 117, 108, 108]) := hid (HS1.out.trans ((if_neg k2).trans (if_neg k3)))
      clear HS1
      go_wp2
      go_ret
      exact ⟨ret_str HS2.out.symm, HL.out⟩
end Go.Proofs.YtgcnchmnciihnaaGreatDoor
namespace Go.Proofs.YtgcnchmnciihnaaGreatDoor
set_option linter.unusedSimpArgs false
set_option linter.unusedVariables false
open Go.ChangeShapes Go.WideShapes Go.RowKit

abbrev stTab : List (String × DataW Unit) := [("math/bits.deBruijn32tab", Rows.laid_math_bits_deBruijn32tab), ("math/bits.deBruijn64tab", Rows.laid_math_bits_deBruijn64tab), ("internal/strconv.uint64pow10", Rows.laid_internal_strconv_uint64pow10)]
abbrev stList : List (String × DataW Unit) := [("math/bits.deBruijn32tab", Rows.laid_math_bits_deBruijn32tab), ("math/bits.deBruijn64tab", Rows.laid_math_bits_deBruijn64tab), ("internal/strconv.uint64pow10", Rows.laid_internal_strconv_uint64pow10), ("errors.errorType", Rows.laid_errors_errorType)]
theorem tabS_data : (Rows.laid_internal_strconv_uint64pow10 : DataW Unit) = Lib.tabData .u64 Lib.pow10Tab := by kernel_rfl
theorem tabS_met {W : World} {rest : List (String × DataW Unit)} (h : laidMet Tryz.prog ((("internal/strconv.uint64pow10"), Rows.laid_internal_strconv_uint64pow10) :: rest) W) : PowTab W := by
  rw [tabS_data] at h
  exact Lib.tabIs_of_head (g := 2) (t := 191) (e := 87) (n := 20) (by kernel_rfl) (by kernel_rfl) (by kernel_rfl) (by kernel_rfl) (by kernel_rfl) (by kernel_rfl) h
theorem st_of {W : World} (h : laidMetH Tryz.prog stList W) : PowTab W ∧ Laid W := by
  have h' : laidMet Tryz.prog stTab W ∧ handlesMet Tryz.prog (laidList : List (String × DataW Unit)) W := h
  exact ⟨tabS_met (laidMet.tail (laidMet.tail h'.1)), laid_of ⟨laidMet_nil _ _, h'.2⟩⟩
noncomputable def stWorld (os : Os) : World := (laidWorld os).layVars Tryz.prog stTab
theorem stWorld_data (os : Os) : laidMet Tryz.prog stTab (stWorld os) := by
  have e1 : (stTab.filter fun x => (stTab.map (·.1)).contains x.1) = stTab := List.filter_eq_self.2 fun x hx => List.contains_iff_mem.2 (List.mem_map.2 ⟨x, hx, rfl⟩)
  have e2 : (stTab.filter fun x => !(stTab.map (·.1)).contains x.1) = [] := List.filter_eq_nil_iff.2 fun x hx => by rw [List.contains_iff_mem.2 (List.mem_map.2 ⟨x, hx, rfl⟩)]; simp
  exact laidMet_layVars (w0 := laidWorld os) (stTab.map (·.1)) [] (by rw [e1]; rfl) (by rw [e1]; kernel_rfl) (by rw [e1]; kernel_rfl) (by rw [e2]; exact LaidIn.none)
theorem stWorld_met (os : Os) (args : Array Value) : laidMetH Tryz.prog stList ((stWorld os).forCall (fun _ _ => 0) ⟨#[], args, []⟩).memory :=
  laidMetH_of_parts (l := stList) ((stWorld_data os).of_heap (by simp [World.memory, World.forCall, Input.heap])) (by kernel_rfl)
end Go.Proofs.YtgcnchmnciihnaaGreatDoor
namespace Go.Proofs.YtgcnchmnciihnaaGreatDoor
set_option linter.unusedSimpArgs false
set_option linter.unusedVariables false
open Go Go.RowKit Go.Deep

theorem list_one {α : Type} : ∀ {l : List α}, l.length = 1 → ∃ a, l = [a]
  | [a], _ => ⟨a, rfl⟩
theorem list_take {α : Type} {l : List α} {n i : Nat} (hl : l.length = n) (h : i < n) : ∃ a, l[i]? = some a ∧ (l.drop i).take 1 = [a] :=
  ⟨l[i]'(by omega), List.getElem?_eq_getElem (by omega), by rw [List.drop_eq_getElem_cons (by omega)]; rfl⟩
theorem list_three {α : Type} {l : List α} (h : l.length = 3) {a b c : α} (h0 : l[0]? = some a) (h1 : l[1]? = some b) (h2 : l[2]? = some c) : l = [a, b, c] := by
  match l, h with
  | [x, y, z], _ => simp at h0 h1 h2; simp [h0, h1, h2]

section
variable {H : Type} {enc : TypeId × Value → H} {w : World} {base : Nat} {spare : Nat → Bool} {held : Bool}
theorem cell_kind : Tryz.prog.cellsOf 50 = 1 := by kernel_rfl
theorem cell_i64 : Tryz.prog.cellsOf 2 = 1 := by kernel_rfl
theorem cell_str : Tryz.prog.cellsOf 9 = 1 := by kernel_rfl
theorem val_cells {n : Nat} {cs : List Value} {d : DataW H} {pl : List MemPlace} (h : DataW.trod enc Tryz.prog w base spare held n 52 cs = some (d, pl)) (hf : Fits Tryz.prog 52 d) : ∃ x : Val, cs = x.cells ∧ ValOk x := by
  obtain ⟨hl, hfs⟩ := open_struct Tryz.underlying52 h hf
  have hl' : cs.length = 3 := hl.trans (by kernel_rfl)
  obtain ⟨n0, d0, p0, t0, f0⟩ := hfs 0 _ rfl
  obtain ⟨n1, d1, p1, t1, f1⟩ := hfs 1 _ rfl
  obtain ⟨n2, d2, p2, t2, f2⟩ := hfs 2 _ rfl
  obtain ⟨a0, e0, s0⟩ := list_take (i := 0) hl' (by omega)
  obtain ⟨a1, e1, s1⟩ := list_take (i := 1) hl' (by omega)
  obtain ⟨a2, e2, s2⟩ := list_take (i := 2) hl' (by omega)
  change DataW.trod enc Tryz.prog w base spare held n0 50 ((cs.drop 0).take (Tryz.prog.cellsOf 50)) = _ at t0
  rw [cell_kind, s0] at t0
  change DataW.trod enc Tryz.prog w base spare held n1 2 ((cs.drop 1).take (Tryz.prog.cellsOf 2)) = _ at t1
  rw [cell_i64, s1] at t1
  change DataW.trod enc Tryz.prog w base spare held n2 9 ((cs.drop 2).take (Tryz.prog.cellsOf 9)) = _ at t2
  rw [cell_str, s2] at t2
  obtain ⟨k, q0, _, w0⟩ := DataW.trod_int Tryz.underlying50 t0
  obtain ⟨i, q1, _, w1⟩ := DataW.trod_int Tryz.underlying2 t1
  obtain ⟨s, q2, _, w2⟩ := DataW.trod_string Tryz.underlying9 t2
  simp only [List.cons.injEq, and_true] at q0 q1 q2
  subst q0 q1 q2
  exact ⟨⟨k, i, s⟩, list_three hl' e0 e1 e2, w0, w1, w2⟩
theorem vals_of {n : Nat} {cs : List Value} {d : DataW H} {pl : List MemPlace} (h : DataW.trod enc Tryz.prog w base spare held n 32 cs = some (d, pl)) (hf : Fits Tryz.prog 32 d) :
    ∃ v l, cs = [v] ∧ IsVals w v l ∧ (∀ x ∈ l, ValOk x) ∧ l.length * 32 ≤ reachBytes := by
  obtain ⟨v, l, h1, h2, h3, h4⟩ := open_list (At := ValAt) (Good := ValOk) (size := 3) Tryz.underlying32 (by kernel_rfl) (by decide) (fun n cs' d pl ht hf _ => by
    obtain ⟨x, rfl, hx⟩ := val_cells ht hf
    exact ⟨x, hx, fun b o hc => ⟨hc 0 _ rfl, hc 1 _ rfl, hc 2 _ rfl⟩⟩) h hf
  have hb : Tryz.prog.bytesOf 52 = 32 := by kernel_rfl
  rw [hb] at h4
  exact ⟨v, l, h1, h2, h3, h4⟩
theorem cell_vals : Tryz.prog.cellsOf 32 = 1 := by kernel_rfl
theorem list_two {α : Type} {l : List α} (h : l.length = 2) {a b : α} (h0 : l[0]? = some a) (h1 : l[1]? = some b) : l = [a, b] := by
  match l, h with
  | [x, y], _ => simp at h0 h1; simp [h0, h1]
end
end Go.Proofs.YtgcnchmnciihnaaGreatDoor
namespace Go.Proofs.YtgcnchmnciihnaaGreatDoor
set_option linter.unusedSimpArgs false
set_option linter.unusedVariables false
open Go Go.RowKit Go.Maps

/-- an element reads as itself. -/
def rawR (v : Value) : Option (DataW Value × List MemPlace) := some (.held v, [])
theorem rawR_inv {v : Value} {d : DataW Value} {ps : List MemPlace} (h : rawR v = some (d, ps)) : d = .held v := by
  simp only [rawR, Option.some.injEq, Prod.mk.injEq] at h
  exact h.1.symm
def nilS : Value := .slice none 0 0
/-- block M is a map that holds f. -/
def MapAt (w : World) (M n : Nat) (f : List UInt8 → Option Value) : Prop :=
  ∃ D : DataW Value, w.ownsMap Tryz.prog 9 rawR M n D ∧ ∀ k, Maps.has D (.string k) = (f k).isSome ∧ ∀ z, D.atKey (.string k) z = match f k with
    | some v => .held v
    | none => z
def upd (f : List UInt8 → Option Value) (k : List UInt8) (o : Option Value) : List UInt8 → Option Value := fun x => if x = k then o else f x
theorem lawS : Keyed Tryz.prog 9 := string_keyed Tryz.underlying9
theorem keyS (k : List UInt8) (h : k.length ≤ maxLen) : keyOf Tryz.prog 9 (.string (strB k)) = some (.string k) := by
  have := WideMaps.keyOf_string_mk Tryz.underlying9 (s := strB k) (by rw [strB_size]; exact h)
  exact this
theorem MapAt.lt {w : World} {M n : Nat} {f : List UInt8 → Option Value} (h : MapAt w M n f) : M < w.heap.size := let ⟨_, h, _⟩ := h; h.lt
theorem MapAt.kept {S : Nat → Prop} {w w' : World} {M n : Nat} {f : List UInt8 → Option Value} (h : MapAt w M n f) (k : Keeps S w w') (hs : S M) : MapAt w' M n f := by
  obtain ⟨D, ⟨es, clock, hb, F, hz, hD⟩, hf⟩ := h
  exact ⟨D, ⟨es, clock, k.obj hs hb, F, hz, hD⟩, hf⟩
theorem MapAt.later {w w' : World} {M n : Nat} {f : List UInt8 → Option Value} (h : MapAt w M n f) (k : Later w w') : MapAt w' M n f := h.kept (k.keeps fun _ => True) trivial
theorem MapAt.mono {w : World} {M n m : Nat} {f : List UInt8 → Option Value} (h : MapAt w M n f) (hn : n ≤ m) : MapAt w M m f := let ⟨D, h, hf⟩ := h; ⟨D, h.mono hn, hf⟩
theorem str_key {k x : List UInt8} (h : x ≠ k) : (Lit.string x) ≠ Lit.string k := fun e => h (by injection e)
theorem MapAt.made (w : World) : MapAt (w.alloc (.map #[] 0)) w.heap.size 0 (fun _ => none) := ⟨.map [], World.ownsMap_made _ _ _ _, fun k => ⟨rfl, fun z => rfl⟩⟩

section
variable {mt et : TypeId} (ht : Tryz.prog.underlying mt = some (.map 9 et)) (hz : ∀ w, (zeroValue et).run Tryz.prog w = .ok (.slice none 0 0) w)
include ht
variable {w : World} {M n : Nat} {f : List UInt8 → Option Value} {ops : Array Oper} {rest : List Oper} {o : Oper} {a : Act} {Q : Exit → Act → World → Prop}
include hz in
theorem MapAt.look (hM : MapAt w M n f) (k : List UInt8) (hk : k.length ≤ maxLen) : (Instr.lookup mt (.map (some M)) (.string (strB k)) true).run Tryz.prog w = .ok (.tuple #[(f k).getD nilS, .bool (f k).isSome]) w := by
  obtain ⟨D, hown, hf⟩ := hM
  obtain ⟨v, ps, hrun, hv⟩ := hown.look_ok lawS ht (hz w) (zd := .held nilS) (zp := []) rfl (keyS k hk)
  rw [hrun]
  have h1 := rawR_inv hv
  obtain ⟨h2, h3⟩ := hf k
  rw [h3] at h1
  rw [h2]
  cases hfk : f k with
  | none =>
    rw [hfk] at h1
    simp only [DataW.held.injEq] at h1
    rw [← h1]
    rfl
  | some u =>
    rw [hfk] at h1
    simp only [DataW.held.injEq] at h1
    rw [← h1]
    rfl
include hz in
theorem wpList_map_ok (hg : o.guard = none) (m x : Operand) (hop : o.op = Op.lookup mt m x true) (hm : a.eval m = .map (some M)) (hM : MapAt w M n f) (k : List UInt8) (hk : k.length ≤ maxLen) (hx : a.eval x = .string (strB k))
    (hK : wpList Tryz.prog ops Q rest (a.put o.dst (.tuple #[(f k).getD nilS, .bool (f k).isSome])) w) : wpList Tryz.prog ops Q (o :: rest) a w := by
  obtain ⟨D, hown, hf⟩ := hM
  refine wpList_lookup_own_ok w hg m x mt hop 9 et lawS ht rawR (hz w) (.held nilS) [] rfl M n D hm hown _ (.string k) hx (keyS k hk) fun v ps hv => ?_
  have h1 := rawR_inv hv
  obtain ⟨h2, h3⟩ := hf k
  rw [h3] at h1
  rw [h2]
  cases hfk : f k with
  | none =>
    rw [hfk] at h1 hK
    simp only [DataW.held.injEq] at h1
    rw [← h1]
    exact hK
  | some u =>
    rw [hfk] at h1 hK
    simp only [DataW.held.injEq] at h1
    rw [← h1]
    exact hK
include hz in
theorem wpList_map_get (hg : o.guard = none) (m x : Operand) (hop : o.op = Op.lookup mt m x false) (hm : a.eval m = .map (some M)) (hM : MapAt w M n f) (k : List UInt8) (hk : k.length ≤ maxLen) (hx : a.eval x = .string (strB k))
    (hK : wpList Tryz.prog ops Q rest (a.put o.dst ((f k).getD nilS)) w) : wpList Tryz.prog ops Q (o :: rest) a w := by
  obtain ⟨D, hown, hf⟩ := hM
  obtain ⟨v, ps, hrun, hv⟩ := hown.lookup lawS ht (hz w) (zd := .held nilS) (zp := []) rfl (keyS k hk)
  refine wpList_plain hg fun K' hK' => ?_
  unfold Oper.wp
  simp only [execOp, hop, hm, hx]
  simp [hrun, Result.andThen]
  refine hK' _ _ ?_
  have h1 := rawR_inv hv
  rw [(hf k).2] at h1
  cases hfk : f k with
  | none =>
    rw [hfk] at h1 hK
    simp only [DataW.held.injEq] at h1
    rw [← h1]
    exact hK
  | some u =>
    rw [hfk] at h1 hK
    simp only [DataW.held.injEq] at h1
    rw [← h1]
    exact hK
theorem wpList_map_put (hg : o.guard = none) (m x v : Operand) (hop : o.op = Op.mapUpdate mt m x v) (hm : a.eval m = .map (some M)) (hM : MapAt w M n f) (hn : n < maxLen) (k : List UInt8) (hk : k.length ≤ maxLen) (hx : a.eval x = .string (strB k)) (u : Value) (hv : a.eval v = u)
    (hK : ∀ w', MapAt w' M (n + 1) (upd f k (some u)) → Keeps (fun b => b ≠ M) w w' → wpList Tryz.prog ops Q rest (a.put o.dst undef) w') : wpList Tryz.prog ops Q (o :: rest) a w := by
  obtain ⟨D, hown, hf⟩ := hM
  refine wpList_mapUpdate_own w hg m x v mt hop 9 et lawS ht rawR M n D hm hown hn _ u (.string k) hx hv (keyS k hk) (.held u) [] rfl fun w' h' hg' => ?_
  refine hK w' ⟨_, h', fun y => ?_⟩ ((Keeps.of_grown hg').mono fun b _ hb e => hb (Option.some.inj e))
  unfold upd
  by_cases hy : y = k
  · subst hy
    rw [if_pos rfl]
    exact ⟨Maps.has_put_same hown.isMap (show WideAt.IsKeyLit (Lit.string y) from trivial) _, fun z => Maps.atKey_put_same hown.isMap (show WideAt.IsKeyLit (Lit.string y) from trivial) _ z⟩
  · rw [if_neg hy, Maps.has_put_other (str_key hy)]
    exact ⟨(hf y).1, fun z => by rw [Maps.atKey_put_other (str_key hy)]; exact (hf y).2 z⟩
theorem wpList_map_del (hg : o.guard = none) (m x : Operand) (hop : o.op = Op.call { callee := Callee.builtin Builtin.delete, args := #[m, x], argTypes := #[mt, 9] }) (hm : a.eval m = .map (some M)) (hM : MapAt w M n f) (k : List UInt8) (hk : k.length ≤ maxLen) (hx : a.eval x = .string (strB k))
    (hK : ∀ w', MapAt w' M n (upd f k none) → Keeps (fun b => b ≠ M) w w' → wpList Tryz.prog ops Q rest (a.put o.dst (.tuple #[])) w') : wpList Tryz.prog ops Q (o :: rest) a w := by
  obtain ⟨D, hown, hf⟩ := hM
  refine wpList_delete_own w hg m x mt 9 hop et lawS ht rawR M n D hm hown _ (.string k) hx (keyS k hk) fun w' h' hg' => ?_
  refine hK w' ⟨_, h', fun y => ?_⟩ ((Keeps.of_grown hg'.grown).mono fun b _ hb e => hb (Option.some.inj e))
  unfold upd
  by_cases hy : y = k
  · subst hy
    rw [if_pos rfl]
    exact ⟨Maps.has_del_same, fun z => Maps.atKey_del_same z⟩
  · rw [if_neg hy, Maps.has_del_other (str_key hy)]
    exact ⟨(hf y).1, fun z => by rw [Maps.atKey_del_other (str_key hy)]; exact (hf y).2 z⟩
end
/-- its keys. -/
theorem MapAt.keys {w : World} {M n : Nat} {f : List UInt8 → Option Value} (h : MapAt w M n f) {L : List (List UInt8)} (hn : L.Nodup) (hL : ∀ x, x ∈ L ↔ (f x).isSome = true) :
    ∃ D : DataW Value, w.ownsMap Tryz.prog 9 rawR M n D ∧ L.Perm (strKeys D) ∧ Maps.size D = L.length := by
  obtain ⟨D, hown, hf⟩ := h
  obtain ⟨es, rfl, hap, hlit⟩ := hown.entries lawS
  obtain ⟨es', he, hk⟩ := hown.keysOf
  injection he with he
  subst he
  have hp : L.Perm (strKeys (.map es : DataW Value)) := perm_strKeys hap (fun p hp => by
    obtain ⟨key, hkey⟩ := hk p hp
    obtain ⟨x, -, hx, -⟩ := Maps.keyOf_str Tryz.underlying9 hkey
    exact ⟨x, hx⟩) hn (fun x => by rw [hL, (hf x).1])
  refine ⟨_, hown, hp, ?_⟩
  rw [hp.length_eq]
  show es.length = (es.map _).length
  rw [List.length_map]
end Go.Proofs.YtgcnchmnciihnaaGreatDoor
