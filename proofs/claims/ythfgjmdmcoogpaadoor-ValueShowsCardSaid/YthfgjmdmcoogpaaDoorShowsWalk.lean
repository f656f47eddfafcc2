/-
  PROVED HERE: streamwrightlaw1.ValueShows returns true, for every value and every row.
-/
import Derived.Test.YthfgjmdmcoogpaaDoorShow
namespace Go.Proofs.YthfgjmdmcoogpaaDoor
set_option linter.unusedSimpArgs false
set_option linter.unusedVariables false
open Go.RowKit

set_option maxRecDepth 100000 in
set_option maxHeartbeats 2000000 in
theorem shows_walk (x : Val) (r : Row) (v : Value) (w : World) (hx : (Lit.int .i64 x.n).wf = true) (hv : IsVals w v r.vals) (ht : PowTab w) :
    Calls Tryd.prog 10 #[x.v, .agg #[.int .i64 r.time, v]] w fun e w' => e = .returned (.bool true) ∧ Later w w' := by
  have HT := hid ht
  have HV := hid hv
  have HX := hid hx
  clear ht hv hx
  obtain ⟨k, n, t⟩ := x
  go_enter Tryd.func10, Tryd.ntmps10
  go_upto_region 1 with (fail)
  have hX := (Later.alloc (w.alloc (.cells #[.int .i64 k, .int .i64 n, .string t] 40)) (.cells #[.int .i64 r.time, v] 37)).obj (obj_new w (.cells #[.int .i64 k, .int .i64 n, .string t] 40))
  have hY := obj_new (w.alloc (.cells #[.int .i64 k, .int .i64 n, .string t] 40)) (.cells #[.int .i64 r.time, v] 37)
  simp only [World.size_alloc] at hY
  have hL0 : Later w ((w.alloc (.cells #[.int .i64 k, .int .i64 n, .string t] 40)).alloc (.cells #[.int .i64 r.time, v] 37)) := (Later.alloc _ _).alloc' _
  generalize (w.alloc (.cells #[.int .i64 k, .int .i64 n, .string t] 40)).alloc (.cells #[.int .i64 r.time, v] 37) = w0 at *
  obtain ⟨B, hB⟩ : ∃ B, B = w.heap.size := ⟨_, rfl⟩
  rw [← hB] at hX hY ⊢
  clear hB
  have HX0 := hid hX; have HY0 := hid hY; have HL0 := hid hL0
  have x0 := cell_obj (i := 0) hX rfl
  have x1 := cell_obj (i := 1) hX rfl
  have x2 := cell_obj (i := 2) hX rfl
  clear hX hY hL0
  go_wp2_with fail
  refine (valid_any ⟨k, n, t⟩ _).mono ?_
  rintro e w1 ⟨rfl, hL1⟩
  replace x0 := hL1.cell x0
  replace x1 := hL1.cell x1
  replace x2 := hL1.cell x2
  have HL1 := hid hL1
  clear hL1
  go_wp2_with fail
  refine (rvalid_any ⟨k, n, t⟩ _).mono ?_
  rintro e w2 ⟨rfl, hL2⟩
  have HL2 := hid (Later.trans _ _ _ HL1.out hL2)
  have y0 := cell_obj (i := 0) (HL2.out.obj HY0.out) rfl
  have y1 := cell_obj (i := 1) (HL2.out.obj HY0.out) rfl
  clear hL2 x0 x1 x2
  go_wp2_with fail
  refine (valid_row r.time r.vals _ _ (HV.out.later (Later.trans _ _ _ HL0.out HL2.out))).mono ?_
  rintro e w3 ⟨rfl, hL3⟩
  replace y0 := hL3.cell y0
  replace y1 := hL3.cell y1
  have HL3 := hid (Later.trans _ _ _ HL2.out hL3)
  clear hL3
  go_wp2_with fail
  refine (rvalid_row r.time r.vals _ _ (HV.out.later (Later.trans _ _ _ HL0.out HL3.out))).mono ?_
  rintro e w4 ⟨rfl, hL4⟩
  have HL4 := hid (Later.trans _ _ _ HL3.out hL4)
  have x0 := cell_obj (i := 0) (HL4.out.obj HX0.out) rfl
  have x1 := cell_obj (i := 1) (HL4.out.obj HX0.out) rfl
  have x2 := cell_obj (i := 2) (HL4.out.obj HX0.out) rfl
  clear hL4 y0 y1
  go_wp2_with fail
  refine (show_any ⟨k, n, t⟩ _ HX.out (HT.out.later (Later.trans _ _ _ HL0.out HL4.out))).mono ?_
  rintro e w5 ⟨rfl, hL5⟩
  replace x0 := hL5.cell x0
  replace x1 := hL5.cell x1
  replace x2 := hL5.cell x2
  have HL5 := hid (Later.trans _ _ _ HL4.out hL5)
  clear hL5
  go_wp2_with fail
  refine (rshow_any ⟨k, n, t⟩ _ HX.out).mono ?_
  rintro e w6 ⟨rfl, hL6⟩
  have HL6 := hid (Later.trans _ _ _ HL5.out hL6)
  have heq := str_eq (rfl : showV ⟨k, n, t⟩ = showV ⟨k, n, t⟩)
  clear hL6 x0 x1 x2
  go_wp2_with fail
  go_ret
  exact ⟨rfl, Later.trans _ _ _ HL0.out HL6.out⟩
end Go.Proofs.YthfgjmdmcoogpaaDoor
