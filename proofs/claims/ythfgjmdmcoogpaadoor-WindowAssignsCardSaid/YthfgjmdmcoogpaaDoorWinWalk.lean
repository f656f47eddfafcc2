/-
  PROVED HERE: the walk of streamwrightlaw5.WindowAssigns.
-/
import Derived.Test.YthfgjmdmcoogpaaDoorWinAssign
import Derived.Test.YthfgjmdmcoogpaaDoorTold
namespace Go.Proofs.YthfgjmdmcoogpaaDoor
set_option linter.unusedSimpArgs false
set_option linter.unusedVariables false
open Go.RowKit

set_option maxRecDepth 100000 in
set_option maxHeartbeats 4000000 in
theorem assigns_walk (k s p t : Int) (w : World) (hs : -9223372036854775808 ≤ s ∧ s ≤ 9223372036854775807) (hg : Laid w) :
    Calls Tryd.prog 7 #[.agg #[.int .i64 k, .int .i64 s, .int .i64 p], .int .i64 t] w (BoolW w true) := by
  have HS := hid hs; have HG := hid hg
  clear hs hg
  by_cases hok : validW k s p = true ∧ 0 ≤ t ∧ t ≤ 1099511627776
  · have HOK := hid hok
    have t1 : ¬ t < 0 := by omega
    have t2 : ¬ 1099511627776 < t := by omega
    have t3 : t ≤ 1099511627776 := by omega
    have t4 : 0 ≤ t := by omega
    clear hok
    go_enter Tryd.func7, Tryd.ntmps7
    go_wp2_with fail
    refine (assign_any k s p t _ HOK.out.1 HOK.out.2).mono ?_
    rintro e w2 ⟨v2, rfl, ho2, hL2⟩
    have hX2 := hL2.obj (obj_new w (.cells #[.int .i64 k, .int .i64 s, .int .i64 p] 93 (0, 0)))
    have HX2 := hid hX2
    have HW2 := hid (owned_wins ho2)
    have HL2 := hid (Later.trans _ _ _ (Later.alloc w _) hL2)
    have x0 := cell_obj (i := 0) hX2 (v := .int .i64 k) rfl
    have x1 := cell_obj (i := 1) hX2 (v := .int .i64 s) rfl
    have x2 := cell_obj (i := 2) hX2 (v := .int .i64 p) rfl
    clear hX2 ho2 hL2
    go_wp2_with fail
    refine (rvalid_win k s p _ HS.out).mono ?_
    rintro e w3 ⟨rfl, hL3⟩
    have HX3 := hid (hL3.obj HX2.out)
    have HW3 := hid (HW2.out.wins_later hL3)
    have HL3 := hid (Later.trans _ _ _ HL2.out hL3)
    have x0 := cell_obj (i := 0) HX3.out (v := .int .i64 k) rfl
    have x1 := cell_obj (i := 1) HX3.out (v := .int .i64 s) rfl
    have x2 := cell_obj (i := 2) HX3.out (v := .int .i64 p) rfl
    clear hL3
    go_wp2_with fail
    refine (wvalid_any k s p _ HS.out).mono ?_
    rintro e w4 ⟨rfl, hL4⟩
    rw [HOK.out.1]
    have HX4 := hid (hL4.obj HX3.out)
    have HW4 := hid (HW3.out.wins_later hL4)
    have HL4 := hid (Later.trans _ _ _ HL3.out hL4)
    clear hL4 x0 x1 x2
    go_wp2_with fail
    refine (told_nil _).mono ?_
    rintro e w5 ⟨rfl, hL5⟩
    have HX5 := hid (hL5.obj HX4.out)
    have HW5 := hid (HW4.out.wins_later hL5)
    have HL5 := hid (Later.trans _ _ _ HL4.out hL5)
    have x0 := cell_obj (i := 0) HX5.out (v := .int .i64 k) rfl
    have x1 := cell_obj (i := 1) HX5.out (v := .int .i64 s) rfl
    have x2 := cell_obj (i := 2) HX5.out (v := .int .i64 p) rfl
    clear hL5
    go_wp2_with fail
    refine (rin_any k s p t _ HOK.out.1 HOK.out.2).mono ?_
    rintro e w6 ⟨v6, rfl, ho6, hL6⟩
    have HW6 := hid (owned_wins ho6)
    have HW56 := hid (HW5.out.wins_later hL6)
    have HL6 := hid (Later.trans _ _ _ HL5.out hL6)
    clear ho6 hL6 x0 x1 x2
    go_wp2_with fail
    refine (same_wins _ _ _ _ (HW56.out.map fun _ _ _ _ h => ⟨trivial, h⟩) (HW6.out.map fun _ _ _ _ h => ⟨trivial, h⟩)).mono ?_
    rintro e w7 ⟨rfl, hL7⟩
    have HL7 := hid (Later.trans _ _ _ HL6.out hL7)
    clear hL7
    go_wp2_with fail
    go_ret
    exact ⟨rfl, HL7.out⟩
  · have hno : validW k s p = false ∨ t < 0 ∨ 1099511627776 < t := by
      cases hv : validW k s p with
      | false => exact .inl rfl
      | true =>
        have : ¬ (0 ≤ t ∧ t ≤ 1099511627776) := fun h => hok ⟨hv, h⟩
        omega
    have HNO := hid hno
    clear hok hno
    go_enter Tryd.func7, Tryd.ntmps7
    go_wp2_with fail
    refine (assign_no k s p t _ HS.out HNO.out).mono ?_
    rintro e w2 ⟨rfl, hL2⟩
    have hX2 := hL2.obj (obj_new w (.cells #[.int .i64 k, .int .i64 s, .int .i64 p] 93 (0, 0)))
    have HX2 := hid hX2
    have HL2 := hid (Later.trans _ _ _ (Later.alloc w _) hL2)
    have x0 := cell_obj (i := 0) hX2 (v := .int .i64 k) rfl
    have x1 := cell_obj (i := 1) hX2 (v := .int .i64 s) rfl
    have x2 := cell_obj (i := 2) hX2 (v := .int .i64 p) rfl
    clear hX2 hL2
    go_wp2_with fail
    refine (rvalid_win k s p _ HS.out).mono ?_
    rintro e w3 ⟨rfl, hL3⟩
    have HX3 := hid (hL3.obj HX2.out)
    have HL3 := hid (Later.trans _ _ _ HL2.out hL3)
    have x0 := cell_obj (i := 0) HX3.out (v := .int .i64 k) rfl
    have x1 := cell_obj (i := 1) HX3.out (v := .int .i64 s) rfl
    have x2 := cell_obj (i := 2) HX3.out (v := .int .i64 p) rfl
    clear hL3
    go_wp2_with fail
    refine (wvalid_any k s p _ HS.out).mono ?_
    rintro e w4 ⟨rfl, hL4⟩
    have HX4 := hid (hL4.obj HX3.out)
    have HL4 := hid (Later.trans _ _ _ HL3.out hL4)
    clear hL4 x0 x1 x2
    go_wp2_with fail
    refine (told_errno 4 _ (HG.out.later HL4.out)).mono ?_
    rintro e w5 ⟨rfl, hL5⟩
    have HL5 := hid (Later.trans _ _ _ HL4.out hL5)
    clear hL5
    cases hv : validW k s p with
    | false =>
      clear hv
      go_wp2_with fail
      go_ret
      exact ⟨rfl, HL5.out⟩
    | true =>
      have hv' := HNO.out
      rw [hv] at hv'
      simp only [Bool.true_eq_false, false_or] at hv'
      clear hv
      by_cases h1 : t < 0
      · clear hv'
        go_wp2_with fail
        go_ret
        exact ⟨rfl, HL5.out⟩
      · have h2 : 1099511627776 < t := by omega
        clear hv'
        go_wp2_with fail
        go_ret
        exact ⟨rfl, HL5.out⟩
end Go.Proofs.YthfgjmdmcoogpaaDoor
